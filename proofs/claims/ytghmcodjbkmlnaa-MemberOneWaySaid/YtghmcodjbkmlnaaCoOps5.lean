/-
  Maps, lengths, several results, functions as values, literals of structs and arrays.
  Own text, for the claims about coterie.
-/
import Derived.Test.YtghmcodjbkmlnaaCoOps4
namespace Go.Co
open Go.RowKit

section
variable {P : Program} {T : Tab} (hT : TabOK P T) {tid : Nat}
include hT
/-! ### Maps -/
theorem sameNow_ok {kt : Ty} {kid : Nat} (hs : simpleKey kt = true) (he : T.get kid = some (.ty kt)) : ∃ d, P.underlying kid = some d ∧ (∀ ms, d ≠ .interface ms) ∧ (∀ n e, d ≠ .array n e) ∧ (∀ fs, d ≠ .struct fs) ∧ kt.agg = false ∧
    ∀ {w w' : World} {im im' : Nat → Prop} {x y : kt.den} {c e : List Value}, Rd w im kt x c → Rd w' im' kt y e → Instr.sameNow d (pk kt.agg c) (pk kt.agg e) = some (@decide (x = y) (kt.decEq x y)) ∧ (x = y → Instr.sameBits 10000 (pk kt.agg c) (pk kt.agg e) = true) := by
  have hd := (hT kid _ he).1
  cases kt <;> simp [simpleKey] at hs
  · rename_i k
    refine ⟨.int k, hd, by simp, by simp, by simp, rfl, fun {w w' im im' x y c e} hx hy => ?_⟩
    obtain ⟨rfl, _⟩ := Rd.int.1 hx
    obtain ⟨rfl, _⟩ := Rd.int.1 hy
    constructor
    · show Instr.sameNow (.int k) (.int k x) (.int k y) = _
      simp only [Instr.sameNow, if_true]
      congr 1
    · intro h; subst h
      show Instr.sameBits 10000 (.int k x) (.int k x) = true
      simp [Instr.sameBits]
  · refine ⟨.bool, hd, by simp, by simp, by simp, rfl, fun {w w' im im' x y c e} hx hy => ?_⟩
    have := Rd.bool.1 hx; subst this
    have := Rd.bool.1 hy; subst this
    constructor
    · show Instr.sameNow .bool (.bool x) (.bool y) = _
      simp only [Instr.sameNow]
      congr 1
    · intro h; subst h
      show Instr.sameBits 10000 (.bool x) (.bool x) = true
      simp [Instr.sameBits]
  · refine ⟨.string, hd, by simp, by simp, by simp, rfl, fun {w w' im im' x y c e} hx hy => ?_⟩
    obtain ⟨rfl, _⟩ := Rd.str.1 hx
    obtain ⟨rfl, _⟩ := Rd.str.1 hy
    constructor
    · show Instr.sameNow .string (.string x) (.string y) = _
      simp only [Instr.sameNow]
      congr 1
      refine bool_of_iff ?_
      rw [beq_toListBytes, beq_iff_eq, ByteArray.toList_eq, ByteArray.toList_eq]
      constructor
      · intro h; exact ByteArray.ext (Array.toList_inj.1 h)
      · intro h; rw [h]
    · intro h; subst h
      show Instr.sameBits 10000 (.string x) (.string x) = true
      simp [Instr.sameBits, beq_toListBytes]
omit hT in
theorem mget_nil {α β : Type} [DecidableEq α] (k : α) : mget ([] : List (α × β)) k = none := rfl
omit hT in
theorem mget_cons {α β : Type} [DecidableEq α] (e : α × β) (l : List (α × β)) (k : α) : mget (e :: l) k = if e.1 = k then some e.2 else mget l k := by
  by_cases h : e.1 = k <;> simp [mget, h]
theorem findNow_ok {kt vt : Ty} {kid : Nat} (hs : simpleKey kt = true) (he : T.get kid = some (.ty kt)) {E : Env} {x : kt.den} {c : List Value} (hx : Rd E.w E.imm kt x c) : ∀ (l : List (kt.den × vt.den)) (es : List MapEntry) (i : Nat), All2 (RE E kt vt) l es →
    ∃ d r, P.underlying kid = some d ∧ Instr.findNow d (pk kt.agg c) es i = some r ∧
      ((r = none ∧ @mget _ _ kt.decEq l x = none ∧ ∀ z, @mput _ _ kt.decEq l x z = l ++ [(x, z)]) ∨
       (∃ n v y e, r = some (i + n, v) ∧ @mget _ _ kt.decEq l x = some y ∧ (∃ cs, v = pk vt.agg cs ∧ Rd E.w E.imm vt y cs) ∧ es[n]? = some e ∧ (Instr.sameBits 10000 e.key (pk kt.agg c) = true) ∧ ∀ z, @mput _ _ kt.decEq l x z = l.set n (x, z))) := by
  intro l
  obtain ⟨d, hu, _, _, _, _, hsame⟩ := sameNow_ok hT hs he
  induction l with
  | nil =>
    intro es i h
    cases es with
    | nil => exact ⟨d, none, hu, rfl, .inl ⟨rfl, rfl, fun z => rfl⟩⟩
    | cons e es => exact h.elim
  | cons p l ih =>
    intro es i h
    cases es with
    | nil => exact h.elim
    | cons e es =>
      obtain ⟨⟨⟨ck, hk1, hk2⟩, cv, hv1, hv2⟩, h⟩ := h
      have h1 := hsame hx hk2
      have h2 := hsame hk2 hx
      letI := kt.decEq
      by_cases hpx : p.1 = x
      · refine ⟨d, some (i, e.val), hu, ?_, .inr ⟨0, e.val, p.2, e, by simp, ?_, ⟨cv, hv1, hv2⟩, by simp, ?_, fun z => ?_⟩⟩
        · simp only [Instr.findNow, hk1, h1.1]
          simp [hpx]
        · rw [mget_cons, if_pos hpx]
        · rw [hk1]; exact h2.2 hpx
        · simp [mput, hpx]
      · obtain ⟨d', r, hu', hf, hr⟩ := ih es (i + 1) h
        rw [hu] at hu'; cases hu'
        refine ⟨d, r, hu, ?_, ?_⟩
        · simp only [Instr.findNow, hk1, h1.1]
          have : ¬ x = p.1 := fun h => hpx h.symm
          simp [this, hf]
        · rcases hr with ⟨h3, h4, h5⟩ | ⟨n, v, y, e', h3, h4, h5, h6, h7, h8⟩
          · refine .inl ⟨h3, ?_, fun z => ?_⟩
            · rw [mget_cons, if_neg hpx]; exact h4
            · simp [mput, hpx, h5]
          · refine .inr ⟨n + 1, v, y, e', ?_, ?_, h5, by simpa using h6, h7, fun z => ?_⟩
            · rw [h3]; congr 2; omega
            · rw [mget_cons, if_neg hpx]; exact h4
            · simp [mput, hpx, h8]
theorem checkKey_n {kt : Ty} {kid : Nat} (hs : simpleKey kt = true) (he : T.get kid = some (.ty kt)) {E : Env} {x : kt.den} {c : List Value} (hx : Rd E.w E.imm kt x c) (b : Bool) (w : World) (n : Nat) :
    (Instr.checkKey b (n + 1) kid (pk kt.agg c)).run P w = .ok () w := by
  have hd := (hT kid _ he).1
  cases kt <;> simp [simpleKey] at hs
  · obtain ⟨rfl, _⟩ := Rd.int.1 hx
    simp [Instr.checkKey, run_underlying (show P.underlying kid = _ from hd), pk, Ty.agg]
  · have := Rd.bool.1 hx; subst this
    simp [Instr.checkKey, run_underlying (show P.underlying kid = _ from hd), pk, Ty.agg]
  · obtain ⟨rfl, _⟩ := Rd.str.1 hx
    simp [Instr.checkKey, run_underlying (show P.underlying kid = _ from hd), pk, Ty.agg]
theorem checkKey_ok {kt : Ty} {kid : Nat} (hs : simpleKey kt = true) (he : T.get kid = some (.ty kt)) {E : Env} {x : kt.den} {c : List Value} (hx : Rd E.w E.imm kt x c) (b : Bool) (w : World) :
    (Instr.checkKey b 10000 kid (pk kt.agg c)).run P w = .ok () w := checkKey_n hT hs he hx b w 9999
omit hT in
/-- The block of a map. -/
theorem map_block {C : Ctx} {E : Env} {m : Mem} {U : Nat → Prop} (h : MR C E m U) {b : Nat} {k v : Ty} {l : List (k.den × v.den)} (hm : m b = .map k v l) {x : Value} (hx : RV E (.mp b) x) :
    ∃ base es clock, x = .map (some base) ∧ E.ρ b = some (.map base k v) ∧ E.w.heap[base]? = some (.map es clock) ∧ All2 (RE E k v) l es.toList ∧ (∀ e ∈ es, e.born < clock) ∧ (es.toList.map (·.born)).Nodup := by
  have hb := h.blocks b
  rw [hm] at hb
  obtain ⟨base, es, clock, h1, h2, h3, h4, h5⟩ := hb
  obtain ⟨cs, rfl, k', x', y', hb', rfl⟩ := hx
  rw [h1] at hb'; cases hb'
  exact ⟨base, es, clock, rfl, h1, h2, h3, h4, h5⟩
theorem lookupK_ok {R : Type} {C : Ctx} {m : Mem} {U : Nat → Prop} {x k : AV} {ok : Bool} {K : AV → Option R} {y : R} (h : lookupK T tid m x k ok K = some y) :
    ∃ v, K v = some y ∧ ∀ E a j, RV E x a → RV E k j → MR C E m U → ∃ z, (Instr.lookup tid a j ok).run P E.w = .ok z E.w ∧ RV E v z := by
  unfold lookupK at h
  split at h
  · rename_i kt vt b he
    obtain ⟨⟨kid, vid, hu, hk, hv⟩, _⟩ := hT tid _ he
    split at h
    · rename_i kt' vt' l hmb
      split at h
      · rename_i u a hc
        simp only [Bool.and_eq_true] at hc
        have := Ty.eq_of_eqb hc.1.1; subst this
        have := Ty.eq_of_eqb hc.1.2; subst this
        split at h
        · rename_i a' ha'
          obtain ⟨e1, hx⟩ := cast?_some ha'
          subst e1; subst hx
          have key : ∀ E z j, RV E (.mp b) z → RV E (.val u a) j → MR C E m U → ∃ zv, (Instr.lookup tid z j ok).run P E.w = .ok (if ok then .tuple #[zv, .bool (@mget _ _ u.decEq l a).isSome] else zv) E.w ∧
              ∃ cs, zv = pk vt'.agg cs ∧ Rd E.w E.imm vt' ((@mget _ _ u.decEq l a).getD vt'.zero) cs := by
            intro E z j hz hj hm
            obtain ⟨base, es, clock, rfl, hρ, hh, hall, _⟩ := map_block hm hmb hz
            obtain ⟨c, rfl, hr⟩ := hj
            have hr : Rd E.w E.imm u a c := hr
            obtain ⟨d, r, hu', hf, hcase⟩ := findNow_ok hT hc.2 hk hr l es.toList 0 hall
            have hck := checkKey_ok hT hc.2 hk hr es.isEmpty E.w
            have e1 : (AV.val u a).isAgg = u.agg := rfl
            rw [e1]
            have hget : (getObj base).run P E.w = .ok (.map es clock) E.w := by simp [getObj, Sem.run, hh]
            have hzv : (zeroValue vid).run P E.w = .ok (pk vt'.agg (zcells vt')) E.w := run_zeroValue' hT hv E.w
            rcases hcase with ⟨rfl, h1, _⟩ | ⟨n, v, yy, e, rfl, h1, ⟨cs, h2, h3⟩, _⟩
            · refine ⟨pk vt'.agg (zcells vt'), ?_, zcells vt', rfl, by rw [h1]; exact Rd.zero _ _ _⟩
              cases ok <;> simp [Instr.lookup, run_underlying hu, hget, hck, Instr.findKey, run_underlying hu', hf, hzv, h1]
            · refine ⟨v, ?_, cs, h2, by rw [h1]; exact h3⟩
              cases ok <;> simp [Instr.lookup, run_underlying hu, hget, hck, Instr.findKey, run_underlying hu', hf, h1]
          split at h
          · refine ⟨_, h, fun E z j hz hj hm => ?_⟩
            obtain ⟨zv, h1, h2⟩ := key E z j hz hj hm
            exact ⟨zv, h1, h2⟩
          · refine ⟨_, h, fun E z j hz hj hm => ?_⟩
            obtain ⟨zv, h1, cs, h2, h3⟩ := key E z j hz hj hm
            refine ⟨_, h1, [zv, .bool (@mget _ _ u.decEq l a).isSome], rfl, cs, _, ?_, h3, [.bool (@mget _ _ u.decEq l a).isSome], [], rfl, Rd.bool.2 rfl, rfl⟩
            rw [h2]; rfl
        · cases h
      · cases h
    · cases h
  · cases h
theorem mapUpdateK_ok {R : Type} {C : Ctx} {m : Mem} {x k v : AV} {K : Mem → Option R} {y : R} (h : mapUpdateK T tid m x k v K = some y) :
    ∃ m', K m' = some y ∧ ∀ E a j z U, RV E x a → RV E k j → RV E v z → MR C E m U → ∃ w', (Instr.mapUpdate tid a j z).run P E.w = .ok () w' ∧ MR C { E with w := w' } m' U ∧ Ext E { E with w := w' } ∧
      (∀ j, ¬ owns E m j → w'.heap[j]? = E.w.heap[j]?) ∧ w'.heap.size = E.w.heap.size ∧ ∀ j, owns { E with w := w' } m' j → owns E m j := by
  unfold mapUpdateK at h
  split at h
  · rename_i kt vt b he
    obtain ⟨⟨kid, vid, hu, hk, hv⟩, _⟩ := hT tid _ he
    split at h
    · rename_i kt' vt' l hmb
      split at h
      · rename_i u a w c hc
        simp only [Bool.and_eq_true] at hc
        have := Ty.eq_of_eqb hc.1.1.1; subst this
        have := Ty.eq_of_eqb hc.1.1.2; subst this
        split at h
        · rename_i a' c' ha' hc'
          obtain ⟨e1, hx⟩ := cast?_some ha'
          subst e1; subst hx
          obtain ⟨e1, hx⟩ := cast?_some hc'
          subst e1; subst hx
          refine ⟨_, h, fun E z j q U hz hj hq hm => ?_⟩
          obtain ⟨base, es, clock, rfl, hρ, hh, hall, hborn, hnd⟩ := map_block hm hmb hz
          obtain ⟨ck, rfl, hr⟩ := hj
          have hr : Rd E.w E.imm u a ck := hr
          obtain ⟨cv, rfl, hrv⟩ := hq
          have hrv : Rd E.w E.imm w c cv := hrv
          obtain ⟨d, r, hu', hf, hcase⟩ := findNow_ok hT hc.1.2 hk hr l es.toList 0 hall
          have hck := checkKey_ok hT hc.1.2 hk hr false E.w
          have e1 : (AV.val u a).isAgg = u.agg := rfl
          have e2 : (AV.val w c).isAgg = w.agg := rfl
          rw [e1, e2]
          have hget : (getObj base).run P E.w = .ok (.map es clock) E.w := by simp [getObj, Sem.run, hh]
          have hbase : base < E.w.heap.size := (Array.getElem?_eq_some_iff.1 hh).1
          have hset : ∀ o, (setObj base o).run P E.w = .ok () { E.w with heap := E.w.heap.setIfInBounds base o } := by intro o; simp [setObj, Sem.run, hh]
          have hlive : live (m b) := by rw [hmb]; trivial
          have hother : ∀ o j, j ≠ base → ({ E.w with heap := E.w.heap.setIfInBounds base o } : World).heap[j]? = E.w.heap[j]? := by
            intro o j hj
            show (E.w.heap.setIfInBounds base o)[j]? = _
            rw [Array.getElem?_setIfInBounds_ne (fun e => hj e.symm)]
          have hsame : ∀ o, ({ E.w with heap := E.w.heap.setIfInBounds base o } : World).heap[base]? = some o := by
            intro o
            show (E.w.heap.setIfInBounds base o)[base]? = _
            rw [Array.getElem?_setIfInBounds_self_of_lt hbase]
          have hownb : owns E m base := ⟨b, _, hlive, hρ, rfl⟩
          have fin : ∀ es' clock', (∀ E' : Env, E'.w = { E.w with heap := E.w.heap.setIfInBounds base (.map es' clock') } → Ext E E' → All2 (RE E' u w) (@mput _ _ u.decEq l a c) es'.toList) → (∀ e ∈ es', e.born < clock') → (es'.toList.map (·.born)).Nodup →
              MR C { E with w := { E.w with heap := E.w.heap.setIfInBounds base (.map es' clock') } } (m.put b (.map u w (@mput _ _ u.decEq l a c))) U ∧ Ext E { E with w := { E.w with heap := E.w.heap.setIfInBounds base (.map es' clock') } } ∧
              (∀ j, ¬ owns E m j → ({ E.w with heap := E.w.heap.setIfInBounds base (.map es' clock') } : World).heap[j]? = E.w.heap[j]?) ∧ ({ E.w with heap := E.w.heap.setIfInBounds base (.map es' clock') } : World).heap.size = E.w.heap.size ∧
              ∀ j, owns { E with w := { E.w with heap := E.w.heap.setIfInBounds base (.map es' clock') } } (m.put b (.map u w (@mput _ _ u.decEq l a c))) j → owns E m j := by
            intro es' clock' h1 h2 h3
            obtain ⟨hm', hx⟩ := MR.write hm hlive hρ rfl (w' := { E.w with heap := E.w.heap.setIfInBounds base (.map es' clock') }) rfl rfl rfl (by simp) (hother _)
              (.map u w (@mput _ _ u.decEq l a c)) (fun hx => ⟨base, es', clock', hρ, hsame _, h1 _ rfl hx, h2, h3⟩)
            refine ⟨hm', hx, fun j hj => hother _ j (fun e => hj (e ▸ hownb)), by simp, ?_⟩
            rintro j ⟨i, bt, hli, hb, hj⟩
            by_cases hib : i = b
            · subst hib; exact ⟨i, bt, hlive, hb, hj⟩
            · rw [Mem.put_ne _ _ hib] at hli; exact ⟨i, bt, hli, hb, hj⟩
          rcases hcase with ⟨rfl, _, h1⟩ | ⟨n, vv, yy, e, rfl, _, _, he', hsb, h1⟩
          · refine ⟨_, by simp [Instr.mapUpdate, run_underlying hu, hget, hck, Instr.findKey, run_underlying hu', hf, hset]; rfl, ?_⟩
            refine fin (es.push { key := pk u.agg ck, val := pk w.agg cv, born := clock }) (clock + 1) (fun E' he hx => ?_) ?_ ?_
            · rw [h1]
              simp only [Array.toList_push]
              exact (hall.mono fun _ _ hr => hr.ext hx).append ⟨⟨⟨ck, rfl, hr.ext hx⟩, cv, rfl, hrv.ext hx⟩, trivial⟩
            · intro e he
              rcases Array.mem_push.1 he with he | rfl
              · have := hborn e he; omega
              · simp
            · simp only [Array.toList_push, List.map_append, List.map_cons, List.map_nil]
              rw [List.nodup_append]
              refine ⟨hnd, by simp, fun a ha b hb => ?_⟩
              simp at hb; subst hb
              obtain ⟨e, he, rfl⟩ := List.mem_map.1 ha
              have := hborn e (Array.mem_toList_iff.1 he); omega
          · have hes : es[n]? = some e := by simpa using he'
            obtain ⟨hn, hen⟩ := Array.getElem?_eq_some_iff.1 hes
            have hkey : (Instr.keyThatStays e.key (pk u.agg ck)).run P E.w = .ok (pk u.agg ck) E.w := by simp [Instr.keyThatStays, hsb]
            refine ⟨_, by simp [Instr.mapUpdate, run_underlying hu, hget, hck, Instr.findKey, run_underlying hu', hf, hset, hes, hkey]; rfl, ?_⟩
            have hmod : (es.modify n fun e => { e with key := pk u.agg ck, val := pk w.agg cv }).toList = es.toList.set n { e with key := pk u.agg ck, val := pk w.agg cv } := by
              apply List.ext_getElem?
              intro i
              rw [Array.toList_modify, List.getElem?_modify, List.getElem?_set]
              by_cases hi : n = i
              · subst hi; simp [hn, hen]
              · simp [hi]
            refine fin (es.modify n fun e => { e with key := pk u.agg ck, val := pk w.agg cv }) clock (fun E' he hx => ?_) ?_ ?_
            · rw [h1, hmod]
              exact All2.set ⟨⟨ck, rfl, hr.ext hx⟩, cv, rfl, hrv.ext hx⟩ n (hall.mono fun _ _ hr => hr.ext hx)
            · intro e2 he2
              have : e2 ∈ (es.modify n fun e => { e with key := pk u.agg ck, val := pk w.agg cv }).toList := Array.mem_toList_iff.2 he2
              rw [hmod] at this
              rcases List.mem_or_eq_of_mem_set this with h | rfl
              · exact hborn e2 (Array.mem_toList_iff.1 h)
              · exact hborn e (Array.mem_of_getElem? hes)
            · rw [hmod]
              have : (es.toList.set n { e with key := pk u.agg ck, val := pk w.agg cv }).map (·.born) = es.toList.map (·.born) := by
                apply List.ext_getElem?
                intro i
                rw [List.getElem?_map, List.getElem?_map, List.getElem?_set]
                by_cases hi : n = i
                · subst hi; simp [hn, hen]
                · simp [hi]
              rw [this]; exact hnd
        · cases h
      · cases h
    · cases h
  · cases h

/-! ### Lengths -/
theorem lenK_ok {R : Type} {C : Ctx} {m : Mem} {U : Nat → Prop} {ty : TypeId} {x : AV} {K : AV → Option R} {y : R} (h : lenK T tid m x K = some y) :
    ∃ v, K v = some y ∧ ∀ E a, RV E x a → MR C E m U → ∃ z, (Builtin.len_ #[tid] ty #[a]).run P E.w = .ok z E.w ∧ RV E v z := by
  have hkind : ∀ n : Nat, n ≤ 9223372036854775807 → inKind .i64 (n : Int) = true := fun n h => Nat.ble_eq_true_of_le h
  unfold lenK at h
  split at h
  · rename_i s he
    have hu : P.underlying tid = some .string := (hT tid _ he).1
    refine ⟨_, h, fun E a ha _ => ?_⟩
    obtain ⟨rfl, hs⟩ := ha.str
    exact ⟨.int .i64 s.size, by simp [Builtin.len_, run_underlying hu, goInt], RV.mkInt (hkind _ (by unfold top at hs; omega))⟩
  · rename_i e t xs he
    obtain ⟨eid, hu, heid⟩ := (hT tid _ he).1
    refine ⟨_, h, fun E a ha _ => ?_⟩
    obtain ⟨cs, rfl, hr⟩ := ha
    have hr : Rd E.w E.imm (.list t) xs cs := hr
    obtain ⟨_, hr⟩ := Rd.list.1 hr
    have e0 : (AV.val (.list t) xs).isAgg = false := rfl
    rw [e0]
    rcases hr with ⟨rfl, hnil⟩ | ⟨ad, cap, css, rfl, _, hlc, hcap, _⟩
    · rw [hnil]
      exact ⟨.int .i64 0, by simp [pk, Builtin.len_, run_underlying hu, goInt], RV.mkInt (hkind 0 (by omega))⟩
    · exact ⟨.int .i64 (List.length xs), by simp [pk, Builtin.len_, run_underlying hu, goInt], RV.mkInt (hkind _ (by unfold maxLen at hcap; omega))⟩
  · rename_i e he
    obtain ⟨eid, hu, heid⟩ := (hT tid _ he).1
    refine ⟨_, h, fun E a ha _ => ?_⟩
    obtain ⟨cs, rfl, hr⟩ := ha
    have hr : cs = [.slice none 0 0] := hr
    subst hr
    exact ⟨.int .i64 0, by simp [pk, AV.isAgg, Builtin.len_, run_underlying hu, goInt], RV.mkInt (hkind 0 (by omega))⟩
  · rename_i e b he
    obtain ⟨eid, hu, heid⟩ := (hT tid _ he).1
    split at h
    · rename_i t xs hmb
      refine ⟨_, h, fun E a ha hm => ?_⟩
      have hb := hm.blocks b
      rw [hmb] at hb
      obtain ⟨_, hb⟩ := hb
      obtain ⟨cs, rfl, hr⟩ := ha
      rcases hb with ⟨hb, hnil⟩ | ⟨k', cap, cells, el, css, rest, hb, _, _, hlc, hcap, _⟩
      · rcases hr with ⟨t', hb', rfl⟩ | ⟨k2, t', cap', len, hb', rfl⟩
        · have hnil : xs = [] := hnil
          rw [hnil]
          exact ⟨.int .i64 0, by simp [pk, AV.isAgg, Builtin.len_, run_underlying hu, goInt], RV.mkInt (hkind 0 (by omega))⟩
        · rw [hb] at hb'; cases hb'
      · rcases hr with ⟨t', hb', rfl⟩ | ⟨k2, t', cap', len, hb', rfl⟩
        · rw [hb] at hb'; cases hb'
        · rw [hb] at hb'; cases hb'
          exact ⟨.int .i64 (List.length xs), by simp [pk, AV.isAgg, Builtin.len_, run_underlying hu, goInt], RV.mkInt (hkind _ (by unfold maxLen at hcap; omega))⟩
    · cases h
  · rename_i e b p he
    obtain ⟨eid, hu, heid⟩ := (hT tid _ he).1
    split at h
    · rename_i n u hty
      refine ⟨_, h, fun E a ha hm => ?_⟩
      obtain ⟨cs, rfl, k', t', n', u', o, hb, hp1, hp2, _, hcap, rfl⟩ := ha
      have := ptr_ty hm (bt := .var k' t') hb ⟨hp1, hp2⟩ hty
      cases this
      exact ⟨.int .i64 n, by simp [pk, AV.isAgg, Builtin.len_, run_underlying hu, goInt], RV.mkInt (hkind _ (by unfold maxLen at hcap; omega))⟩
    · cases h
  · rename_i n e he
    obtain ⟨eid, hu, heid⟩ := (hT tid _ he).1
    split at h
    · rename_i hn
      refine ⟨_, h, fun E a ha _ => ⟨.int .i64 n, ?_, RV.mkInt (hkind n (Nat.le_of_ble_eq_true hn))⟩⟩
      cases a <;> simp [Builtin.len_, run_underlying hu, goInt]
    · cases h
  · rename_i kt vt b he
    obtain ⟨⟨kid, vid, hu, hk, hv⟩, _⟩ := hT tid _ he
    split at h
    · rename_i k v l hmb
      obtain ⟨hc, h⟩ := guardK_some h
      have hc : List.length l ≤ top := by simpa using hc
      refine ⟨_, h, fun E a ha hm => ?_⟩
      obtain ⟨base, es, clock, rfl, hρ, hh, hall, _⟩ := map_block hm hmb ha
      have hlen : es.size = List.length l := by have := hall.length; simpa using this.symm
      have hget : (getObj base).run P E.w = .ok (.map es clock) E.w := by simp [getObj, Sem.run, hh]
      exact ⟨.int .i64 (List.length l), by simp [Builtin.len_, run_underlying hu, hget, goInt, hlen], RV.mkInt (hkind _ (by unfold top at hc; omega))⟩
    · cases h
  · cases h
omit hT in
theorem minmaxK_ok {R : Type} {mx : Bool} {tys : Array TypeId} {ty : TypeId} {vs : List AV} {K : AV → Option R} {y : R} (h : minmaxK mx vs K = some y) :
    ∃ v, K v = some y ∧ ∀ (E : Env) (as : List Value), as.length = vs.length → (∀ (i : Nat) v a, vs[i]? = some v → as[i]? = some a → RV E v a) →
      ∃ z, (match mx with | true => Builtin.max_ tys ty as.toArray | false => Builtin.min_ tys ty as.toArray).run P E.w = .ok z E.w ∧ RV E v z := by
  unfold minmaxK at h
  split at h
  · rename_i k a l b
    split at h
    · rename_i hk
      have := IntKind.eq_of_eqb hk; subst this
      refine ⟨_, h, fun E as hl hr => ?_⟩
      match as, hl with
      | [p, q], _ =>
        obtain ⟨rfl, ha⟩ := RV.int (hr 0 _ p rfl rfl)
        obtain ⟨rfl, hb⟩ := RV.int (hr 1 _ q rfl rfl)
        cases mx with
        | true =>
          refine ⟨.int k (max a b), ?_, RV.mkInt ?_⟩
          · show (Builtin.max_ tys ty #[.int k a, .int k b]).run P E.w = _
            rw [run_max_int2]
            congr 2
            rcases Int.le_total a b with h | h
            · rw [Int.max_eq_right h]; split <;> omega
            · rw [Int.max_eq_left h]; split <;> omega
          · rcases Int.le_total a b with h | h
            · rw [Int.max_eq_right h]; exact hb
            · rw [Int.max_eq_left h]; exact ha
        | false =>
          refine ⟨.int k (min a b), ?_, RV.mkInt ?_⟩
          · show (Builtin.min_ tys ty #[.int k a, .int k b]).run P E.w = _
            rw [run_min_int2]
            congr 2
            rcases Int.le_total a b with h | h
            · rw [Int.min_eq_left h]; split <;> omega
            · rw [Int.min_eq_right h]; split <;> omega
          · rcases Int.le_total a b with h | h
            · rw [Int.min_eq_left h]; exact ha
            · rw [Int.min_eq_right h]; exact hb
    · cases h
  · cases h
end
end Go.Co
