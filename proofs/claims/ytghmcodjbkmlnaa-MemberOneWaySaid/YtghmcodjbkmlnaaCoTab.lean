/-
  Types' numbers and kinds; parts of data and of values as runs of cells.
  Own text, for the claims about coterie.
-/
import Derived.Test.YtghmcodjbkmlnaaCoRep
import Derived.Laws.StructEq
namespace Go.Co
open Go.RowKit

/-! ### Zero cells -/
def zcF (r : St → List Value) : Ty → List Value
  | .int k => [.int k 0]
  | .bool => [.bool false]
  | .str => [.string ByteArray.empty]
  | .unit => []
  | .prod a b => zcF r a ++ zcF r b
  | .arr n t => (List.replicate n (zcF r t)).flatten
  | .list _ => [.slice none 0 0]
  | .st s => r s
def zcN : Nat → St → List Value
  | 0, _ => []
  | n + 1, s => zcF (zcN n) s.body
def zcells (t : Ty) : List Value := zcF (zcN 6) t
theorem zcN_body (s : St) : zcN 6 s = zcells s.body := by cases s <;> rfl
theorem St.unpack_zero (s : St) : s.unpack s.zero = s.body.zero := by cases s <;> rfl
theorem Rd.zero (w : World) (im : Nat → Prop) : ∀ t : Ty, Rd w im t t.zero (zcells t) := by
  refine Ty.ind ?_ ?_ ?_ ?_ ?_ ?_ ?_ ?_
  · intro k; rw [Rd.int]; exact ⟨rfl, by cases k <;> rfl⟩
  · rw [Rd.bool]; rfl
  · rw [Rd.str]; exact ⟨rfl, by decide⟩
  · rw [Rd.unit]; rfl
  · intro a b ha hb; rw [Rd.prod]; exact ⟨_, _, rfl, ha, hb⟩
  · intro n t h; rw [Rd.arr]
    refine ⟨List.replicate n (zcells t), rfl, ?_⟩
    have e : Vector.toList (Ty.zero (.arr n t)) = List.replicate n t.zero := by simp [Ty.zero]
    rw [e]
    exact All2.replicate h n
  · intro t _; rw [Rd.list]; exact ⟨by simp [Ty.zero], .inl ⟨rfl, rfl⟩⟩
  · intro s h
    have e0 : (Ty.st s).zero = s.zero := rfl
    rw [Rd.st, e0, St.unpack_zero]
    have : zcells (.st s) = zcells s.body := zcN_body s
    rw [this]; exact h

/-! ### The table of types -/
def fldsOK (T : Tab) : List Field → Nat → Ty → Prop
  | [], _, .unit => True
  | f :: fs, o, .prod a b => f.offset = o ∧ T.get f.type = some (.ty a) ∧ f.name ≠ "_" ∧ a.size ≠ 0 ∧ fldsOK T fs (o + a.size) b
  | _, _, _ => False
def descOK (P : Program) (T : Tab) (id : Nat) : Ty → Prop
  | .int k => P.underlying id = some (.int k)
  | .bool => P.underlying id = some .bool
  | .str => P.underlying id = some .string
  | .arr n u => ∃ e, P.underlying id = some (.array n e) ∧ T.get e = some (.ty u)
  | .list u => ∃ e, P.underlying id = some (.slice e) ∧ T.get e = some (.ty u)
  | .st s => ∃ fs, P.underlying id = some (.struct fs) ∧ fldsOK T fs.toList 0 s.body ∧ P.stoodInHeld id = false
  | _ => False
def Fits (P : Program) (T : Tab) (id : Nat) : TE → Prop
  | .ty t => descOK P T id t ∧ (∃ i, P.info? id = some i ∧ i.size = t.size ∧ i.bytes = t.bytes ∧ i.zero = some (pk t.agg (zcells t))) ∧ P.eqGuardType P.depth id = false
  | .mp k v => (∃ kid vid, P.underlying id = some (.map kid vid) ∧ T.get kid = some (.ty k) ∧ T.get vid = some (.ty v)) ∧ ∃ i, P.info? id = some i ∧ i.size = 1
  | .one => (∃ d, P.underlying id = some d ∧ (∀ fs, d ≠ .struct fs) ∧ ∀ n e, d ≠ .array n e) ∧ ∃ i, P.info? id = some i ∧ i.size = 1
def TabOK (P : Program) (T : Tab) : Prop := ∀ id e, T.get id = some e → Fits P T id e

/-- Zero cells alike. -/
def cellB : Value → Value → Bool
  | .int k n, .int l m => IntKind.eqb k l && decide (n = m)
  | .bool a, .bool b => a == b
  | .string s, .string t => s.data.toList.isEmpty && t.data.toList.isEmpty
  | .slice none 0 0, .slice none 0 0 => true
  | _, _ => false
def cellsB : List Value → List Value → Bool
  | [], [] => true
  | a :: l, b :: m => cellB a b && cellsB l m
  | _, _ => false
theorem cellB_eq : ∀ {a b : Value}, cellB a b = true → a = b := by
  intro a b h
  unfold cellB at h
  split at h
  · simp at h; rw [IntKind.eq_of_eqb h.1, h.2]
  · simp at h; rw [h]
  · rename_i s t
    simp at h
    have hs : s = t := by
      cases s with | mk sd => cases t with | mk td => simp at h; rw [h.1, h.2]
    rw [hs]
  · rfl
  · cases h
theorem cellsB_eq : ∀ {a b : List Value}, cellsB a b = true → a = b
  | [], [], _ => rfl
  | a :: l, b :: m, h => by simp [cellsB] at h; rw [cellB_eq h.1, cellsB_eq h.2]
def zeroB (t : Ty) : Option Value → Bool
  | some (.agg cs) => t.agg && cellsB cs.toList (zcells t)
  | some v => !t.agg && cellsB [v] (zcells t)
  | none => false
theorem zeroB_eq {t : Ty} {o : Option Value} (h : zeroB t o = true) : o = some (pk t.agg (zcells t)) := by
  unfold zeroB at h
  split at h
  · rename_i cs
    simp at h
    rw [h.1, ← cellsB_eq h.2]; simp [pk]
  · rename_i v _
    simp at h
    rw [h.1, ← cellsB_eq h.2]; simp [pk]
  · cases h
def getTyB (T : Tab) (id : Nat) (t : Ty) : Bool := match T.get id with | some (.ty u) => Ty.eqb u t | _ => false
theorem getTyB_eq {T : Tab} {id : Nat} {t : Ty} (h : getTyB T id t = true) : T.get id = some (.ty t) := by
  unfold getTyB at h; split at h
  · rename_i u hu; rw [hu, Ty.eq_of_eqb h]
  · cases h
def fldsB (T : Tab) : List Field → Nat → Ty → Bool
  | [], _, .unit => true
  | f :: fs, o, .prod a b => Nat.beq f.offset o && getTyB T f.type a && (f.name != "_") && !Nat.beq a.size 0 && fldsB T fs (o + a.size) b
  | _, _, _ => false
theorem fldsB_ok {T : Tab} : ∀ {fs : List Field} {o : Nat} {t : Ty}, fldsB T fs o t = true → fldsOK T fs o t
  | [], _, .unit, _ => trivial
  | f :: fs, o, .prod a b, h => by
    simp [fldsB] at h
    exact ⟨h.1.1.1.1, getTyB_eq h.1.1.1.2, h.1.1.2, (fun e => by rw [e] at h; simp at h), fldsB_ok h.2⟩
def descB (P : Program) (T : Tab) (id : Nat) (t : Ty) : Bool :=
  match t, P.underlying id with
  | .int k, some (.int l) => IntKind.eqb k l
  | .bool, some .bool => true
  | .str, some .string => true
  | .arr n u, some (.array m e) => Nat.beq n m && getTyB T e u
  | .list u, some (.slice e) => getTyB T e u
  | .st s, some (.struct fs) => fldsB T fs.toList 0 s.body && !P.stoodInHeld id
  | _, _ => false
theorem descB_ok {P : Program} {T : Tab} {id : Nat} {t : Ty} (h : descB P T id t = true) : descOK P T id t := by
  unfold descB at h
  split at h
  · rename_i hu; rw [← IntKind.eq_of_eqb h] at hu; exact hu
  · rename_i hu; exact hu
  · rename_i hu; exact hu
  · rename_i hu; simp at h; rw [← h.1] at hu; exact ⟨_, hu, getTyB_eq h.2⟩
  · rename_i hu; exact ⟨_, hu, getTyB_eq h⟩
  · rename_i hu; simp at h; exact ⟨_, hu, fldsB_ok h.1, h.2⟩
  · cases h
def fitsB (P : Program) (T : Tab) (id : Nat) (e : TE) : Bool :=
  match e, P.info? id with
  | .ty t, some i => descB P T id t && Nat.beq i.size t.size && Nat.beq i.bytes t.bytes && zeroB t i.zero && !P.eqGuardType P.depth id
  | .mp k v, some i => (match P.underlying id with | some (.map kid vid) => getTyB T kid k && getTyB T vid v | _ => false) && Nat.beq i.size 1
  | .one, some i => (match P.underlying id with | some (.struct _) => false | some (.array _ _) => false | some _ => true | none => false) && Nat.beq i.size 1
  | _, none => false
theorem fitsB_ok {P : Program} {T : Tab} {id : Nat} {e : TE} (h : fitsB P T id e = true) : Fits P T id e := by
  unfold fitsB at h
  split at h
  · rename_i i hi
    simp at h
    exact ⟨descB_ok h.1.1.1.1, ⟨_, hi, h.1.1.1.2, h.1.1.2, zeroB_eq h.1.2⟩, h.2⟩
  · rename_i i hi
    simp at h
    refine ⟨?_, _, hi, h.2⟩
    have h1 := h.1
    split at h1
    · rename_i hu; simp at h1; exact ⟨_, _, hu, getTyB_eq h1.1, getTyB_eq h1.2⟩
    · cases h1
  · rename_i i hi
    simp at h
    refine ⟨?_, _, hi, h.2⟩
    have h1 := h.1
    split at h1
    · cases h1
    · cases h1
    · rename_i d hd1 hd2 hu; exact ⟨_, hu, fun fs he => hd1 fs (by rw [← he]), fun n e he => hd2 n e (by rw [← he])⟩
    · cases h1
  · cases h
def tabB (P : Program) (T : Tab) : Tab → Bool
  | [] => true
  | (id, e) :: r => fitsB P T id e && tabB P T r
theorem tabB_ok {P : Program} {T : Tab} : ∀ {U : Tab}, tabB P T U = true → ∀ id e, U.get id = some e → Fits P T id e
  | [], _, id, e, h => by simp [Tab.get] at h
  | (i, f) :: r, hb, id, e, h => by
    simp [tabB] at hb
    unfold Tab.get at h
    split at h
    · rename_i hq
      have hid : id = i := Nat.eq_of_beq_eq_true hq
      cases h; subst hid
      exact fitsB_ok hb.1
    · exact tabB_ok hb.2 id e h
theorem TabOK.of {P : Program} {T : Tab} (h : tabB P T T = true) : TabOK P T := tabB_ok h

def TE.size : TE → Nat
  | .ty t => t.size
  | _ => 1
def TE.agg : TE → Bool
  | .ty t => t.agg
  | _ => false
section
variable {P : Program} {T : Tab} (hT : TabOK P T) {id : Nat}
include hT
theorem run_sizeOf' {e : TE} (h : T.get id = some e) (w : World) : (sizeOf id).run P w = .ok e.size w := by
  have hf := hT id e h
  cases e with
  | ty t => obtain ⟨_, ⟨i, hi, hs, _⟩, _⟩ := hf; simp [sizeOf, typeInfo, hi, hs, TE.size]
  | mp k v => obtain ⟨_, i, hi, hs⟩ := hf; simp [sizeOf, typeInfo, hi, hs, TE.size]
  | one => obtain ⟨_, i, hi, hs⟩ := hf; simp [sizeOf, typeInfo, hi, hs, TE.size]
theorem run_isAgg' {e : TE} (h : T.get id = some e) (w : World) : (isAgg id).run P w = .ok e.agg w := by
  have hf := hT id e h
  cases e with
  | ty t =>
    obtain ⟨hd, _⟩ := hf
    cases t with
    | int k => simp [isAgg, run_underlying (show P.underlying id = _ from hd), TE.agg, Ty.agg]
    | bool => simp [isAgg, run_underlying (show P.underlying id = _ from hd), TE.agg, Ty.agg]
    | str => simp [isAgg, run_underlying (show P.underlying id = _ from hd), TE.agg, Ty.agg]
    | unit => exact hd.elim
    | prod a b => exact hd.elim
    | arr n u => obtain ⟨e, hu, _⟩ := hd; simp [isAgg, run_underlying hu, TE.agg, Ty.agg]
    | list u => obtain ⟨e, hu, _⟩ := hd; simp [isAgg, run_underlying hu, TE.agg, Ty.agg]
    | st s => obtain ⟨e, hu, _⟩ := hd; simp [isAgg, run_underlying hu, TE.agg, Ty.agg]
  | mp k v => obtain ⟨⟨kid, vid, hu, _⟩, _⟩ := hf; simp [isAgg, run_underlying hu, TE.agg]
  | one =>
    obtain ⟨⟨d, hu, h1, h2⟩, _⟩ := hf
    cases d <;> simp_all [isAgg, run_underlying hu, TE.agg]
theorem run_zeroValue' {t : Ty} (h : T.get id = some (.ty t)) (w : World) : (zeroValue id).run P w = .ok (pk t.agg (zcells t)) w := by
  obtain ⟨_, ⟨i, hi, _, _, hz⟩, _⟩ := hT id _ h
  simp [zeroValue, typeInfo, hi, hz]
end

/-! ### Parts of plain data -/
theorem Rd.nth {w : World} {im : Nat → Prop} : ∀ (b : Ty) (x : b.den) (cs : List Value) (i : Nat) (u : Ty), Rd w im b x cs → nthTy b i = some u →
    ∃ y, getNth b x i = some ⟨u, y⟩ ∧ ∃ c d e, cs = c ++ d ++ e ∧ c.length = nthOff b i ∧ Rd w im u y d := by
  intro b
  induction b with
  | prod a b _ ihb =>
    intro x cs i u h hn
    rw [Rd.prod] at h
    obtain ⟨c, d, rfl, hc, hd⟩ := h
    cases i with
    | zero =>
      simp [nthTy] at hn; subst hn
      exact ⟨x.1, rfl, [], c, d, by simp, rfl, hc⟩
    | succ i =>
      obtain ⟨y, hy, c', d', e', rfl, hl, hr⟩ := ihb x.2 d i u hd hn
      exact ⟨y, hy, c ++ c', d', e', by simp, by simp [nthOff, hl, Rd.len _ _ _ hc], hr⟩
  | _ => intro x cs i u _ hn; cases i <;> simp [nthTy] at hn
theorem Arr.get_toList {n : Nat} {α : Type} [Inhabited α] (a : Arr n α) (i : Int) : Arr.get a i = (Vector.toList a).getD i.toNat default := by
  simp [Arr.get, Vector.toList, Array.getD_eq_getD_getElem?, List.getD]
theorem Rd.at {w : World} {im : Nat → Prop} : ∀ (p : List PS) (t : Ty) (x : t.den) (cs : List Value) (u : Ty) (o : Nat), Rd w im t x cs → tyAt t p = some (u, o) → inRange t p →
    ∃ y, getAt t x p = some ⟨u, y⟩ ∧ ∃ c d e, cs = c ++ d ++ e ∧ c.length = o ∧ Rd w im u y d := by
  intro p
  induction p with
  | nil =>
    intro t x cs u o h ht _
    simp [tyAt] at ht
    obtain ⟨rfl, rfl⟩ := ht
    exact ⟨x, rfl, [], cs, [], by simp, rfl, h⟩
  | cons s p ih =>
    intro t x cs u o h ht hr
    cases s with
    | fld i =>
      cases t <;> simp [tyAt] at ht
      rename_i s
      cases hn : nthTy s.body i with
      | none => simp [hn] at ht
      | some v =>
        rw [Rd.st] at h
        obtain ⟨y, hy, c, d, e, rfl, hl, hd⟩ := Rd.nth _ _ _ _ _ h hn
        simp only [hn] at ht
        cases ha : tyAt v p with
        | none => simp [ha] at ht
        | some vo =>
          obtain ⟨u', o'⟩ := vo
          simp [ha] at ht
          obtain ⟨rfl, rfl⟩ := ht
          have hr' : inRange v p := by simpa [inRange, hn] using hr
          obtain ⟨z, hz, c', d', e', rfl, hl', hd'⟩ := ih v y d u' o' hd ha hr'
          refine ⟨z, by simp [getAt, getFld, hy, hz], c ++ c', d', e' ++ e, by simp, by simp [hl, hl'], hd'⟩
    | idx i =>
      cases t <;> simp [tyAt] at ht
      rename_i n t
      obtain ⟨h0, h1, hr'⟩ := hr
      rw [Rd.arr] at h
      obtain ⟨css, rfl, hall⟩ := h
      have hi : i.toNat < (Vector.toList x).length := by simp; omega
      obtain ⟨c, hc, hd⟩ := hall.get i.toNat _ (List.getElem?_eq_getElem hi)
      have hg : Arr.get (n := n) x i = (Vector.toList x)[i.toNat] := by
        rw [Arr.get_toList]; simp [List.getD, List.getElem?_eq_getElem hi]
      cases ha : tyAt t p with
      | none => simp [ha] at ht
      | some vo =>
        obtain ⟨u', o'⟩ := vo
        simp [ha] at ht
        obtain ⟨rfl, rfl⟩ := ht
        obtain ⟨z, hz, c', d', e', rfl, hl', hd'⟩ := ih t _ c u' o' hd ha hr'
        have hf := flatten_at hall.lens hc
        have hlen : css.flatten.length = css.length * t.size := flatten_len hall.lens
        refine ⟨z, by simp only [getAt, hg]; exact hz, css.flatten.take (i.toNat * t.size) ++ c', d', e' ++ css.flatten.drop (i.toNat * t.size + t.size), ?_, ?_, hd'⟩
        · conv => lhs; rw [hf]
          simp
        · have hle : i.toNat * t.size ≤ css.flatten.length := by
            rw [hlen]; exact Nat.mul_le_mul_right _ (by rw [← hall.length]; omega)
          have e2 : (css.flatten.take (i.toNat * t.size)).length = i.toNat * t.size := by rw [List.length_take]; omega
          rw [List.length_append, e2, hl']

theorem Rd.modNth {w : World} {im : Nat → Prop} {u : Ty} {f : (u : Ty) → u.den → Option u.den} {d' : List Value} : ∀ (b : Ty) (x : b.den) (cs : List Value) (i : Nat), Rd w im b x cs → nthTy b i = some u →
    (∀ y d, getNth b x i = some ⟨u, y⟩ → (∃ c e, cs = c ++ d ++ e ∧ c.length = nthOff b i) → Rd w im u y d → ∃ y', f u y = some y' ∧ Rd w im u y' d') → d'.length = u.size →
    ∃ x', modNth b x i f = some x' ∧ Rd w im b x' (cs.take (nthOff b i) ++ d' ++ cs.drop (nthOff b i + u.size)) := by
  intro b
  induction b with
  | prod a b _ ihb =>
    intro x cs i h hn hf hl
    rw [Rd.prod] at h
    obtain ⟨c, d, rfl, hc, hd⟩ := h
    cases i with
    | zero =>
      simp [nthTy] at hn; subst hn
      obtain ⟨y', hy, hr⟩ := hf x.1 c rfl ⟨[], d, by simp, rfl⟩ hc
      refine ⟨(y', x.2), by simp [Co.modNth, hy], ?_⟩
      rw [Rd.prod]
      refine ⟨d', d, ?_, hr, hd⟩
      have := Rd.len _ _ _ hc
      simp [nthOff, this]
    | succ i =>
      obtain ⟨x', hx, hr⟩ := ihb x.2 d i hd hn (fun y d2 hy ⟨c2, e2, he, hl2⟩ hr => hf y d2 hy ⟨c ++ c2, e2, by rw [he]; simp, by simp [nthOff, hl2, Rd.len _ _ _ hc]⟩ hr) hl
      refine ⟨(x.1, x'), by simp [Co.modNth, hx], ?_⟩
      rw [Rd.prod]
      refine ⟨c, _, ?_, hc, hr⟩
      have hcl := Rd.len _ _ _ hc
      simp only [nthOff]
      rw [List.take_append, List.drop_append, ← hcl, List.take_of_length_le (by omega), List.drop_of_length_le (by omega)]
      simp [Nat.add_assoc]
  | _ => intro x cs i _ hn; cases i <;> simp [nthTy] at hn
theorem splice_in {α : Type} {c d e d' : List α} {o n m : Nat} (hc : c.length = o) (hd : d.length = n) (h : m + d'.length ≤ n) :
    (c ++ d ++ e).take (o + m) ++ d' ++ (c ++ d ++ e).drop (o + m + d'.length) = c ++ (d.take m ++ d' ++ d.drop (m + d'.length)) ++ e := by
  subst hc; subst hd
  have e1 : (c ++ d ++ e).take (c.length + m) = c ++ d.take m := by
    rw [List.append_assoc, List.take_length_add_append, List.take_append_of_le_length (by omega)]
  have e2 : (c ++ d ++ e).drop (c.length + m + d'.length) = d.drop (m + d'.length) ++ e := by
    rw [List.append_assoc, Nat.add_assoc, List.drop_length_add_append, List.drop_append_of_le_length (by omega)]
  rw [e1, e2]; simp
theorem tyAt_le : ∀ (p : List PS) (t u : Ty) (o : Nat), tyAt t p = some (u, o) → inRange t p → o + u.size ≤ t.size := by
  intro p
  induction p with
  | nil => intro t u o h _; simp [tyAt] at h; obtain ⟨rfl, rfl⟩ := h; omega
  | cons s p ih =>
    intro t u o h hr
    cases s with
    | fld i =>
      cases t <;> simp [tyAt] at h
      rename_i s
      cases hn : nthTy s.body i with
      | none => simp [hn] at h
      | some v =>
        simp only [hn] at h
        cases ha : tyAt v p with
        | none => simp [ha] at h
        | some vo =>
          obtain ⟨u', o'⟩ := vo
          simp [ha] at h
          obtain ⟨rfl, rfl⟩ := h
          have h1 := ih v u' o' ha (by simpa [inRange, hn] using hr)
          have h2 : nthOff s.body i + v.size ≤ s.body.size := by
            clear ha h1 hr
            generalize s.body = b at hn
            induction b generalizing i with
            | prod a b _ ihb =>
              cases i with
              | zero => simp [nthTy] at hn; subst hn; simp [nthOff, Ty.size]
              | succ i => have := ihb i hn; simp [nthOff, Ty.size]; omega
            | _ => cases i <;> simp [nthTy] at hn
          rw [St.size_body] at h2
          simp only [Ty.size]; omega
    | idx i =>
      cases t <;> simp [tyAt] at h
      rename_i n t
      obtain ⟨h0, h1, hr'⟩ := hr
      cases ha : tyAt t p with
      | none => simp [ha] at h
      | some vo =>
        obtain ⟨u', o'⟩ := vo
        simp [ha] at h
        obtain ⟨rfl, rfl⟩ := h
        have h2 := ih t u' o' ha hr'
        have h3 : (i.toNat + 1) * t.size ≤ n * t.size := Nat.mul_le_mul_right _ (by omega)
        rw [Nat.add_mul] at h3
        simp only [Ty.size]; omega
theorem Rd.setAt {w : World} {im : Nat → Prop} {u : Ty} {z : u.den} {d' : List Value} (hz : Rd w im u z d') : ∀ (p : List PS) (t : Ty) (x : t.den) (cs : List Value) (o : Nat), Rd w im t x cs → tyAt t p = some (u, o) → inRange t p →
    ∃ x', setAt t x p ⟨u, z⟩ = some x' ∧ Rd w im t x' (cs.take o ++ d' ++ cs.drop (o + u.size)) := by
  intro p
  induction p with
  | nil =>
    intro t x cs o h ht _
    simp [tyAt] at ht
    obtain ⟨rfl, rfl⟩ := ht
    refine ⟨z, ?_, ?_⟩
    · simp only [Co.setAt, cast?]
      split
      · rfl
      · rename_i he; simp [Ty.eqb_self] at he
    · have := Rd.len _ _ _ h
      rw [← this]; simpa using hz
  | cons s p ih =>
    intro t x cs o h ht hr
    cases s with
    | fld i =>
      cases t <;> simp [tyAt] at ht
      rename_i s
      cases hn : nthTy s.body i with
      | none => simp [hn] at ht
      | some v =>
        rw [Rd.st] at h
        simp only [hn] at ht
        cases ha : tyAt v p with
        | none => simp [ha] at ht
        | some vo =>
          obtain ⟨u', o'⟩ := vo
          simp [ha] at ht
          obtain ⟨rfl, rfl⟩ := ht
          have hr' : inRange v p := by simpa [inRange, hn] using hr
          have hle := tyAt_le p v u' o' ha hr'
          have hdl := Rd.len _ _ _ hz
          obtain ⟨y, hy, c, d, e, hcs, hl, hd⟩ := Rd.nth _ _ _ _ _ h hn
          have hdl2 := Rd.len _ _ _ hd
          obtain ⟨x', hx, hrx⟩ := Rd.modNth (u := v) (f := fun u y => Co.setAt u y p ⟨u', z⟩) (d' := d.take o' ++ d' ++ d.drop (o' + u'.size)) s.body (s.unpack x) cs i h hn (fun y2 d2 hy2 he2 hr2 => by
              rw [hy] at hy2
              cases hy2
              have : d2 = d := by
                obtain ⟨c2, e2, hcs2, hl2⟩ := he2
                have := Rd.len _ _ _ hr2
                rw [hcs2] at hcs
                have h1 := List.append_inj (by simpa using hcs) (by omega)
                exact (List.append_inj h1.2 (by omega)).1
              subst this
              exact ih v y d2 o' hr2 ha hr') (by simp [List.length_take, List.length_drop]; omega)
          refine ⟨s.pack x', by simp [Co.setAt, modFld, hx], ?_⟩
          rw [Rd.st, St.unpack_pack]
          have e1 := splice_in (e := e) (d' := d') (m := o') hl hdl2 (by omega)
          rw [← hcs] at e1
          rw [hdl] at e1
          rw [e1]
          have e2 : cs.take (nthOff s.body i) = c := by rw [hcs, ← hl]; simp
          have e3 : cs.drop (nthOff s.body i + v.size) = e := by
            rw [hcs, ← hl, ← hdl2, ← List.length_append, List.drop_left]
          rw [e2, e3] at hrx
          exact hrx
    | idx i =>
      cases t <;> simp [tyAt] at ht
      rename_i n t
      obtain ⟨h0, h1, hr'⟩ := hr
      rw [Rd.arr] at h
      obtain ⟨css, rfl, hall⟩ := h
      have hi : i.toNat < (Vector.toList x).length := by simp; omega
      obtain ⟨c, hc, hd⟩ := hall.get i.toNat _ (List.getElem?_eq_getElem hi)
      have hg : Arr.get (n := n) x i = (Vector.toList x)[i.toNat] := by
        rw [Arr.get_toList]; simp [List.getD, List.getElem?_eq_getElem hi]
      cases ha : tyAt t p with
      | none => simp [ha] at ht
      | some vo =>
        obtain ⟨u', o'⟩ := vo
        simp [ha] at ht
        obtain ⟨rfl, rfl⟩ := ht
        have hle := tyAt_le p t u' o' ha hr'
        have hdl := Rd.len _ _ _ hz
        obtain ⟨y', hy', hry⟩ := ih t _ c o' hd ha hr'
        have hic : i.toNat < css.length := by rw [← hall.length]; exact hi
        have hcl := hall.lens c (List.mem_of_getElem? hc)
        have hfl : css.flatten.length = css.length * t.size := flatten_len hall.lens
        have hle2 : i.toNat * t.size ≤ css.flatten.length := by rw [hfl]; exact Nat.mul_le_mul_right _ (by omega)
        refine ⟨Arr.put x i y', by simp only [Co.setAt, hg, hy'], ?_⟩
        rw [Rd.arr]
        refine ⟨css.set i.toNat (c.take o' ++ d' ++ c.drop (o' + u'.size)), ?_, ?_⟩
        · rw [flatten_set hall.lens hic]
          have hf := flatten_at hall.lens hc
          have e1 := splice_in (e := css.flatten.drop (i.toNat * t.size + t.size)) (d' := d') (m := o') (c := css.flatten.take (i.toNat * t.size)) (o := i.toNat * t.size)
            (by rw [List.length_take]; omega) hcl (by omega)
          rw [← hf, hdl] at e1
          rw [e1]
        · have e : Vector.toList (Arr.put x i y') = (Vector.toList x).set i.toNat y' := by
            simp [Arr.put, Vector.toList, Vector.setIfInBounds]
          rw [e]
          exact All2.set hry i.toNat hall

/-! ### Parts of values -/
theorem has_val {t : Ty} {x : t.den} {u : Ty} (h : (AV.val t x).has u = true) : t = u := Ty.eq_of_eqb h
theorem RC.nth {E : Env} : ∀ {l : AV} {b : Ty} {cs : List Value} {i : Nat} {a : AV} {u : Ty}, l.has b = true → RC E l cs → nthTy b i = some u → nthAV l i = some a →
    a.has u = true ∧ ∃ c d e, cs = c ++ d ++ e ∧ c.length = nthOff b i ∧ RC E a d := by
  intro l
  induction l with
  | cons x l _ ihl =>
    intro b cs i a u hh hr hn ha
    cases b <;> simp [AV.has] at hh
    obtain ⟨c, d, rfl, h1, h2⟩ := hr
    cases i with
    | zero =>
      simp [nthAV] at ha; subst ha
      simp [nthTy] at hn; subst hn
      exact ⟨hh.1, [], c, d, by simp, rfl, h1⟩
    | succ i =>
      obtain ⟨hu, c', d', e', rfl, hl, hr⟩ := ihl hh.2 h2 hn ha
      exact ⟨hu, c ++ c', d', e', by simp, by simp [nthOff, hl, has_cells hh.1 h1], hr⟩
  | _ => intro b cs i a u _ _ _ ha; cases i <;> simp [nthAV] at ha
theorem RC.setNth {E : Env} {a' : AV} {d' : List Value} : ∀ {l l' : AV} {b : Ty} {cs : List Value} {i : Nat} {u : Ty}, l.has b = true → RC E l cs → nthTy b i = some u → a'.has u = true → RC E a' d' → setNthAV l i a' = some l' →
    l'.has b = true ∧ RC E l' (cs.take (nthOff b i) ++ d' ++ cs.drop (nthOff b i + u.size)) := by
  intro l
  induction l with
  | cons x l _ ihl =>
    intro l' b cs i u hh hr hn ha hd hs
    cases b <;> simp [AV.has] at hh
    obtain ⟨c, d, rfl, h1, h2⟩ := hr
    have hcl := has_cells hh.1 h1
    cases i with
    | zero =>
      simp [setNthAV] at hs; subst hs
      simp [nthTy] at hn; subst hn
      refine ⟨by simp [AV.has, ha, hh.2], d', d, ?_, hd, h2⟩
      simp [nthOff, ← hcl]
    | succ i =>
      simp only [setNthAV] at hs
      split at hs
      · rename_i l2 hl2
        cases hs
        obtain ⟨hb, hr⟩ := ihl hh.2 h2 hn ha hd hl2
        refine ⟨by simp [AV.has, hh.1, hb], c, _, ?_, h1, hr⟩
        simp only [nthOff]
        rw [List.take_append, List.drop_append, ← hcl, List.take_of_length_le (by omega), List.drop_of_length_le (by omega)]
        simp [Nat.add_assoc]
      · cases hs
  | _ => intro l' b cs i u _ _ _ _ _ hs; cases i <;> simp [setNthAV] at hs
/-- A struct's fields, told one by one. -/
def isBody : Ty → Bool
  | .unit => true
  | .prod _ b => isBody b
  | _ => false
theorem isBody_body (s : St) : isBody s.body = true := by cases s <;> rfl
theorem exBody_has : ∀ (b : Ty) (x : b.den), isBody b = true → (exBody b x).has b = true := by
  intro b
  induction b with
  | unit => intro x _; rfl
  | prod a b _ ihb => intro x h; simp [exBody, AV.has, Ty.eqb_self, ihb x.2 h]
  | _ => intro x h; simp [isBody] at h
theorem exBody_RC {E : Env} : ∀ (b : Ty) (x : b.den) (cs : List Value), isBody b = true → Rd E.w E.imm b x cs → RC E (exBody b x) cs := by
  intro b
  induction b with
  | unit => intro x cs _ h; rw [Rd.unit] at h; exact h
  | prod a b _ ihb => intro x cs hb h; rw [Rd.prod] at h; obtain ⟨c, d, e, h1, h2⟩ := h; exact ⟨c, d, e, h1, ihb x.2 d hb h2⟩
  | _ => intro x cs h; simp [isBody] at h

theorem loadAV_nil (v : AV) : loadAV v [] = some v := by unfold loadAV; rfl
theorem load_sound {E : Env} : ∀ (p : List PS) (v y : AV) (t u : Ty) (o : Nat) (cs : List Value), v.has t = true → RC E v cs → tyAt t p = some (u, o) → inRange t p → loadAV v p = some y →
    y.has u = true ∧ ∃ c d e, cs = c ++ d ++ e ∧ c.length = o ∧ RC E y d := by
  intro p
  induction p with
  | nil =>
    intro v y t u o cs hh hr ht _ hl
    simp [tyAt] at ht
    obtain ⟨rfl, rfl⟩ := ht
    simp [loadAV_nil] at hl; subst hl
    exact ⟨hh, [], cs, [], by simp, rfl, hr⟩
  | cons s p ih =>
    intro v y t u o cs hh hr ht hi hl
    cases v with
    | val t' x =>
      have := has_val hh; subst this
      obtain ⟨z, hz, hrest⟩ := Rd.at _ _ _ _ _ _ hr ht hi
      simp [loadAV, hz] at hl
      subst hl
      exact ⟨Ty.eqb_self u, hrest⟩
    | agv S l =>
      cases t <;> simp [AV.has] at hh
      rename_i S'
      have := St.no_inj hh.1; subst this
      cases s with
      | idx i => simp [loadAV] at hl
      | fld i =>
        simp only [tyAt] at ht
        cases hn : nthTy S.body i with
        | none => simp [hn] at ht
        | some v =>
          simp only [hn] at ht
          cases ha : tyAt v p with
          | none => simp [ha] at ht
          | some vo =>
            obtain ⟨u', o'⟩ := vo
            simp [ha] at ht
            obtain ⟨rfl, rfl⟩ := ht
            simp only [loadAV] at hl
            cases hq : nthAV l i with
            | none => simp [hq] at hl
            | some a =>
              simp only [hq] at hl
              obtain ⟨hau, c, d, e, rfl, hcl, hra⟩ := RC.nth hh.2 hr hn hq
              obtain ⟨hy, c', d', e', rfl, hl', hr'⟩ := ih a y v u' o' d hau hra ha (by simpa [inRange, hn] using hi) hl
              exact ⟨hy, c ++ c', d', e' ++ e, by simp, by simp [hcl, hl'], hr'⟩
    | _ => simp [loadAV] at hl
theorem splice_len {α : Type} {cs d' : List α} {o n : Nat} (hd : d'.length = n) (h : o + n ≤ cs.length) : (cs.take o ++ d' ++ cs.drop (o + n)).length = cs.length := by
  simp [hd]; omega
theorem agv_store {E : Env} {S : St} {l l' a a' : AV} {p : List PS} {i : Nat} {u v : Ty} {o : Nat} {cs d' : List Value} (hh : l.has S.body = true) (hr : RC E l cs) (hn : nthTy S.body i = some v) (hq : nthAV l i = some a)
    (ha : tyAt v p = some (u, o)) (hi : inRange v p) (hd : d'.length = u.size) (hs : setNthAV l i a' = some l')
    (hst : ∀ d, RC E a d → a.has v = true → a'.has v = true ∧ RC E a' (d.take o ++ d' ++ d.drop (o + u.size))) :
    l'.has S.body = true ∧ RC E l' (cs.take (nthOff S.body i + o) ++ d' ++ cs.drop (nthOff S.body i + o + u.size)) := by
  obtain ⟨hau, c, d, e, hcs, hcl, hra⟩ := RC.nth hh hr hn hq
  obtain ⟨h1, h2⟩ := hst d hra hau
  have hdl := has_cells hau hra
  have hle := tyAt_le p v u o ha hi
  obtain ⟨h3, h4⟩ := RC.setNth hh hr hn h1 h2 hs
  refine ⟨h3, ?_⟩
  have e1 := splice_in (e := e) (d' := d') (m := o) hcl hdl (by omega)
  rw [← hcs, hd] at e1
  rw [e1]
  have e2 : cs.take (nthOff S.body i) = c := by rw [hcs, ← hcl]; simp
  have e3 : cs.drop (nthOff S.body i + v.size) = e := by rw [hcs, ← hcl, ← hdl, ← List.length_append, List.drop_left]
  rw [e2, e3] at h4
  exact h4
theorem store_sound {E : Env} {y : AV} {u : Ty} {d' : List Value} (hy : y.has u = true) (hd : RC E y d') : ∀ (p : List PS) (v v' : AV) (t : Ty) (o : Nat) (cs : List Value), v.has t = true → RC E v cs → tyAt t p = some (u, o) → inRange t p → storeAV v p y = some v' →
    v'.has t = true ∧ RC E v' (cs.take o ++ d' ++ cs.drop (o + u.size)) := by
  have hdl := has_cells hy hd
  intro p
  induction p with
  | nil =>
    intro v v' t o cs hh hr ht _ hs
    simp [tyAt] at ht
    obtain ⟨rfl, rfl⟩ := ht
    have : storeAV v [] y = some y := by unfold storeAV; rfl
    rw [this] at hs; cases hs
    refine ⟨hy, ?_⟩
    have := has_cells hh hr
    rw [← this]; simpa using hd
  | cons s p ih =>
    intro v v' t o cs hh hr ht hi hs
    cases v with
    | val t' x =>
      have := has_val hh; subst this
      unfold storeAV at hs
      split at hs
      · rename_i u' z
        have := has_val hy; subst this
        obtain ⟨x', hx, hrx⟩ := Rd.setAt (show Rd E.w E.imm u' z d' from hd) _ _ _ _ _ hr ht hi
        simp only [hx] at hs
        cases hs
        exact ⟨Ty.eqb_self _, hrx⟩
      · rename_i hnv
        split at hs
        · rename_i S x i
          have hh' : (exBody S.body (S.unpack x)).has S.body = true := exBody_has _ _ (isBody_body S)
          have hr' : RC E (exBody S.body (S.unpack x)) cs := exBody_RC _ _ _ (isBody_body S) (by rw [← Rd.st]; exact hr)
          cases hq : nthAV (exBody S.body (S.unpack x)) i with
          | none => simp [hq] at hs
          | some a =>
            simp only [hq] at hs
            cases ha' : storeAV a p y with
            | none => simp [ha'] at hs
            | some a' =>
              simp only [ha'] at hs
              cases hl' : setNthAV (exBody S.body (S.unpack x)) i a' with
              | none => simp [hl'] at hs
              | some l' =>
                simp only [hl'] at hs
                cases hs
                simp only [tyAt] at ht
                cases hn : nthTy S.body i with
                | none => simp [hn] at ht
                | some v =>
                  simp only [hn] at ht
                  cases ha : tyAt v p with
                  | none => simp [ha] at ht
                  | some vo =>
                    obtain ⟨u', o'⟩ := vo
                    simp [ha] at ht
                    obtain ⟨rfl, rfl⟩ := ht
                    have hi' : inRange v p := by simpa [inRange, hn] using hi
                    obtain ⟨h1, h2⟩ := agv_store hh' hr' hn hq ha hi' hdl hl' (fun d hd hha => ih a a' v o' d hha hd ha hi' ha')
                    exact ⟨by simp [AV.has, h1], h2⟩
        · cases hs
    | agv S l =>
      cases t <;> simp [AV.has] at hh
      rename_i S'
      have := St.no_inj hh.1; subst this
      cases s with
      | idx i => simp [storeAV] at hs
      | fld i =>
        simp only [storeAV] at hs
        cases hq : nthAV l i with
        | none => simp [hq] at hs
        | some a =>
          simp only [hq] at hs
          cases ha' : storeAV a p y with
          | none => simp [ha'] at hs
          | some a' =>
            simp only [ha'] at hs
            cases hl' : setNthAV l i a' with
            | none => simp [hl'] at hs
            | some l' =>
              simp only [hl'] at hs
              cases hs
              simp only [tyAt] at ht
              cases hn : nthTy S.body i with
              | none => simp [hn] at ht
              | some v =>
                simp only [hn] at ht
                cases ha : tyAt v p with
                | none => simp [ha] at ht
                | some vo =>
                  obtain ⟨u', o'⟩ := vo
                  simp [ha] at ht
                  obtain ⟨rfl, rfl⟩ := ht
                  have hi' : inRange v p := by simpa [inRange, hn] using hi
                  obtain ⟨h1, h2⟩ := agv_store hh.2 hr hn hq ha hi' hdl hl' (fun d hd hha => ih a a' v o' d hha hd ha hi' ha')
                  exact ⟨by simp [AV.has, h1], h2⟩
    | _ => simp [storeAV] at hs
end Go.Co
