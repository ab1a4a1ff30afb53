/-
  A law: from a contract that answers true to the given statement's form.
  Own text, for the claims about coterie.
-/
import Derived.Test.YtghmcodjbkmlnaaCoLoop
import Derived.ProofKit
import Derived.OpenShut
namespace Go.Co
open Go.RowKit Go.ChangeShapes Go.WideElems

/-- No slice of elements that hold nothing. -/
def posB (T : Tab) : Bool := T.all fun e => match e.2 with | .ty (.list u) => !Nat.beq u.size 0 | _ => true
theorem posB_get {T : Tab} (h : posB T = true) {id : Nat} {u : Ty} (hi : T.get id = some (.ty (.list u))) : u.size ≠ 0 := by
  have key : ∀ (U : Tab), (U.all fun e => match e.2 with | .ty (.list u) => !Nat.beq u.size 0 | _ => true) = true → U.get id = some (.ty (.list u)) → u.size ≠ 0 := by
    intro U
    induction U with
    | nil => intro _ h; cases h
    | cons e U ih =>
      intro h hg
      obtain ⟨i, e⟩ := e
      simp only [List.all_cons, Bool.and_eq_true] at h
      unfold Tab.get at hg
      split at hg
      · cases hg
        have := h.1
        intro h0
        simp [h0] at this
      · exact ih h.2 hg
  exact key T h hi
section
variable {P : Program} {T : Tab} (hT : TabOK P T)
include hT
theorem cellsOf_eq {id : Nat} {t : Ty} (h : T.get id = some (.ty t)) : P.cellsOf id = t.size := by
  obtain ⟨_, ⟨i, hi, hs, _⟩, _⟩ := hT id _ h
  simp [Program.cellsOf, hi, hs]
theorem bytesOf_eq {id : Nat} {t : Ty} (h : T.get id = some (.ty t)) : P.bytesOf id = t.bytes := by
  obtain ⟨_, ⟨i, hi, _, hs, _⟩, _⟩ := hT id _ h
  simp [Program.bytesOf, hi, hs]
omit hT in
theorem list_of {α β : Type} {R : α → β → Prop} {g : Nat → β} : ∀ (n : Nat), (∀ i, i < n → ∃ y, R y (g i)) → ∃ ys : List α, ys.length = n ∧ All2 R ys ((List.range n).map g)
  | 0, _ => ⟨[], rfl, trivial⟩
  | n + 1, h => by
    obtain ⟨ys, h1, h2⟩ := list_of n (fun i hi => h i (by omega))
    obtain ⟨y, hy⟩ := h n (by omega)
    refine ⟨ys ++ [y], by simp [h1], ?_⟩
    rw [List.range_succ, List.map_append]
    exact h2.append ⟨hy, trivial⟩
omit hT in
theorem cut_up {α : Type} {sz : Nat} : ∀ (n : Nat) (cs : List α), cs.length = n * sz → ((List.range n).map fun i => (cs.drop (i * sz)).take sz).flatten = cs
  | 0, cs, h => by simp at h; simp [h]
  | n + 1, cs, h => by
    have h0 : (cs.take (n * sz)).length = n * sz := by rw [List.length_take, h, Nat.add_mul]; omega
    have ih := cut_up n (cs.take (n * sz)) h0
    rw [List.range_succ, List.map_append, List.flatten_append]
    have e1 : (List.range n).map (fun i => (cs.drop (i * sz)).take sz) = (List.range n).map (fun i => ((cs.take (n * sz)).drop (i * sz)).take sz) := by
      refine List.map_congr_left fun i hi => ?_
      have hi : i < n := by simpa using hi
      have hle : (i + 1) * sz ≤ n * sz := Nat.mul_le_mul_right _ hi
      rw [Nat.add_mul, Nat.one_mul] at hle
      rw [List.drop_take, List.take_take]
      congr 1
      omega
    rw [e1, ih]
    simp only [List.map_cons, List.map_nil, List.flatten_cons, List.flatten_nil, List.append_nil]
    have e2 : (cs.drop (n * sz)).take sz = cs.drop (n * sz) := List.take_of_length_le (by rw [List.length_drop, h, Nat.add_mul]; omega)
    rw [e2, List.take_append_drop]
omit hT in
theorem cells_get {w : World} {base : Nat} {a : Addr} {n : Nat} {cs : List Value} (h : w.cells? base a n = some cs) : cs.length = n ∧ ∀ j v, cs[j]? = some v → w.cell? (a.add j) = some v := by
  unfold World.cells? at h
  split at h
  · refine ⟨by simpa using mapM_some_length h, fun j v hv => ?_⟩
    have hj : j < cs.length := (List.getElem?_eq_some_iff.1 hv).1
    have hl : cs.length = n := by simpa using mapM_some_length h
    have := mapM_some_get h j j (by rw [List.getElem?_range]; omega)
    rw [hv] at this; exact this
  · cases h
omit hT in
theorem cell_spot {w : World} {a : Addr} {v : Value} (h : w.cell? a = some v) : a.spot = none ∧ a.block < w.heap.size := by
  unfold World.cell? at h
  split at h
  · rename_i hb
    refine ⟨?_, (Array.getElem?_eq_some_iff.1 hb).1⟩
    cases hs : a.spot with
    | none => rfl
    | some x => simp [hs] at h
  · cases h
omit hT in
theorem add_spot {a : Addr} {n : Nat} (h : (a.add n).spot = none) : a.add n = ⟨a.block, a.off + n, none⟩ := by
  unfold Addr.add at h ⊢
  split
  · rename_i h0
    subst h0
    rw [if_pos rfl] at h
    cases a
    simp_all
  · rfl
omit hT in
theorem weightsAll_get {H : Type} {e : TypeId} {b : Nat} : ∀ {l : List (DataW H)}, (DataW.weightsAll P e l).all (· ≤ b) = true → ∀ d ∈ l, (d.weights P e).all (· ≤ b) = true
  | [], _, d, h => by cases h
  | x :: l, h, d, hd => by
    simp only [DataW.weightsAll, List.all_append, Bool.and_eq_true] at h
    rcases List.mem_cons.1 hd with rfl | hd
    · exact h.1
    · exact weightsAll_get h.2 d hd

variable {H : Type} {enc : TypeId × Value → H} {w : World} (hpos : posB T = true)
include hpos
def TR (P : Program) (T : Tab) (enc : TypeId × Value → H) (w : World) (t : Ty) : Prop := ∀ (id fuel : Nat) (cs : List Value) (x : DataW H × List MemPlace), T.get id = some (.ty t) → DataW.trod enc P w 0 (fun _ => true) true fuel id cs = some x →
    (x.1.weights P id).all (· ≤ reachBytes) = true → ∃ y, Rd w (fun k => k < w.heap.size) t y cs
def TB (P : Program) (T : Tab) (enc : TypeId × Value → H) (w : World) (t : Ty) : Prop := ∀ (fs : List Field) (o n : Nat) (cs : List Value) (xs : List (DataW H × List MemPlace)), fldsOK T fs o t →
    (∀ (i : Nat) (f : Field), fs[i]? = some f → DataW.trod enc P w 0 (fun _ => true) true n f.type ((cs.drop f.offset).take (P.cellsOf f.type)) = xs[i]?) → xs.length = fs.length →
    (DataW.weightsEach P (fs.map (·.type)) (xs.map (·.1))).all (· ≤ reachBytes) = true → cs.length = o + t.size → ∃ y, Rd w (fun k => k < w.heap.size) t y (cs.drop o)
theorem trod_Rd : ∀ t : Ty, TR P T enc w t ∧ TB P T enc w t := by
  have noB : ∀ t : Ty, (∀ a b, t ≠ .prod a b) → t ≠ .unit → TB P T enc w t := by
    intro t h1 h2 fs o n cs xs hf
    cases t <;> cases fs <;> simp [fldsOK] at hf <;> first | exact absurd rfl h2 | exact absurd rfl (h1 _ _)
  have hreach : reachBytes ≤ top := by decide
  refine Ty.ind ?_ ?_ ?_ ?_ ?_ ?_ ?_ ?_
  · intro k
    refine ⟨fun id fuel cs x hi h hw => ?_, noB _ (by simp) (by simp)⟩
    obtain ⟨n, rfl, _, hwf⟩ := DataW.trod_int (show P.underlying id = some (.int k) from (hT id _ hi).1) h
    refine ⟨n, Rd.int.2 ⟨rfl, ?_⟩⟩
    rw [inKind_iff]
    simpa [Lit.wf] using hwf
  · refine ⟨fun id fuel cs x hi h hw => ?_, noB _ (by simp) (by simp)⟩
    obtain ⟨b, rfl, _⟩ := DataW.trod_bool (show P.underlying id = some .bool from (hT id _ hi).1) h
    exact ⟨b, Rd.bool.2 rfl⟩
  · refine ⟨fun id fuel cs x hi h hw => ?_, noB _ (by simp) (by simp)⟩
    obtain ⟨s, rfl, rfl, _⟩ := DataW.trod_string (show P.underlying id = some .string from (hT id _ hi).1) h
    refine ⟨s, Rd.str.2 ⟨rfl, ?_⟩⟩
    simp [DataW.weights] at hw
    exact Nat.le_trans hw hreach
  · refine ⟨fun id fuel cs x hi => (hT id _ hi).1.elim, ?_⟩
    intro fs o n cs xs hf _ _ _ hl
    refine ⟨(), Rd.unit.2 ?_⟩
    exact List.drop_of_length_le (by rw [hl]; simp [Ty.size])
  · intro a b iha ihb
    refine ⟨fun id fuel cs x hi => (hT id _ hi).1.elim, ?_⟩
    intro fs o n cs xs hf hx hxl hw hl
    cases fs with
    | nil => exact hf.elim
    | cons f fs =>
      obtain ⟨h1, h2, _, _, h5⟩ := hf
      cases xs with
      | nil => simp at hxl
      | cons x0 xs =>
        simp only [List.map_cons, DataW.weightsEach, List.all_append, Bool.and_eq_true] at hw
        have ht0 := hx 0 f rfl
        simp only [List.getElem?_cons_zero] at ht0
        rw [h1, cellsOf_eq hT h2] at ht0
        obtain ⟨y0, hy0⟩ := iha.1 f.type n _ x0 h2 ht0 hw.1
        obtain ⟨y1, hy1⟩ := ihb.2 fs (o + a.size) n cs xs h5 (fun i g hg => by
          have := hx (i + 1) g (by simpa using hg)
          simpa using this) (by simpa using hxl) hw.2 (by rw [hl]; simp [Ty.size]; omega)
        refine ⟨(y0, y1), Rd.prod.2 ⟨_, _, ?_, hy0, hy1⟩⟩
        rw [← List.drop_drop, List.take_append_drop]
  · intro n u ih
    refine ⟨fun id fuel cs x hi h hw => ?_, noB _ (by simp) (by simp)⟩
    obtain ⟨e, hu, he⟩ := (hT id _ hi).1
    obtain ⟨xs, m, rfl, rfl, hl, hxl, hx⟩ := DataW.trod_array hu h
    rw [cellsOf_eq hT hi] at hl
    have hce := cellsOf_eq hT he
    simp only [DataW.weights, hu] at hw
    have hwe := weightsAll_get (P := P) hw
    obtain ⟨ys, hyl, hall⟩ := list_of (R := Rd w (fun k => k < w.heap.size) u) (g := fun i => (cs.drop (i * u.size)).take u.size) n (fun i hi' => by
      have hxi := hx i hi'
      have hlt : i < xs.length := by omega
      rw [hce, List.getElem?_eq_getElem hlt] at hxi
      exact ih.1 e m _ _ he hxi (hwe _ (List.mem_map.2 ⟨_, List.getElem_mem hlt, rfl⟩)))
    refine ⟨⟨ys.toArray, by simp [hyl]⟩, Rd.arr.2 ⟨_, (cut_up n cs (by rw [hl]; rfl)).symm, ?_⟩⟩
    simpa using hall
  · intro u ih
    refine ⟨fun id fuel cs x hi h hw => ?_, noB _ (by simp) (by simp)⟩
    obtain ⟨e, hu, he⟩ := (hT id _ hi).1
    have hce := cellsOf_eq hT he
    have hu0 := posB_get hpos hi
    rcases DataW.trod_slice hu h with ⟨rfl, _⟩ | ⟨a, len, cap, elems, rest, n, rfl, rfl, rfl, _, hlc, hcm, hel, hx, _, _⟩
    · exact ⟨[], Rd.list.2 ⟨by simp, .inl ⟨rfl, rfl⟩⟩⟩
    · simp only [DataW.weights, hu, List.all_cons, List.all_append, Bool.and_eq_true] at hw
      obtain ⟨hw1, hw2, _⟩ := hw
      have hwe := weightsAll_get (P := P) hw2
      have hw1 := of_decide_eq_true hw1
      rw [bytesOf_eq hT he, List.length_map, List.length_map, hel] at hw1
      have hone : ∀ i, i < len → ∃ l, w.cells? 0 (a.add (i * u.size)) u.size = some l ∧ ∃ y, Rd w (fun k => k < w.heap.size) u y l := by
        intro i hi'
        have hxi := hx i hi'
        have hlt : i < elems.length := by omega
        rw [hce, List.getElem?_eq_getElem hlt] at hxi
        obtain ⟨l, h1, h2⟩ := Option.bind_eq_some_iff.1 hxi
        exact ⟨l, h1, ih.1 e n l _ he h2 (hwe _ (List.mem_map.2 ⟨_, List.getElem_mem hlt, rfl⟩))⟩
      obtain ⟨ys, hyl, hall⟩ := list_of (R := Rd w (fun k => k < w.heap.size) u) (g := fun i => (w.cells? 0 (a.add (i * u.size)) u.size).getD []) len (fun i hi' => by
        obtain ⟨l, h1, y, hy⟩ := hone i hi'
        exact ⟨y, by rw [h1]; exact hy⟩)
      have hfirst : ys ≠ [] → a.spot = none ∧ a.block < w.heap.size := by
        intro hne
        have hl0 : 0 < len := by rw [← hyl]; exact List.length_pos_iff.2 hne
        obtain ⟨l, h1, _⟩ := hone 0 hl0
        obtain ⟨hll, hlc⟩ := cells_get h1
        have hlt : 0 < l.length := by omega
        have := cell_spot (hlc 0 _ (List.getElem?_eq_getElem hlt))
        simpa [Addr.add] using this
      refine ⟨ys, Rd.list.2 ⟨?_, .inr ⟨a, cap, _, by rw [hyl], fun hne => (hfirst hne).1, by rw [hyl]; exact hlc, hcm, hall, fun hne => (hfirst hne).2, fun j v hv => ?_⟩⟩⟩
      · rw [hyl]
        have : len * u.bytes ≤ (len + rest.length) * u.bytes := Nat.mul_le_mul_right _ (by omega)
        omega
      · -- the j-th cell
        have hlens := hall.lens
        have hne : ys ≠ [] := by
          intro hn
          rw [hn] at hyl
          have : len = 0 := hyl.symm
          subst this
          simp at hv
        obtain ⟨hsp, _⟩ := hfirst hne
        have hspos : 0 < u.size := by omega
        have hjlt := (List.getElem?_eq_some_iff.1 hv).1
        rw [flatten_len (n := u.size) hlens, List.length_map, List.length_range] at hjlt
        have hi' : j / u.size < len := by rw [Nat.div_lt_iff_lt_mul hspos]; exact hjlt
        obtain ⟨l, h1, y, hy⟩ := hone (j / u.size) hi'
        obtain ⟨hll, hlc'⟩ := cells_get h1
        have hat : ((List.range len).map fun i => (w.cells? 0 (a.add (i * u.size)) u.size).getD [])[j / u.size]? = some l := by
          rw [List.getElem?_map, List.getElem?_range hi']; simp [h1]
        have hdm := Nat.div_add_mod' j u.size
        have hml := Nat.mod_lt j hspos
        have hfl := flatten_at hlens hat
        have hv2 : l[j % u.size]? = some v := by
          rw [hfl] at hv
          have hlen1 : (List.take (j / u.size * u.size) ((List.range len).map fun i => (w.cells? 0 (a.add (i * u.size)) u.size).getD []).flatten).length = j / u.size * u.size := by
            rw [List.length_take, flatten_len (n := u.size) hlens, List.length_map, List.length_range]
            have : (j / u.size) * u.size ≤ len * u.size := Nat.mul_le_mul_right _ (by omega)
            omega
          rw [List.append_assoc, List.getElem?_append_right (by rw [hlen1]; omega), hlen1, List.getElem?_append_left (by rw [hll]; omega)] at hv
          rw [show j - j / u.size * u.size = j % u.size by omega] at hv
          exact hv
        have hc := hlc' _ _ hv2
        have e1 : a.add (j / u.size * u.size) = ⟨a.block, a.off + j / u.size * u.size, none⟩ := addr_add' hsp _
        rw [e1, addr_add] at hc
        rw [show a.off + j = a.off + j / u.size * u.size + j % u.size by omega]
        exact hc
  · intro s ih
    refine ⟨fun id fuel cs x hi h hw => ?_, noB _ (by simp) (by simp)⟩
    obtain ⟨fs, hu, hf, _⟩ := (hT id _ hi).1
    obtain ⟨xs, n, rfl, rfl, hl, hxl, hx⟩ := DataW.trod_struct hu h
    rw [cellsOf_eq hT hi] at hl
    simp only [DataW.weights, hu] at hw
    obtain ⟨y, hy⟩ := ih.2 fs.toList 0 n cs xs hf (fun i f hfi => hx i f (by simpa using hfi)) (by simpa using hxl) hw (by rw [hl, St.size_body]; simp [Ty.size])
    refine ⟨s.pack y, Rd.st.2 ?_⟩
    rw [St.unpack_pack]
    simpa using hy

/-! ### Arguments -/
omit hT hpos in
/-- Do the types' numbers stand for these kinds? -/
def idsB (T : Tab) : List Nat → List Ty → Bool
  | [], [] => true
  | i :: is, t :: ts => getTyB T i t && idsB T is ts
  | _, _ => false
theorem one_Rd {base : Nat} {id : Nat} {t : Ty} {v : Value} {d : DataW H} {ps : List MemPlace} (hi : T.get id = some (.ty t)) (hv : Value.okWide P w .any base id v) (h : DataW.Trod enc P w 0 (fun _ => true) true id v d ps)
    (hw : (d.weights P id).all (· ≤ reachBytes) = true) : ∃ y cs, v = pk t.agg cs ∧ Rd w (fun k => k < w.heap.size) t y cs := by
  obtain ⟨fuel, h⟩ := h
  obtain ⟨y, hy⟩ := (trod_Rd hT hpos t).1 id fuel _ _ hi h hw
  refine ⟨y, v.cells.toList, ?_, hy⟩
  have hd := (hT id _ hi).1
  have single : t.agg = false → (∀ cs, v ≠ .agg cs) → v = pk t.agg v.cells.toList := by
    intro hg hna
    rw [hg]
    cases v <;> first | rfl | exact absurd rfl (hna _)
  cases t with
  | int k =>
    have hu : P.underlying id = some (.int k) := hd
    refine single rfl fun cs e => ?_
    subst e; simp [Value.okWide, hu, Cell.okWide, Cell.ok] at hv
  | bool =>
    have hu : P.underlying id = some .bool := hd
    refine single rfl fun cs e => ?_
    subst e; simp [Value.okWide, hu, Cell.okWide, Cell.ok] at hv
  | str =>
    have hu : P.underlying id = some .string := hd
    refine single rfl fun cs e => ?_
    subst e; simp [Value.okWide, hu, Cell.okWide, Cell.ok] at hv
  | list u =>
    obtain ⟨e, hu, _⟩ := hd
    refine single rfl fun cs e => ?_
    subst e; simp [Value.okWide, hu, Cell.okWide, Cell.ok] at hv
  | unit => exact hd.elim
  | prod a b => exact hd.elim
  | arr n u =>
    obtain ⟨e, hu, _⟩ := hd
    simp only [Value.okWide, hu] at hv
    obtain ⟨cs, rfl, _⟩ := hv
    simp [pk, Ty.agg, Value.cells]
  | st s =>
    obtain ⟨e, hu, _⟩ := hd
    simp only [Value.okWide, hu] at hv
    obtain ⟨cs, rfl, _⟩ := hv
    simp [pk, Ty.agg, Value.cells]
theorem args_Rd {base : Nat} {vt : List Nat} {gs : List (DataW H)} : ∀ (ids : List Nat) (ts : List Ty) (vs : List Value) (ds : List (DataW H)) (p : List MemPlace), idsB T ids ts = true → DataW.TrodAll enc P w 0 (fun _ => true) true ids vs ds p →
    (∀ (j : Nat) t v, ids[j]? = some t → vs[j]? = some v → Value.okWide P w .any base t v) → (DataW.weightsEach P (ids ++ vt) (ds ++ gs)).all (· ≤ reachBytes) = true → ∃ x : denL ts, argsRd w (fun k => k < w.heap.size) ts x vs
  | [], [], [], [], _, _, _, _, _ => ⟨(), trivial⟩
  | [], [], _ :: _, [], _, _, h, _, _ => h.elim
  | [], [], [], _ :: _, _, _, h, _, _ => h.elim
  | [], [], _ :: _, _ :: _, _, _, h, _, _ => h.elim
  | i :: is, [], _, _, _, h, _, _, _ => by simp [idsB] at h
  | [], t :: ts, _, _, _, h, _, _, _ => by simp [idsB] at h
  | i :: is, t :: ts, [], _, _, _, h, _, _ => h.elim
  | i :: is, t :: ts, _ :: _, [], _, _, h, _, _ => h.elim
  | i :: is, t :: ts, v :: vs, d :: ds, p, hb, ⟨p1, p2, h1, h2, _⟩, hv, hw => by
    simp only [idsB, Bool.and_eq_true] at hb
    simp only [List.cons_append, DataW.weightsEach, List.all_append, Bool.and_eq_true] at hw
    obtain ⟨y, cs, hc, hy⟩ := one_Rd hT hpos (getTyB_eq hb.1) (hv 0 i v rfl rfl) h1 hw.1
    obtain ⟨x, hx⟩ := args_Rd is ts vs ds p2 hb.2 h2 (fun j t v h3 h4 => hv (j + 1) t v (by simpa using h3) (by simpa using h4)) hw.2
    exact ⟨(y, x), ⟨cs, hc, hy⟩, hx⟩
omit hT hpos in
theorem trodAll_stays (hl : laidOutB P = true) {W W' : World} {sp : Nat → Bool} : ∀ (ids : List Nat) (vs : List Value) (ds : List (DataW H)) (p : List MemPlace), ids.all (fun t => P.readableRec t && decide (t < P.types.size)) = true →
    DataW.TrodAll enc P W 0 (fun _ => true) true ids vs ds p → (∀ x ∈ p, W.sameAt W' x) → (∀ x ∈ p, sp x.block = true) → DataW.TrodAll enc P W' 0 sp true ids vs ds p
  | [], [], [], _, _, h, _, _ => h
  | [], _ :: _, [], _, _, h, _, _ => h.elim
  | [], _ :: _, _ :: _, _, _, h, _, _ => h.elim
  | [], [], _ :: _, _, _, h, _, _ => h.elim
  | _ :: _, [], _, _, _, h, _, _ => h.elim
  | _ :: _, _ :: _, [], _, _, h, _, _ => h.elim
  | i :: is, v :: vs, d :: ds, p, hb, ⟨p1, p2, h1, h2, he⟩, hs, hsp => by
    simp only [List.all_cons, Bool.and_eq_true, decide_eq_true_eq] at hb
    subst he
    exact ⟨p1, p2, Trod_stays hl hb.1.1 hb.1.2 h1 (fun x hx => hs x (by simp [hx])) (fun x hx => hsp x (by simp [hx])), trodAll_stays hl is vs ds p2 (by simpa using hb.2) h2 (fun x hx => hs x (by simp [hx])) (fun x hx => hsp x (by simp [hx])), rfl⟩
omit hT hpos in
theorem trodAll_len {W : World} : ∀ (ids : List Nat) (vs : List Value) (ds : List (DataW H)) (p : List MemPlace), DataW.TrodAll enc P W 0 (fun _ => true) true ids vs ds p → ds.length = ids.length
  | [], [], [], _, _ => rfl
  | [], _ :: _, [], _, h => h.elim
  | [], _ :: _, _ :: _, _, h => h.elim
  | [], [], _ :: _, _, h => h.elim
  | _ :: _, [], _, _, h => h.elim
  | _ :: _, _ :: _, [], _, h => h.elim
  | _ :: is, _ :: vs, _ :: ds, _, ⟨_, p2, _, h2, _⟩ => by simp [trodAll_len is vs ds p2 h2]

/-- The law, from its contract. -/
theorem law_calls {f : Nat} {fn : Func} {ts : List Ty} {s : ChangeSpec} {apart fresh handsOn again : Bool} {tb : Nat} (hcon : ConOK P f ⟨ts, [.bool], fun _ => some (true, ())⟩) (hids : idsB T fn.params.toList ts = true) (hres : fn.resultTypes = #[tb]) (htb : P.underlying tb = some .bool)
    (hsv : s.vars = []) (hspec : ∀ ds : List (DataW H), ds.length = fn.params.toList.length → s.fn H ds = { results := [.lit (.bool true)], args := ds }) (hl : laidOutB P = true) (hread : fn.params.toList.all (fun t => P.readableRec t && decide (t < P.types.size)) = true)
    {W : World} {base : Nat} {args : Array Value} {ds gs : List (DataW H)} {before : List MemPlace} (hval : ∀ (j : Nat) t v, fn.params[j]? = some t → args[j]? = some v → Value.okWide P W .any base t v)
    (hW : DataW.Whole enc P fn.params.toList s.vars apart W args.toList ds gs before) (hwt : (DataW.weightsEach P (fn.params.toList ++ s.plain.varTypes P) (ds ++ gs)).all (· ≤ reachBytes) = true) :
    Calls P f args W fun e W' => ∃ v, e = .returned v ∧ s.post enc P fn apart fresh handsOn again W args v W' := by
  have hW' := hW
  obtain ⟨p, q, hA, hV, rfl, hfz, hnd⟩ := hW
  rw [hsv] at hV
  obtain ⟨rfl, rfl⟩ := trodVars_none hV
  obtain ⟨x, hx⟩ := args_Rd (w := W) hT hpos fn.params.toList ts args.toList ds p hids hA (fun j t v h1 h2 => hval j t v (by simpa using h1) (by simpa using h2)) hwt
  have hlen := trodAll_len _ _ _ _ hA
  have hrun := hcon.run W (fun k => k < W.heap.size) x args.toList (true, ()) (fun _ h => h) hx rfl
  refine Calls.mono hrun ?_
  rintro e W' ⟨z, rfl, hb, hz⟩
  obtain ⟨cs, rfl, hz⟩ := hz
  have hz := Rd.bool.1 hz
  subst hz
  have hlt : ∀ x ∈ p, x.block < W.heap.size := fun x hx => hW'.lt x (by simp [hx])
  have hsp := hspec ds hlen
  refine ⟨_, rfl, post_of_same (pa := p) (pv := []) hW' ?_ ?_ ?_ rfl (hb.toBelow.frame _) hb.fz ?_⟩
  · intro b sp hd
    rw [List.append_nil, hsp, hres]
    exact trodAll_mk1 (shut_bool htb true)
  · intro sp hs
    rw [List.append_nil, hsp]
    exact trodAll_stays hl _ _ _ _ hread hA (fun x hx => hb.toBelow.same (hlt x hx)) (fun x hx => hs x (by simp [hx]))
  · intro sp hs
    rw [List.append_nil, hsp, hsv]
    rfl
  · exact ok_one hres rfl (okWide_bool_mk htb true)
end
end Go.Co
