/-
  Literals of structs, arrays and slices; append.
  Own text, for the claims about coterie.
-/
import Derived.Test.YtghmcodjbkmlnaaCoOps6
namespace Go.Co
open Go.RowKit

/-- A part laid into cells. -/
theorem lay_cells (d : List Value) : ∀ (off : Nat) (cells : Array Value), off + d.length ≤ cells.size →
    (d.toArray.zipIdx.foldl (fun cs (x : Value × Nat) => cs.setIfInBounds (off + x.2) x.1) cells) = (cells.toList.take off ++ d ++ cells.toList.drop (off + d.length)).toArray := by
  have key : ∀ (d : List Value) (k off : Nat) (cells : Array Value), off + k + d.length ≤ cells.size →
      ((d.zipIdx k).foldl (fun cs (x : Value × Nat) => cs.setIfInBounds (off + x.2) x.1) cells) = (cells.toList.take (off + k) ++ d ++ cells.toList.drop (off + k + d.length)).toArray := by
    intro d
    induction d with
    | nil => intro k off cells h; simp
    | cons v d ih =>
      intro k off cells h
      simp only [List.length_cons] at h
      rw [List.zipIdx_cons, List.foldl_cons, ih (k + 1) off _ (by simp; omega)]
      congr 1
      have e := list_seg_step cells.toList (off + k) v d (by simp; omega)
      simp only [Array.toList_setIfInBounds]
      rw [show off + (k + 1) = off + k + 1 by omega]
      simpa [Nat.add_assoc] using e
  intro off cells h
  have := key d 0 off cells (by simpa using h)
  rw [← Array.foldl_toList]
  simpa using this
theorem fill_cons {place : Nat → Option (Nat × Nat)} {cells : Array Value} {i : Nat} {v : Value} {rest : List (Nat × Value)} {off size : Nat} {d : List Value} (hp : place i = some (off, size)) (hd : v.cells.toList = d) (hs : d.length = size) (hle : off + size ≤ cells.size) :
    Instr.fill place cells ((i, v) :: rest) = Instr.fill place (cells.toList.take off ++ d ++ cells.toList.drop (off + size)).toArray rest := by
  have hv : v.cells = d.toArray := by apply Array.ext'; simpa using hd
  have h1 : v.cells.size = size := by rw [hv]; simpa using hs
  have h2 := lay_cells d off cells (by omega)
  simp only [Instr.fill, hp, h1]
  rw [if_neg (by simp; omega), hv, h2, hs]

section
variable {P : Program} {T : Tab} (hT : TabOK P T) {tid : Nat}
include hT
/-! ### Structs and arrays -/
omit hT in
theorem setParts_ok {E : Env} {b : Ty} {place : Nat → Option (Nat × Nat)} (hpl : ∀ i u, nthTy b i = some u → place i = some (nthOff b i, u.size) ∧ (∀ x y, u ≠ .prod x y) ∧ u ≠ .unit) (hb : ∀ i u, nthTy b i = some u → nthOff b i + u.size ≤ b.size) :
    ∀ (parts : List (Nat × AV)) (vals : List (Nat × Value)) (l l' : AV) (cs : List Value), All2 (fun (p : Nat × AV) (q : Nat × Value) => p.1 = q.1 ∧ RV E p.2 q.2) parts vals → l.has b = true → RC E l cs → setParts b l parts = some l' →
      ∃ cs', Instr.fill place cs.toArray vals = some cs'.toArray ∧ l'.has b = true ∧ RC E l' cs' := by
  intro parts
  induction parts with
  | nil =>
    intro vals l l' cs hv hh hr hs
    cases vals with
    | nil => simp [setParts] at hs; subst hs; exact ⟨cs, rfl, hh, hr⟩
    | cons q vals => exact hv.elim
  | cons p parts ih =>
    intro vals l l' cs hv hh hr hs
    cases vals with
    | nil => exact hv.elim
    | cons q vals =>
      obtain ⟨⟨he, hq⟩, hv⟩ := hv
      obtain ⟨i, v⟩ := p
      obtain ⟨j, x⟩ := q
      simp only at he hq
      subst he
      simp only [setParts] at hs
      cases hn : nthTy b i with
      | none => simp [hn] at hs
      | some u =>
        simp only [hn] at hs
        split at hs
        · rename_i l2 hvu hl2
          obtain ⟨d, rfl, hd⟩ := hq.cells (by rintro rfl; simp [AV.has] at hvu) (by rintro l rfl; simp [AV.has] at hvu)
          obtain ⟨hp, hnp, hnu⟩ := hpl i u hn
          have hdc : (pk v.isAgg d).cells.toList = d := hd.cells (by rintro rfl; cases u <;> simp [AV.has] at hvu; exact hnu rfl) (by rintro a l rfl; cases u <;> simp [AV.has] at hvu; exact hnp _ _ rfl)
          have hdl := has_cells hvu hd
          have hcl := has_cells hh hr
          have hle := hb i u hn
          obtain ⟨h1, h2⟩ := RC.setNth hh hr hn hvu hd hl2
          obtain ⟨cs', h3, h4, h5⟩ := ih vals l2 l' _ hv h1 h2 hs
          refine ⟨cs', ?_, h4, h5⟩
          rw [fill_cons hp hdc hdl (by simp; omega)]
          exact h3
        · cases hs
omit hT in
theorem packBody_ok {E : Env} : ∀ (b : Ty) (l : AV) (y : b.den) (cs : List Value), packBody b l = some y → RC E l cs → Rd E.w E.imm b y cs := by
  intro b
  induction b with
  | unit =>
    intro l y cs h hr
    cases l <;> simp [packBody] at h
    rw [Rd.unit]; exact hr
  | prod x z _ ihz =>
    intro l y cs h hr
    cases l <;> try (simp [packBody] at h; done)
    rename_i a l
    cases a <;> try (simp [packBody] at h; done)
    rename_i t d
    simp only [packBody] at h
    split at h
    · rename_i p q hp hq
      cases h
      obtain ⟨c, e, rfl, h1, h2⟩ := hr
      obtain ⟨e1, hx⟩ := cast?_some hp
      subst e1; subst hx
      rw [Rd.prod]
      exact ⟨c, e, rfl, h1, ihz l q e hq h2⟩
    · cases h
  | _ => intro l y cs h; simp [packBody] at h
omit hT in
theorem nthOff_le : ∀ (b u : Ty) (i : Nat), nthTy b i = some u → nthOff b i + u.size ≤ b.size := by
  intro b
  induction b with
  | prod a b _ ihb =>
    intro u i hn
    cases i with
    | zero => simp [nthTy] at hn; subst hn; simp [nthOff, Ty.size]
    | succ i => have := ihb u i hn; simp [nthOff, Ty.size]; omega
  | _ => intro u i hn; cases i <;> simp [nthTy] at hn
theorem buildSt_ok {s : St} (he : T.get tid = some (.ty (.st s))) {parts : List (Nat × AV)} {v : AV} (h : buildSt s parts = some v) {E : Env} {vals : Array (Nat × Value)}
    (hv : All2 (fun (p : Nat × AV) (q : Nat × Value) => p.1 = q.1 ∧ RV E p.2 q.2) parts vals.toList) : ∃ z, (Instr.build tid vals).run P E.w = .ok z E.w ∧ RV E v z := by
  obtain ⟨⟨fs, hu, hf, _⟩, ⟨it, hit, _, _, hz⟩, _⟩ := hT tid _ he
  unfold buildSt at h
  split at h
  · rename_i l hl
    obtain ⟨h1, h2⟩ := exZero_ok (E := E) s.body (isBody_body s)
    -- the places of the fields
    have hplaces : ∀ (fl : List Field) (b : Ty) (o : Nat), fldsOK T fl o b → ∃ pl, fl.mapM (fun f => (P.info? f.type).map fun i => (f.offset, i.size)) = some pl ∧ ∀ i u, nthTy b i = some u → pl[i]? = some (o + nthOff b i, u.size) ∧ (∀ x y, u ≠ .prod x y) ∧ u ≠ .unit := by
      intro fl
      induction fl with
      | nil => intro b o hf; exact ⟨[], rfl, fun i u hn => by cases b <;> simp [fldsOK] at hf; cases i <;> simp [nthTy] at hn⟩
      | cons f fl ih =>
        intro b o hf
        cases b <;> simp only [fldsOK] at hf
        rename_i a b
        obtain ⟨h1, h2, _, _, h5⟩ := hf
        obtain ⟨pl, hpl, hq⟩ := ih b (o + a.size) h5
        obtain ⟨_, ⟨i, hi, hs, _⟩, _⟩ := hT f.type _ h2
        have hnp := tab_noprod hT h2
        refine ⟨(f.offset, i.size) :: pl, by simp [List.mapM_cons, hi, hpl], fun j u hn => ?_⟩
        cases j with
        | zero => simp [nthTy] at hn; subst hn; exact ⟨by simp [nthOff, h1, hs], fun x y e => hnp.1 x y (by rw [e]), fun e => hnp.2 (by rw [e])⟩
        | succ j =>
          obtain ⟨q1, q2⟩ := hq j u hn
          exact ⟨by simp [nthOff, q1]; omega, q2⟩
    obtain ⟨pl, hpl, hq⟩ := hplaces fs.toList s.body 0 hf
    obtain ⟨cs', h3, h4, h5⟩ := setParts_ok (place := (pl.toArray[·]?)) (fun i u hn => by
      obtain ⟨q1, q2⟩ := hq i u hn
      exact ⟨by simpa using q1, q2⟩) (fun i u hn => nthOff_le _ _ _ hn) parts vals.toList _ l _ hv h1 h2 hl
    have hzb : zcells (.st s) = zcells s.body := zcN_body s
    have hzc : (pk (Ty.st s).agg (zcells (.st s))).cells = (zcells s.body).toArray := by rw [hzb]; rfl
    have hbuilt : P.built tid vals.toList = some cs'.toArray := by
      unfold Program.built
      simp only [hit, hu, hz, hpl, hzc]
      exact h3
    have hrun := run_build E.w tid vals cs'.toArray hbuilt
    split at h
    · rename_i y hy
      cases h
      exact ⟨_, hrun, cs', rfl, Rd.st.2 (by rw [St.unpack_pack]; exact packBody_ok _ _ _ _ hy h5)⟩
    · cases h
      exact ⟨_, hrun, cs', rfl, h5⟩
  · cases h
theorem buildArr_ok {n : Nat} {t : Ty} (he : T.get tid = some (.ty (.arr n t))) {parts : List (Nat × AV)} {a : Arr n t.den} (h : buildArr n t (Vector.replicate n t.zero) parts = some a) {E : Env} {vals : Array (Nat × Value)}
    (hv : All2 (fun (p : Nat × AV) (q : Nat × Value) => p.1 = q.1 ∧ RV E p.2 q.2) parts vals.toList) : ∃ z, (Instr.build tid vals).run P E.w = .ok z E.w ∧ RV E (.val (.arr n t) a) z := by
  obtain ⟨⟨eid, hu, heid⟩, ⟨it, hit, _, _, hz⟩, _⟩ := hT tid _ he
  obtain ⟨_, ⟨ie, hie, hes, _⟩, _⟩ := hT eid _ heid
  have key : ∀ (parts : List (Nat × AV)) (vals : List (Nat × Value)) (a a' : Arr n t.den) (cs : List Value), All2 (fun (p : Nat × AV) (q : Nat × Value) => p.1 = q.1 ∧ RV E p.2 q.2) parts vals → Rd E.w E.imm (.arr n t) a cs → buildArr n t a parts = some a' →
      ∃ cs', Instr.fill (fun i => some (i * t.size, t.size)) cs.toArray vals = some cs'.toArray ∧ Rd E.w E.imm (.arr n t) a' cs' := by
    intro parts
    induction parts with
    | nil =>
      intro vals a a' cs hv hr hs
      cases vals with
      | nil => simp [buildArr] at hs; subst hs; exact ⟨cs, rfl, hr⟩
      | cons q vals => exact hv.elim
    | cons p parts ih =>
      intro vals a a' cs hv hr hs
      cases vals with
      | nil => exact hv.elim
      | cons q vals =>
        obtain ⟨⟨heq, hq⟩, hv⟩ := hv
        obtain ⟨i, v⟩ := p
        obtain ⟨j, x⟩ := q
        simp only at heq hq
        subst heq
        cases v <;> try (simp [buildArr] at hs; done)
        rename_i u d
        simp only [buildArr] at hs
        split at hs
        · rename_i y hi hc
          obtain ⟨e1, hx⟩ := cast?_some hc
          subst e1; subst hx
          have hi : i < n := by simpa using hi
          obtain ⟨c, rfl, hc⟩ := hq
          have hc : Rd E.w E.imm u d c := hc
          obtain ⟨x', hx', hr'⟩ := Rd.setAt hc [.idx (i : Int)] (.arr n u) a cs (i * u.size) hr (by simp [tyAt]) ⟨by omega, by omega, trivial⟩
          simp [setAt, cast?_self] at hx'
          subst hx'
          obtain ⟨cs', h3, h4⟩ := ih vals _ a' _ hv hr' hs
          refine ⟨cs', ?_, h4⟩
          have hcl := Rd.len _ _ _ hr
          have hle : (i + 1) * u.size ≤ n * u.size := Nat.mul_le_mul_right _ hi
          rw [Nat.add_mul, Nat.one_mul] at hle
          have e1 : (AV.val u d).isAgg = u.agg := rfl
          rw [e1, fill_cons (off := i * u.size) (size := u.size) rfl hc.cells (Rd.len _ _ _ hc) (by simp only [List.size_toArray, hcl, Ty.size]; exact hle)]
          exact h3
        · cases hs
  have hz0 : Rd E.w E.imm (.arr n t) (Vector.replicate n t.zero) (zcells (.arr n t)) := Rd.zero _ _ (.arr n t)
  obtain ⟨cs', h3, h4⟩ := key parts vals.toList _ a _ hv hz0 h
  have hbuilt : P.built tid vals.toList = some cs'.toArray := by
    unfold Program.built
    simp only [hit, hu, hz, hie, hes]
    exact h3
  exact ⟨_, run_build E.w tid vals cs'.toArray hbuilt, cs', rfl, h4⟩

/-! ### Slices' literals -/
omit hT in
theorem rep_cells (z : List Value) (n : Nat) : ((Array.range (n * z.length)).map (fun i => z.toArray[i % z.toArray.size]!)) = (List.replicate n z).flatten.toArray := by
  apply Array.ext'
  simp only [Array.toList_map, Array.toList_range]
  induction n with
  | zero => simp
  | succ n ih =>
    rw [Nat.add_mul, Nat.one_mul, List.range_add, List.map_append, ih, List.replicate_succ', List.flatten_append]
    congr 1
    simp only [List.map_map]
    apply List.ext_getElem?
    intro j
    by_cases hj : j < z.length
    · simp [hj, Nat.mod_eq_of_lt]
    · simp [hj]
theorem buildSlice_ok {C : Ctx} {e : Ty} {n : Nat} {U : Nat → Prop} {nx : Nat} (he : T.get tid = some (.ty (.list e))) (hn : n * e.size ≤ 16777216) (hn1 : n ≤ 16777216) (hnb : n * e.bytes ≤ top) {m m' : Mem} {parts : List (Nat × AV)} {l : List e.den}
    (h : buildRow m e (List.replicate n e.zero) parts = some (l, m')) {E : Env} {vals : Array (Nat × Value)} (hm : MR C E m U) (hN : ¬ U nx)
    (hv : All2 (fun (p : Nat × AV) (q : Nat × Value) => p.1 = q.1 ∧ RV E p.2 q.2) parts vals.toList) :
    ∃ z E', (Instr.buildSlice tid n vals).run P E.w = .ok z E'.w ∧ Ext E E' ∧ MR C E' (m'.put nx (.slab e l)) (fun b => U b ∨ b = nx) ∧ Frm E m E' (m'.put nx (.slab e l)) ∧ RV E' (.sl nx) z := by
  obtain ⟨⟨eid, hu, heid⟩, _⟩ := hT tid _ he
  obtain ⟨_, ⟨ie, hie, hes, _, hze⟩, _⟩ := hT eid _ heid
  have hsz : (sizeOf eid).run P E.w = .ok e.size E.w := run_sizeOf' hT heid E.w
  have hzl := zcells_len e
  have key : ∀ (parts : List (Nat × AV)) (vals : List (Nat × Value)) (E0 : Env) (m m' : Mem) (l l' : List e.den) (css : List (List Value)), E0.w = E.w → All2 (fun (p : Nat × AV) (q : Nat × Value) => p.1 = q.1 ∧ RV E0 p.2 q.2) parts vals → MR C E0 m U → List.length l = n → All2 (Rd E0.w E0.imm e) l css → buildRow m e l parts = some (l', m') →
      ∃ css' E1, E1.w = E.w ∧ Instr.fill (fun i => some (i * e.size, e.size)) css.flatten.toArray vals = some css'.flatten.toArray ∧ Ext E0 E1 ∧ MR C E1 m' U ∧ Frm E0 m E1 m' ∧ List.length l' = n ∧ All2 (Rd E1.w E1.imm e) l' css' := by
    intro parts
    induction parts with
    | nil =>
      intro vals E0 m m' l l' css hw hv hm hl hr hs
      cases vals with
      | nil => simp [buildRow] at hs; obtain ⟨rfl, rfl⟩ := hs; exact ⟨css, E0, hw, rfl, Ext.refl _, hm, Frm.refl _ _, hl, hr⟩
      | cons q vals => exact hv.elim
    | cons p parts ih =>
      intro vals E0 m m' l l' css hw hv hm hl hr hs
      cases vals with
      | nil => exact hv.elim
      | cons q vals =>
        obtain ⟨⟨heq, hq⟩, hv⟩ := hv
        obtain ⟨i, v⟩ := p
        obtain ⟨j, x⟩ := q
        simp only at heq hq
        subst heq
        simp only [buildRow] at hs
        split at hs
        · rename_i y hi hg hp
          have hi : i < n := by rw [← hl]; simpa using hi
          obtain ⟨im, hk1, hk2, hk3, hk4⟩ := kill_MR v hm
          have hvnj : v ≠ .junk := by rintro rfl; simp [toPure] at hp
          have hvnt : ∀ l, v ≠ .tup l := by rintro l rfl; simp [toPure] at hp
          obtain ⟨c, rfl, hc⟩ := hq.cells hvnj hvnt
          have hnp := tab_noprod hT heid
          have hvn : v ≠ .nil := by rintro rfl; cases e <;> simp [toPure] at hp; exact hnp.2 rfl
          have hvc : ∀ a l, v ≠ .cons a l := by rintro a l rfl; cases e <;> simp [toPure] at hp; exact hnp.1 _ _ rfl
          have hcc := hc.cells hvn hvc
          have hrd : Rd E0.w im e y c := toPure_RC hm (fun k hk => (hk2.imm k hk).1) v e y c hp hc (fun b bt k hb hl hbt hk => hk3 hg b bt k hb hl hbt hk)
          have hE1w : ({ E0 with imm := im } : Env).w = E.w := hw
          have hv' : All2 (fun (p : Nat × AV) (q : Nat × Value) => p.1 = q.1 ∧ RV { E0 with imm := im } p.2 q.2) parts vals := hv.mono fun p q hpq => ⟨hpq.1, hpq.2.ext hk2⟩
          have hr' : All2 (Rd E0.w im e) (l.set i y) (css.set i c) := All2.set hrd i (hr.mono fun _ _ h => Rd.ext hk2 h)
          have hcl : css.length = n := by rw [← hr.length, hl]
          obtain ⟨css', E2, h1, h2, h3, h4, h5, h6, h7⟩ := ih vals { E0 with imm := im } _ m' (l.set i y) l' (css.set i c) hE1w hv' hk1 (by simpa using hl) hr' hs
          have hfrm : Frm E0 m { E0 with imm := im } (kill v m) := Frm.kill (fun j hj => kill_owns hj) hk4
          refine ⟨css', E2, h1, ?_, hk2.trans h3, h4, hfrm.trans h5, h6, h7⟩
          · rw [fill_cons rfl hcc (Rd.len _ _ _ hrd) (by
              have := flatten_len (n := e.size) hr.lens
              have hle : (i + 1) * e.size ≤ n * e.size := Nat.mul_le_mul_right _ hi
              rw [Nat.add_mul, Nat.one_mul] at hle
              simp only [List.size_toArray]; rw [this, hcl]; exact hle)]
            rw [← h2, flatten_set hr.lens (by omega)]
        · cases hs
  have hz0 : All2 (Rd E.w E.imm e) (List.replicate n e.zero) (List.replicate n (zcells e)) := All2.replicate (Rd.zero _ _ e) n
  obtain ⟨css, E1, h1, h2, h3, h4, h5, h6, h7⟩ := key parts vals.toList E m m' _ l _ rfl hv hm (by simp) hz0 h
  have hzc : (pk e.agg (zcells e)).cells = (zcells e).toArray := by
    apply Array.ext'; simpa using (Rd.zero E.w (fun _ => False) e).cells
  have hfl := flatten_len (n := e.size) h7.lens
  have hb : E1.w.heap.size = E.w.heap.size := by rw [h1]
  obtain ⟨E2, g1, g2, g3, g4, g5⟩ := alloc_ok h4 hN (.cells css.flatten.toArray eid) (.slab E1.w.heap.size e n n) rfl (.slab e l) (fun hx => by
    refine ⟨by rw [h6]; exact hnb, .inr ⟨E1.w.heap.size, n, css.flatten.toArray, eid, css, [], by simp [Env.name, h6], by show (E1.w.heap.push _)[E1.w.heap.size]? = _; rw [Array.getElem?_push, if_pos rfl], ?_, by rw [h6]; exact Nat.le_refl _, ?_, h7.mono fun _ _ hr => Rd.ext hx hr, by simp⟩⟩
    · simp only [List.size_toArray]; rw [hfl, ← h7.length, h6]
    · unfold maxLen
      omega)
  refine ⟨.slice (some ⟨E.w.heap.size, 0, none⟩) n n, E2, ?_, h3.trans g3, g4, h5.trans g5, ⟨_, rfl, .inr ⟨E1.w.heap.size, e, n, n, g2, by rw [hb]⟩⟩⟩
  have h24 : ¬ 2 ^ 24 < n * e.size := by omega
  have hzv : (zeroValue eid).run P E.w = .ok (pk e.agg (zcells e)) E.w := run_zeroValue' hT heid E.w
  have hinit : ∀ z : Array Value, (z = if n * e.size = 0 then (#[] : Array Value) else (zcells e).toArray) → ((Array.range (n * e.size)).map (z[· % z.size]!)) = (List.replicate n (zcells e)).flatten.toArray := by
    intro z hz
    by_cases h0 : n * e.size = 0
    · have hln : ((List.replicate n (zcells e)).flatten).length = n * e.size := by rw [flatten_len (n := e.size) (fun c hc => by rw [(List.mem_replicate.1 hc).2, hzl])]; simp
      rw [h0] at hln
      rw [List.length_eq_zero_iff.1 hln, h0]; simp
    · rw [if_neg h0] at hz
      subst hz
      have := rep_cells (zcells e) n
      rw [hzl] at this
      exact this
  rw [g1, h1]
  by_cases h0 : n * e.size = 0
  · have hi := hinit #[] (by rw [if_pos h0])
    rw [h0] at hi
    rw [← hi] at h2
    simp at h2
    simp [Instr.buildSlice, run_underlying hu, hsz, h0, newRow, h2]
  · have hi := hinit (zcells e).toArray (by rw [if_neg h0])
    rw [← hi] at h2
    simp at h2
    simp [Instr.buildSlice, run_underlying hu, hsz, h24, h0, newRow, hzv, hzc, h2]
end
end Go.Co
