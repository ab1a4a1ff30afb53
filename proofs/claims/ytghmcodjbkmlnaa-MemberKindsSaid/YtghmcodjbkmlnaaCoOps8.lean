/-
  Appending to a row.
  Own text, for the claims about coterie.
-/
import Derived.Test.YtghmcodjbkmlnaaCoOps7
namespace Go.Co
open Go.RowKit

/-- A row, as the model has it. -/
def RowIs (E : Env) (t : Ty) (ys : List t.den) (z : Value) : Prop :=
  (z = .slice none 0 0 ∧ ys = []) ∨ ∃ a cap css, z = .slice (some a) (List.length ys) cap ∧ (ys ≠ [] → a.spot = none) ∧ All2 (Rd E.w E.imm t) ys css ∧ ∀ j v, css.flatten[j]? = some v → E.w.cell? ⟨a.block, a.off + j, none⟩ = some v

section
variable {P : Program} {T : Tab} {C : Ctx} {E : Env} {m : Mem} {U : Nat → Prop}
theorem rowOf_ok (hm : MR C E m U) {x : AV} {t : Ty} {ys : List t.den} (h : rowOf m x t = some ys) {z : Value} (hz : RV E x z) : RowIs E t ys z := by
  unfold rowOf at h
  split at h
  · rename_i e xs
    obtain ⟨e1, hx⟩ := cast?_some h
    cases e1
    have hx : xs = ys := hx
    subst hx
    obtain ⟨cs, rfl, hr⟩ := hz
    obtain ⟨_, hr⟩ := Rd.list.1 (show Rd E.w E.imm (.list t) xs cs from hr)
    rcases hr with ⟨rfl, rfl⟩ | ⟨a, cap, css, rfl, hs, _, _, hall, _, hc⟩
    · exact .inl ⟨rfl, rfl⟩
    · exact .inr ⟨a, cap, css, rfl, hs, hall, hc⟩
  · cases h
    obtain ⟨cs, rfl, hr⟩ := hz
    have : cs = [.slice none 0 0] := hr
    subst this
    exact .inl ⟨rfl, rfl⟩
  · rename_i b
    split at h
    · rename_i e xs hmb
      obtain ⟨e1, hx⟩ := cast?_some h
      cases e1
      have hx : xs = ys := hx
      subst hx
      obtain ⟨cs, rfl, hr⟩ := hz
      have hb := hm.blocks b
      rw [hmb] at hb
      obtain ⟨_, hb⟩ := hb
      rcases hb with ⟨hb, rfl⟩ | ⟨k, cap, cells, el, css, rest, hb, hcell, hsz, hlen, hcap, hall, hflat⟩
      · rcases hr with ⟨t', hb', rfl⟩ | ⟨k, t', cap, len, hb', rfl⟩
        · exact .inl ⟨rfl, rfl⟩
        · rw [hb] at hb'; cases hb'
      · rcases hr with ⟨t', hb', rfl⟩ | ⟨k', t', cap', len, hb', rfl⟩
        · rw [hb] at hb'; cases hb'
        · rw [hb] at hb'
          cases hb'
          refine .inr ⟨⟨k, 0, none⟩, cap, css, rfl, fun _ => rfl, hall, fun j v hv => ?_⟩
          have : cells[j]? = some v := by
            rw [← Array.getElem?_toList, hflat, List.getElem?_append_left (List.getElem?_eq_some_iff.1 hv).1]
            exact hv
          simp [World.cell?, hcell, this]
    · cases h
  · cases h

theorem run_append_room' (w : World) {t ty e : TypeId} {i : TypeInfo} (ht : P.underlying t = some (.slice e)) (hi : P.info? e = some i)
    {g sLen sCap : Nat} {el : TypeId} {cur : Array Value} (hg : w.heap[g]? = some (.cells cur el (0, 0)))
    {z : Value} {m : Nat} {news : List Value} (_ : news.length = m * i.size) (hn : (Builtin.lenOf z).run P w = .ok m w) (hf : (Builtin.firstCells i.size m z).run P w = .ok news.toArray w) (h1 : ∀ u ∈ news, u.oneCell' = true)
    (hroom : sLen + m ≤ sCap) (hfit : sLen * i.size + news.length ≤ cur.size) :
    (Builtin.append_ #[t, t] ty #[.slice (some ⟨g, 0, none⟩) sLen sCap, z]).run P w =
      .ok (.slice (some ⟨g, 0, none⟩) (sLen + m) sCap) (w.setRow g (cur.toList.take (sLen * i.size) ++ news ++ cur.toList.drop (sLen * i.size + news.length)).toArray) := by
  have hst := run_storeCells_at P g (sLen * i.size) el news 0 cur w hg (by simpa using hfit) h1
  simp only [Nat.add_zero] at hst
  simp [Builtin.append_, run_underlying ht, sizeOf, typeInfo, hi, hn, hroom, hf, Addr.add_lit, hst]
theorem run_append_none (w : World) {t ty e : TypeId} {i : TypeInfo} (ht : P.underlying t = some (.slice e)) (hi : P.info? e = some i)
    {z : Value} (hn : (Builtin.lenOf z).run P w = .ok 0 w) (hf : (Builtin.firstCells i.size 0 z).run P w = .ok #[] w) :
    (Builtin.append_ #[t, t] ty #[.slice none 0 0, z]).run P w = .ok (.slice none 0 0) w := by
  simp [Builtin.append_, run_underlying ht, sizeOf, typeInfo, hi, hn, hf]
theorem RowIs.len {t : Ty} {ys : List t.den} {z : Value} (h : RowIs E t ys z) (w : World) : (Builtin.lenOf z).run P w = .ok (List.length ys) w := by
  rcases h with ⟨rfl, rfl⟩ | ⟨a, cap, css, rfl, _⟩ <;> simp [Builtin.lenOf]
theorem RowIs.first {t : Ty} {ys : List t.den} {z : Value} (h : RowIs E t ys z) : ∃ css, All2 (Rd E.w E.imm t) ys css ∧ (Builtin.firstCells t.size (List.length ys) z).run P E.w = .ok css.flatten.toArray E.w ∧
    (ys ≠ [] → ∃ a cap, z = .slice (some a) (List.length ys) cap ∧ ∀ j v, css.flatten[j]? = some v → E.w.cell? (a.add j) = some v) := by
  rcases h with ⟨rfl, rfl⟩ | ⟨a, cap, css, rfl, hs, hall, hc⟩
  · exact ⟨[], trivial, by simp [Builtin.firstCells], fun h => absurd rfl h⟩
  · have hfl := flatten_len (n := t.size) hall.lens
    have hc' : ∀ j v, css.flatten[j]? = some v → E.w.cell? (a.add j) = some v := fun j v hv => by
      have hne : ys ≠ [] := by
        intro hn
        have hl0 := hall.length
        rw [hn] at hl0
        have hc0 : css = [] := List.length_eq_zero_iff.1 hl0.symm
        rw [hc0] at hv; simp at hv
      rw [addr_add' (hs hne)]; exact hc j v hv
    refine ⟨css, hall, run_firstCells_some E.w t.size _ a _ cap _ (by rw [hfl, hall.length]) hc', fun _ => ⟨a, cap, rfl, hc'⟩⟩
theorem All2.ones {w : World} {im : Nat → Prop} {t : Ty} {xs : List t.den} {css : List (List Value)} (h : All2 (Rd w im t) xs css) : ∀ c ∈ css.flatten, c.oneCell' = true := by
  intro c hc
  obtain ⟨d, hd, hcd⟩ := List.mem_flatten.1 hc
  obtain ⟨i, hi⟩ := List.getElem?_of_mem hd
  have hlt : i < xs.length := by rw [h.length]; exact (List.getElem?_eq_some_iff.1 hi).1
  obtain ⟨y, hy, hr⟩ := h.get i _ (List.getElem?_eq_getElem hlt)
  rw [hi] at hy; cases hy
  exact Rd.one _ _ _ hr c hcd
theorem Blw.drew' (w : World) (n : Nat) : Blw n w w.drew := ⟨⟨rfl, rfl, rfl, Nat.le_refl _, fun _ _ => rfl⟩, fun _ => rfl⟩

/-- A row that has moved: its elements, with room behind them, in a new block. -/
theorem grown_ok (hm : MR C E m U) {nx : Nat} (hN : ¬ U nx) {t : Ty} {zs : List t.den} {css : List (List Value)} (hall : All2 (Rd E.w E.imm t) zs css) (hb : List.length zs * t.bytes ≤ top) {cap : Nat} {e : TypeId} {room : Array Value}
    (hcap : List.length zs ≤ cap) (hmax : cap ≤ maxLen) (hroom : room.size = (cap - List.length zs) * t.size) :
    ∃ E', E'.w = E.w.drew.alloc (.cells (css.flatten.toArray ++ room) e) ∧ Ext E E' ∧ MR C E' (m.put nx (.slab t zs)) (fun b => U b ∨ b = nx) ∧ Frm E m E' (m.put nx (.slab t zs)) ∧
      RV E' (.sl nx) (.slice (some ⟨E.w.heap.size, 0, none⟩) (List.length zs) cap) := by
  obtain ⟨hm1, hx1⟩ := hm.grow' (Blw.drew' E.w _)
  have hfl := flatten_len (n := t.size) hall.lens
  have hf1 : Frm E m { E with w := E.w.drew } m := ⟨fun _ _ _ => rfl, Nat.le_refl _, fun _ h => .inl h, fun _ h => .inl h⟩
  obtain ⟨E', g1, g2, g3, g4, g5⟩ := alloc_ok hm1 hN (.cells (css.flatten.toArray ++ room) e) (.slab E.w.heap.size t cap (List.length zs)) rfl (.slab t zs) (fun hx => by
    refine ⟨hb, .inr ⟨E.w.heap.size, cap, css.flatten.toArray ++ room, e, css, room.toList, by simp [Env.name], by show (E.w.heap.push _)[E.w.heap.size]? = _; rw [Array.getElem?_push, if_pos rfl], ?_, hcap, hmax, hall.mono fun _ _ hr => Rd.ext (hx1.trans hx) hr, by simp⟩⟩
    simp only [Array.size_append, List.size_toArray]
    rw [hfl, ← hall.length, hroom, ← Nat.add_mul]
    congr 1; omega)
  exact ⟨E', g1, hx1.trans g3, g4, hf1.trans g5, _, rfl, .inr ⟨E.w.heap.size, t, cap, List.length zs, g2, rfl⟩⟩
theorem nil_name (hm : MR C E m U) {nx : Nat} (hN : ¬ U nx) (t : Ty) : ∃ E', E'.w = E.w ∧ Ext E E' ∧ MR C E' (m.put nx (.slab t [])) (fun b => U b ∨ b = nx) ∧ Frm E m E' (m.put nx (.slab t [])) ∧ RV E' (.sl nx) (.slice none 0 0) := by
  obtain ⟨E', h1, h2, h3, h4, h5⟩ := nilrow_ok hm hN t
  exact ⟨E', h1, h3, h4, h5, _, rfl, .inl ⟨t, h2, rfl⟩⟩
end

section
variable {P : Program} {T : Tab} (hT : TabOK P T) {tid : Nat}
include hT
theorem append_nil_ok {C : Ctx} {E : Env} {m : Mem} {U : Nat → Prop} (hm : MR C E m U) {nx : Nat} (hN : ¬ U nx) {t : Ty} (he : T.get tid = some (.ty (.list t))) (hpos : 1 ≤ t.bytes) {ys : List t.den} (hb : List.length ys * t.bytes ≤ top) {z : Value} (hz : RowIs E t ys z) (ty : Nat) :
    ∃ r E', (Builtin.append_ #[tid, tid] ty #[.slice none 0 0, z]).run P E.w = .ok r E'.w ∧ Ext E E' ∧ MR C E' (m.put nx (.slab t ys)) (fun b => U b ∨ b = nx) ∧ Frm E m E' (m.put nx (.slab t ys)) ∧ RV E' (.sl nx) r := by
  obtain ⟨⟨eid, hu, heid⟩, _⟩ := hT tid _ he
  obtain ⟨_, ⟨ie, hie, hes, heb, hze⟩, _⟩ := hT eid _ heid
  obtain ⟨css, hall, hf, hne⟩ := hz.first (P := P)
  have hfl := flatten_len (n := t.size) hall.lens
  by_cases h0 : ys = []
  · subst h0
    have hcss : css = [] := List.length_eq_zero_iff.1 (by simpa using hall.length.symm)
    subst hcss
    obtain ⟨E', h1, h2, h3, h4, h5⟩ := nil_name hm hN t
    exact ⟨_, E', by rw [h1]; exact run_append_none E.w hu hie (hz.len E.w) (by rw [hes]; simpa using hf), h2, h3, h4, h5⟩
  · obtain ⟨a, cap, rfl, hcell⟩ := hne h0
    have hpl : 0 < List.length ys := List.length_pos_iff.2 h0
    have hle : List.length ys * 1 ≤ List.length ys * t.bytes := Nat.mul_le_mul_left _ hpos
    have htop : top = 140737488355328 := rfl
    have hrun := run_append_nil (P := P) E.w tid ty eid ie _ hu hie hze a (List.length ys) cap css.flatten (by rw [hfl, hes, hall.length]) hcell hpl (by omega) (by rw [heb]; omega)
    have hcs : (pk t.agg (zcells t)).cells.size = t.size := by
      have := (Rd.zero E.w (fun _ => False) t).cells
      rw [← Array.length_toList, this, zcells_len]
    have hge := grownCap_ge E.w (List.length ys) 0 eid
    have hmx := grownCap_le_maxLen E.w (List.length ys) 0 eid (by unfold maxLen; omega)
    obtain ⟨E', g1, g2, g3, g4, g5⟩ := grown_ok hm hN hall hb (e := eid) (room := Builtin.zeroCells (pk t.agg (zcells t)).cells (grownCap E.w (List.length ys) 0 eid - List.length ys)) hge hmx (by rw [size_zeroCells, hcs])
    exact ⟨_, E', by rw [g1]; exact hrun, g2, g3, g4, g5⟩
theorem appendK_ok {R : Type} {C : Ctx} {uid : Nat} {m : Mem} {nx : Nat} {s x : AV} {K : KO R} {y : R} (h : appendK T tid uid m nx s x K = some y) :
    ∃ m', K (.sl nx) m' (nx + 1) = some y ∧ ∀ E a z ty (U : Nat → Prop), RV E s a → RV E x z → MR C E m U → ¬ U nx →
      ∃ r E', (Builtin.append_ #[tid, uid] ty #[a, z]).run P E.w = .ok r E'.w ∧ Ext E E' ∧ MR C E' m' (fun b => U b ∨ b = nx) ∧ Frm E m E' m' ∧ RV E' (.sl nx) r := by
  unfold appendK at h
  split at h
  · rename_i t hid he
    have := Nat.eq_of_beq_eq_true hid; subst this
    split at h
    · rename_i ys hpos hrow
      obtain ⟨hg, h⟩ := guardK_some h
      refine ⟨_, h, fun E a z ty U ha hz hm hN => ?_⟩
      obtain ⟨cs, rfl, hc⟩ := ha
      have hc : cs = [.slice none 0 0] := hc
      subst hc
      exact append_nil_ok hT hm hN he (Nat.le_of_ble_eq_true hpos) (of_decide_eq_true hg) (rowOf_ok hm hrow hz) ty
    · rename_i b ys hpos hrow
      split at h
      · rename_i e0 xs0 hmb
        split at h
        · rename_i xs hc
          obtain ⟨e1, hx⟩ := cast?_some hc
          cases e1
          have hx : xs0 = xs := hx
          subst hx
          obtain ⟨hg, h⟩ := guardK_some h
          have hg := of_decide_eq_true hg
          refine ⟨_, h, fun E a z ty U ha hz hm hN => ?_⟩
          have hpos := Nat.le_of_ble_eq_true hpos
          have hrow := rowOf_ok hm hrow hz
          obtain ⟨css, hall, hf, hne⟩ := hrow.first (P := P)
          have hfl := flatten_len (n := t.size) hall.lens
          obtain ⟨⟨eid, hu, heid⟩, _⟩ := hT tid _ he
          obtain ⟨_, ⟨ie, hie, hes, heb, hze⟩, _⟩ := hT eid _ heid
          have hb := hm.blocks b
          rw [hmb] at hb
          obtain ⟨hbt, hb⟩ := hb
          obtain ⟨im, hk1, hk2, hk3, hk4⟩ := hm.kill1 b
          have hfrm : Frm E m { E with imm := im } (m.put b .dead) := Frm.kill (fun j hj => owns_put (by rw [hmb]; trivial) hj) hk4
          have hlz : List.length (List.append xs0 ys) = List.length xs0 + List.length ys := List.length_append
          have htop : top = 140737488355328 := rfl
          have hle : (List.length xs0 + List.length ys) * 1 ≤ (List.length xs0 + List.length ys) * t.bytes := Nat.mul_le_mul_left _ hpos
          rcases hb with ⟨hb, rfl⟩ | ⟨k, cap, cells, el, css0, rest, hb, hcell, hsz, hlen, hcap, hall0, hflat⟩
          · have hav : a = .slice none 0 0 := by
              obtain ⟨cs, rfl, hr⟩ := ha
              rcases hr with ⟨t', hb', rfl⟩ | ⟨k, t', cap, len, hb', rfl⟩
              · rfl
              · rw [hb] at hb'; cases hb'
            subst hav
            have hrow2 : RowIs { E with imm := im } t ys z := by
              rcases hrow with h | ⟨a, cap, css, h1, h2, h3, h4⟩
              · exact .inl h
              · exact .inr ⟨a, cap, css, h1, h2, h3.mono fun _ _ hr => Rd.ext hk2 hr, h4⟩
            obtain ⟨r, E', g1, g2, g3, g4, g5⟩ := append_nil_ok hT hk1 hN he hpos (by simpa using hg) hrow2 ty
            exact ⟨r, E', g1, hk2.trans g2, g3, hfrm.trans g4, g5⟩
          · have hav : a = .slice (some ⟨k, 0, none⟩) (List.length xs0) cap := by
              obtain ⟨cs, rfl, hr⟩ := ha
              rcases hr with ⟨t', hb', rfl⟩ | ⟨k, t', cap, len, hb', rfl⟩
              · rw [hb] at hb'; cases hb'
              · rw [hb] at hb'; cases hb'; rfl
            subst hav
            have hfl0 := flatten_len (n := t.size) hall0.lens
            by_cases hroom : List.length xs0 + List.length ys ≤ cap
            · have hle2 : (List.length xs0 + List.length ys) * t.size ≤ cap * t.size := Nat.mul_le_mul_right _ hroom
              have hlc : css.flatten.length = List.length ys * t.size := by rw [hfl, hall.length]
              have hl0 : css0.flatten.length = List.length xs0 * t.size := by rw [hfl0, hall0.length]
              have hrun := run_append_room' (P := P) E.w (ty := ty) hu hie hcell (sLen := List.length xs0) (sCap := cap) (z := z) (m := List.length ys) (news := css.flatten) (by rw [hlc, hes]) (hrow.len E.w) (by rw [hes]; exact hf) hall.ones hroom
                (by rw [hes, hlc, hsz, ← Nat.add_mul]; exact hle2)
              rw [hes] at hrun
              obtain ⟨E', g1, g2, g3, g4, g5⟩ := reslab_ok hm (nx := nx) (len' := List.length xs0 + List.length ys) hN (by rw [hmb]; trivial) hb (w' := E.w.setRow k (cells.toList.take (List.length xs0 * t.size) ++ css.flatten ++ cells.toList.drop (List.length xs0 * t.size + css.flatten.length)).toArray)
                rfl rfl rfl (by simp) (fun j hj => setRow_other E.w k j _ hj) (.slab t (List.append xs0 ys)) (fun hx => by
                  refine ⟨by rw [hlz]; exact hg, .inr ⟨k, cap, _, el, css0 ++ css, cells.toList.drop (List.length xs0 * t.size + css.flatten.length), by simp [Env.name], setRow_heap E.w _ cells _ el _ hcell, ?_, by rw [hlz]; exact hroom, hcap,
                    (hall0.append hall).mono fun _ _ hr => Rd.ext hx hr, ?_⟩⟩
                  · simp only [List.size_toArray, List.length_append, List.length_take, List.length_drop, Array.length_toList, hsz, hlc]
                    rw [Nat.add_mul] at hle2
                    omega
                  · rw [hflat, ← hl0, List.take_left]
                    simp)
              refine ⟨_, E', by rw [g1]; exact hrun, g3, g4, g5, _, rfl, .inr ⟨k, t, cap, _, g2, rfl⟩⟩
            · have hys : ys ≠ [] := by rintro rfl; simp at hroom; omega
              obtain ⟨a, cap2, rfl, hcells⟩ := hne hys
              have holds : ∀ j v, css0.flatten[j]? = some v → E.w.cell? ((⟨k, 0, none⟩ : Addr).add j) = some v := by
                intro j v hv
                rw [addr_add]
                have : cells[j]? = some v := by
                  rw [← Array.getElem?_toList, hflat, List.getElem?_append_left (List.getElem?_eq_some_iff.1 hv).1]
                  exact hv
                simp [World.cell?, hcell, this]
              have hrun := run_append_grow (P := P) E.w tid ty eid ie _ hu hie hze ⟨k, 0, none⟩ (List.length xs0) cap css0.flatten (by rw [hfl0, hes, hall0.length]) holds a (List.length ys) cap2 css.flatten (by rw [hfl, hes, hall.length]) hcells
                (by omega) (by omega) (by rw [heb]; exact growslice_fits (by omega) hg)
              have hcs : (pk t.agg (zcells t)).cells.size = t.size := by
                have := (Rd.zero E.w (fun _ => False) t).cells
                rw [← Array.length_toList, this, zcells_len]
              have hge := grownCap_ge E.w (List.length xs0 + List.length ys) cap eid
              have hmx := grownCap_le_maxLen E.w (List.length xs0 + List.length ys) cap eid (by unfold maxLen; omega)
              obtain ⟨E', g1, g2, g3, g4, g5⟩ := grown_ok hk1 hN (zs := List.append xs0 ys) (css := css0 ++ css) ((hall0.append hall).mono fun _ _ hr => Rd.ext hk2 hr) (by rw [hlz]; exact hg) (e := eid)
                (room := Builtin.zeroCells (pk t.agg (zcells t)).cells (grownCap E.w (List.length xs0 + List.length ys) cap eid - (List.length xs0 + List.length ys))) (by rw [hlz]; exact hge) hmx (by rw [size_zeroCells, hcs, hlz])
              refine ⟨_, E', ?_, hk2.trans g2, g3, hfrm.trans g4, g5⟩
              rw [g1, hrun, hlz]
              simp
        · cases h
      · cases h
    · cases h
  · cases h
end
end Go.Co
