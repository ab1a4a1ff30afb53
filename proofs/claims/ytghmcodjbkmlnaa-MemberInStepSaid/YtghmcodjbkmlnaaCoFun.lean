/-
  Functions: a contract from an evaluation; calls that are gone into.
  Own text, for the claims about coterie.
-/
import Derived.Test.YtghmcodjbkmlnaaCoCode
import Derived.Test.YtghmcodjbkmlnaaCoFine
namespace Go.Co
open Go.RowKit

def resOf (tmps : Array Value) : ResultVar → Sem Value
  | .tmp t => pure (tmps.getD t undef)
  | .cell a t => do loadVar t (← asAddr (tmps.getD a undef))
theorem results_run {P : Program} {fn : Func} {tmps : Array Value} {w : World} {zs : List Value} (h : (fn.results.toList.mapM (resOf tmps)).run P w = .ok zs w) :
    (results fn tmps).run P w = .ok (if h : zs.toArray.size = 1 then zs.toArray[0] else .tuple zs.toArray) w := by
  have he : (fun | .tmp t => pure (tmps.getD t undef) | .cell a t => do loadVar t (← asAddr (tmps.getD a undef)) : ResultVar → Sem Value) = resOf tmps := by
    funext r; cases r <;> rfl
  have h2 : (fn.results.mapM (resOf tmps)).run P w = .ok zs.toArray w := by
    rw [Array.mapM_eq_mapM_toList]
    simp [h]
  have h3 : results fn tmps = (do let vs ← fn.results.mapM (resOf tmps); pure (if h : vs.size = 1 then vs[0] else .tuple vs) : Sem Value) := by
    unfold results
    congr 2
  rw [h3]
  simp only [Sem.run_bind, h2]
  rfl
section
variable {P : Program} {C : Ctx} {T : Tab} (hT : TabOK P T) {n : Nat}
include hT
theorem resList_ok {U : Nat → Prop} {s : AS} {e : Env} {a : Act} (hf : Fit C n U e s a) : ∀ (rs : List ResultVar) (vs : List AV), resList T s rs = some vs → ∃ zs, (rs.mapM (resOf a.tmps)).run P e.w = .ok zs e.w ∧ All2 (RV e) vs zs := by
  intro rs
  induction rs with
  | nil => intro vs h; simp [resList] at h; subst h; exact ⟨[], by simp, trivial⟩
  | cons r rs ih =>
    intro vs h
    simp only [resList] at h
    split at h
    · rename_i v vs' hv hvs
      cases h
      obtain ⟨zs, h1, h2⟩ := ih vs' hvs
      have : ∃ z, (resOf a.tmps r).run P e.w = .ok z e.w ∧ RV e v z := by
        cases r with
        | tmp t => simp [resOne] at hv; subst hv; exact ⟨_, by simp [resOf], hf.slots t⟩
        | cell t tid =>
          simp only [resOne] at hv
          obtain ⟨v', hk, hr⟩ := loadK_ok (P := P) (C := C) (U := U) hT hv
          cases hk
          obtain ⟨z, hz, hvz⟩ := hr e _ (hf.slots t) hf.mem
          refine ⟨z, ?_, hvz⟩
          have ha : ∃ ad, a.tmps.getD t undef = .pointer (some ad) := by
            have hs := hf.slots t
            cases hst : s.slots t with
            | ptr b p => rw [hst] at hs; obtain ⟨_, _, _, _, _, _, _, h⟩ := hs.ptr; exact ⟨_, h⟩
            | eptr u x => rw [hst] at hs; obtain ⟨_, _, h, _⟩ := hs.eptr; exact ⟨_, h⟩
            | _ => rw [hst] at hv; unfold loadK at hv; split at hv <;> simp_all
          obtain ⟨ad, ha⟩ := ha
          rw [ha] at hz
          have : (loadVar tid ad).run P e.w = .ok z e.w := by simpa [Instr.loadAt, Instr.sureAddr] using hz
          simp [resOf, ha, asAddr, this]
      obtain ⟨z, hz, hv⟩ := this
      exact ⟨z :: zs, by simp [List.mapM_cons, hz, h1], hv, h2⟩
    · cases h
end

/-- One value, or more as a tuple. -/
def resVal (zs : List Value) : Value := if h : zs.toArray.size = 1 then zs.toArray[0] else .tuple zs.toArray
theorem RVs_of {E : Env} : ∀ {vs : List AV} {zs : List Value}, All2 (RV E) vs zs → vs.all solid = true → RVs E (AV.ofList vs) zs
  | [], [], _, _ => rfl
  | [], _ :: _, h, _ => h.elim
  | _ :: _, [], h, _ => h.elim
  | v :: vs, z :: zs, h, hs => by
    simp at hs
    obtain ⟨cs, h1, h2⟩ := h.1.cells (by rintro rfl; simp [solid] at hs) (by rintro l rfl; simp [solid] at hs)
    exact ⟨cs, zs, by rw [h1], h2, RVs_of h.2 (by simpa using hs.2)⟩
theorem resPack_ok {E : Env} {vs : List AV} {zs : List Value} {v : AV} (h : All2 (RV E) vs zs) (hp : resPack vs = some v) : RV E v (resVal zs) := by
  unfold resPack at hp
  split at hp
  · rename_i v'
    cases hp
    match zs, h with
    | [z], ⟨h1, _⟩ => exact h1
  · rename_i hne
    split at hp
    · rename_i hs
      cases hp
      have hz : zs.toArray.size ≠ 1 := by
        intro he
        have hl := h.length
        simp at he
        rw [he] at hl
        match vs, hl with
        | [a], _ => exact hne a rfl
      refine ⟨zs, ?_, RVs_of h hs⟩
      unfold resVal; rw [dif_neg hz]
    · cases hp

/-- A frame at its beginning. -/
theorem fit_init {C : Ctx} {U : Nat → Prop} {e : Env} {vs : List AV} {zs : List Value} {m : Mem} {nx n : Nat} (hv : All2 (RV e) vs zs) (hm : MR C e m U) (hn : vs.length ≤ n) :
    Fit C n U e (initS vs m nx) { tmps := zs.toArray ++ Array.replicate (n - zs.toArray.size) undef, defers := [] } := by
  have hl := hv.length
  refine ⟨rfl, by simp; omega, fun i => ?_, hm⟩
  have slot : ∀ (vs : List AV) (i : Nat), slotL vs i = vs.getD i .junk := by
    intro vs
    induction vs with
    | nil => intro i; cases i <;> rfl
    | cons v vs ih => intro i; cases i with
      | zero => rfl
      | succ i => simp [slotL, ih, List.getD]
  show RV e (slotL vs i) _
  rw [slot]
  by_cases hi : i < vs.length
  · obtain ⟨z, hz, hr⟩ := hv.get i _ (List.getElem?_eq_getElem hi)
    have h1 : vs.getD i .junk = vs[i] := by simp [List.getD, List.getElem?_eq_getElem hi]
    rw [h1, Array.getD_eq_getD_getElem?, Array.getElem?_append_left (by simp; omega)]
    simp [hz, hr]
  · have h1 : vs.getD i .junk = .junk := by simp [List.getD, List.getElem?_eq_none (Nat.le_of_not_lt hi)]
    rw [h1]; trivial

theorem argsRd_fine {w : World} {im : Nat → Prop} : ∀ (l : List Ty) (x : denL l) (xs : List Value), argsRd w im l x xs → FineL l x
  | [], _, [], _ => trivial
  | [], _, _ :: _, h => h.elim
  | _ :: _, _, [], h => h.elim
  | t :: r, x, v :: vs, h => by
    obtain ⟨⟨cs, _, h2⟩, h3⟩ := h
    exact ⟨Rd.fine _ _ _ h2, argsRd_fine r x.2 vs h3⟩
theorem argsRd_all {w : World} {im : Nat → Prop} {ρ : Nat → Option BT} : ∀ (l : List Ty) (x : denL l) (xs : List Value), argsRd w im l x xs → All2 (RV ⟨ρ, w, im⟩) (argVs l x) xs
  | [], _, [], _ => trivial
  | [], _, _ :: _, h => h.elim
  | _ :: _, _, [], h => h.elim
  | t :: r, x, v :: vs, h => by
    obtain ⟨⟨cs, h1, h2⟩, h3⟩ := h
    exact ⟨⟨cs, h1, h2⟩, argsRd_all r x.2 vs h3⟩

section
variable {P : Program} {f : Nat} {fn : Func} {body : Code} (hf : P.funcs[f]? = some fn) (hb : fn.body = some body) (hname : (fn.name == "runtime.NumGoroutine") = false)
include hf hb hname
theorem FnOK.of : FnOK P f := ⟨fn, hf, hname, by rw [hb]; rfl⟩
omit hf hb hname in
/-- Answers of plain data, at the end. -/
theorem resAV_of {im : Nat → Prop} {w : World} : ∀ (l : List Ty) (y : denL l) (zs : List Value), argsRd w im l y zs → RV ⟨fun _ => none, w, im⟩ (resAV l y) (resVal zs) := by
  have hvs : ∀ (l : List Ty) (y : denL l) (zs : List Value), argsRd w im l y zs → RVs ⟨fun _ => none, w, im⟩ (resVs l y) zs := by
    intro l
    induction l with
    | nil =>
      intro y zs h
      cases zs with
      | nil => rfl
      | cons z zs => exact h.elim
    | cons t r ih =>
      intro y zs h
      cases zs with
      | nil => exact h.elim
      | cons z zs =>
        obtain ⟨⟨cs, h1, h2⟩, h3⟩ := h
        exact ⟨cs, zs, by rw [h1]; rfl, h2, ih y.2 zs h3⟩
  intro l y zs h
  match l, y, zs, h with
  | [t], y, [z], ⟨⟨cs, h1, h2⟩, _⟩ => exact ⟨cs, h1, h2⟩
  | [], y, [], _ => exact ⟨[], rfl, rfl⟩
  | t :: u :: r, y, zs, h =>
    refine ⟨zs, ?_, hvs (t :: u :: r) y zs h⟩
    have : zs.toArray.size ≠ 1 := by
      match zs, h with
      | [], h => exact h.elim
      | [z], h => exact h.2.elim
      | _ :: _ :: _, _ => simp
    unfold resVal; rw [dif_neg this]
theorem con_of {E : EE} {c : Con} (hE : ∀ C, C.P = P → EOK P C E) (hlp : ∀ C, C.P = P → LpOK P C fn.ntmps E) (hdraw : P.follows .mixedOrders = true) (hargs : c.args.all plainTy = true) (hres : c.res.all plainTy = true) (hn : Nat.ble c.args.length fn.ntmps = true)
    (h : ∀ x y, FineL c.args x → c.fn x = some y → evF E fn body c.args x (retK E.T fn.results.toList c.res) = some y) : ConOK P f c := by
  refine ⟨FnOK.of hf hb hname, fun t ht => List.all_eq_true.1 hargs t ht, fun w I x xs y hI hx hc => ?_⟩
  let C : Ctx := ⟨P, w, I⟩
  let e : Env := ⟨fun _ => none, w, I⟩
  have hm : MR C e (fun _ => .none) (fun _ => False) := by
    refine ⟨Blw.refl _ _, fun _ => trivial, ?_, ?_, hI, fun k hk _ => hk, ?_⟩
    · rintro k ⟨b, bt, hl, _⟩; exact hl.elim
    · intro b b' bt bt' k hl; exact hl.elim
    · intro b bt hb; cases hb
  have hlen : ∀ (l : List Ty) (x : denL l), (argVs l x).length = l.length := by
    intro l
    induction l with
    | nil => intro x; rfl
    | cons t r ih => intro x; simp [argVs, ih]
  have hfit := fit_init (n := fn.ntmps) (nx := 0) (argsRd_all (ρ := fun _ => none) c.args x xs hx) hm (by rw [hlen]; exact Nat.le_of_ble_eq_true hn)
  have hev := h x y (argsRd_fine c.args x xs hx) hc
  unfold evF at hev
  obtain ⟨r, s', ht, hk⟩ := evC_ok (hE C rfl) hdraw (hlp C rfl) body _ _ _ _ hev
  refine calls_of_wp hf hb (ht.2 _ e _ _ (fun _ _ _ h => h) hfit fun e' a' hf' hx' hfr' => ?_)
  have hpost : r ≠ .normal ∧ r ≠ .ret ∨ (a'.defers = [] ∧ ∃ v, (results fn a'.tmps).run P e'.w = .ok v e'.w ∧ ∃ z, (Ending.returned v) = .returned z ∧ Blw w.heap.size w e'.w ∧ RV ⟨fun _ => none, e'.w, fun k => k < e'.w.heap.size ∧ (k < w.heap.size → I k)⟩ (resAV c.res y) z) := by
    unfold retK at hk
    split at hk
    · exact .inl ⟨by simp, by simp⟩
    · right
      split at hk
      · rename_i vs hvs
        obtain ⟨zs, hz, hall⟩ := resList_ok (hE C rfl).tab hf' _ _ hvs
        refine ⟨hf'.defers, _, results_run hz, _, rfl, hf'.mem.below, ?_⟩
        have hrd := toPureL_ok hf'.mem (im := fun k => k < e'.w.heap.size ∧ (k < w.heap.size → I k)) (fun k hk => ⟨hf'.mem.immLt k hk, fun hlt => hf'.mem.immI k hk hlt⟩) c.res vs zs y (fun t ht => List.all_eq_true.1 hres t ht) hk hall
          (fun v _ b bt k _ hl hb hkk => by
            have ho := hf'.mem.own k ⟨b, bt, hl, hb, hkk⟩
            exact ⟨ho.1, fun hlt => absurd (show w.heap.size ≤ k from ho.2.1) (by omega)⟩)
        exact resAV_of c.res y zs hrd
      · cases hk
  cases r with
  | normal => rcases hpost with h | h; exact absurd rfl h.1; exact h
  | ret => rcases hpost with h | h; exact absurd rfl h.2; exact h
  | exit id => simp [retK] at hk
end

/-- Calls that are gone into. -/
def BodiesOK (P : Program) (B : Bodies) : Prop := ∀ f n rs body, bodyOf B f = some (n, rs, body) → ∃ fn, P.funcs[f]? = some fn ∧ fn.body = some body ∧ fn.ntmps = n ∧ fn.results.toList = rs ∧ (fn.name == "runtime.NumGoroutine") = false
theorem inlH_ok {P : Program} {C : Ctx} {E : EE} {B : Bodies} (hB : BodiesOK P B) (hE : EOK P C E) (hlp : ∀ n, LpOK P C n E) (hdraw : P.follows .mixedOrders = true) : InlOK P C (inlH E B) := by
  intro R f vs m nx K y h
  unfold inlH at h
  split at h
  · cases h
  · rename_i n rs body hbo
    obtain ⟨fn, hf, hb, hn, hrs, hname⟩ := hB f n rs body hbo
    subst hn; subst hrs
    refine ⟨FnOK.of hf hb hname, ?_⟩
    split at h
    · cases h
    · rename_i hle
      obtain ⟨r, s', ht, hk⟩ := evC_ok hE hdraw (hlp fn.ntmps) body _ _ _ _ h
      have : ∃ l v, (r = .normal ∨ r = .ret) ∧ resList E.T s' fn.results.toList = some l ∧ resPack l = some v ∧ K v s'.mem s'.nx = some y := by
        cases r with
        | exit id => simp at hk
        | normal =>
          simp only at hk
          split at hk
          · rename_i l hl
            split at hk
            · rename_i v hv; exact ⟨l, v, .inl rfl, hl, hv, hk⟩
            · cases hk
          · cases hk
        | ret =>
          simp only at hk
          split at hk
          · rename_i l hl
            split at hk
            · rename_i v hv; exact ⟨l, v, .inr rfl, hl, hv, hk⟩
            · cases hk
          · cases hk
      obtain ⟨l, v, hr, hl, hv, hk⟩ := this
      refine ⟨v, s'.mem, s'.nx, ht.1, hk, fun e xs U hxs hm hu => ?_⟩
      have hl2 := hxs.length
      have hfit := fit_init (n := fn.ntmps) (nx := nx) hxs hm (Nat.le_of_ble_eq_true hle)
      refine calls_of_wp hf hb (ht.2 U e _ _ hu hfit fun e' a' hf' hx' hfr' => ?_)
      obtain ⟨zs, hz, hall⟩ := resList_ok hE.tab hf' _ _ hl
      have hpost : a'.defers = [] ∧ ∃ v', (results fn a'.tmps).run P e'.w = .ok v' e'.w ∧ ∃ z, (Ending.returned v') = .returned z ∧ Res C e m U nx s'.nx v s'.mem z e'.w :=
        ⟨hf'.defers, _, results_run hz, _, rfl, e', rfl, hx', hf'.mem, hfr', resPack_ok hall hv⟩
      rcases hr with rfl | rfl
      · exact hpost
      · exact hpost
end Go.Co
