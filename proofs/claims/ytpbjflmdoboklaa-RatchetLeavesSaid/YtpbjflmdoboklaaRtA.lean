/-
  The program's types; what a contract is made from.
  Own text, for the claims about coterie.
-/
import Derived.Test.YtpbjflmdoboklaaCoLoop
import Derived.Test.YtpbjflmdoboklaaCoUn
import Derived.Test.YtpbjflmdoboklaaProg
import Derived.KernelRfl
namespace Go.Proofs.Ytpbjflmdoboklaa
open Go Go.Co Go.Proofs

def T : Tab := [(3, .ty .i), (4, .ty .bool), (5, .ty (.int .u8)), (9, .ty .str), (23, .ty (.st .key)), (25, .ty (.arr 21 (.st .key))), (26, .ty (.int .u32)), (28, .ty .i), (33, .ty (.int .u64)), (36, .ty (.st .entry)), (41, .ty (.arr 3 (.st .key))), (45, .ty (.arr 3 .i)), (48, .mp .i .i)]
theorem T_ok : TabOK Try.prog T := TabOK.of (by kernel_rfl)
def body (f : Func) : Code := match f.body with | some c => c | none => .skip
def noInl : (R : Type) → Nat → List AV → Mem → Nat → KO R → Option R := fun _ _ _ _ _ _ => none
noncomputable def E (con : Cons') (L : List (Nat × LD)) : EE := { T := T, con := con, lp := lpH L, inl := noInl }
noncomputable def run (con : Cons') (L : List (Nat × LD)) (f : Func) (args res : List Ty) (x : denL args) : Option (denL res) := evF (E con L) f (body f) args x (retK T f.results.toList res)
def ConsOK (con : Cons') : Prop := ∀ f c, conOf con f = some c → ConOK Try.prog f c
theorem ConsOK.nil : ConsOK [] := fun f c h => by cases h
theorem ConsOK.cons {con : Cons'} {i : Nat} {c : Con} (h : ConOK Try.prog i c) (hc : ConsOK con) : ConsOK ((i, c) :: con) := by
  intro f d hf
  unfold conOf at hf
  split at hf
  · rename_i hb
    have := Nat.eq_of_beq_eq_true hb; subst this
    cases hf; exact h
  · exact hc f d hf
theorem E_ok {con : Cons'} (hc : ConsOK con) (L : List (Nat × LD)) (C : Ctx) : EOK Try.prog C (E con L) :=
  ⟨T_ok, hc, fun R f vs m nx K y h => by cases h⟩
def shapeOK (f : Func) (c : Con) : Bool := f.body.isSome && !(f.name == "runtime.NumGoroutine") && c.args.all plainTy && c.res.all plainTy && Nat.ble c.args.length f.ntmps
theorem con_okE {E : EE} (hE : ∀ C, EOK Try.prog C E) (hlp : ∀ C n, LpOK Try.prog C n E) {i : Nat} {f : Func} (hi : Try.prog.funcs[i]? = some f) {c : Con} (hs : shapeOK f c = true) (h : ∀ x y, FineL c.args x → c.fn x = some y → evF E f (body f) c.args x (retK E.T f.results.toList c.res) = some y) : ConOK Try.prog i c := by
  simp only [shapeOK, Bool.and_eq_true, Bool.not_eq_true'] at hs
  obtain ⟨⟨⟨⟨h1, h2⟩, h3⟩, h4⟩, h5⟩ := hs
  obtain ⟨b, hb⟩ := Option.isSome_iff_exists.1 h1
  refine con_of hi hb h2 (E := E) (fun C _ => hE C) (fun C _ => hlp C _) rfl h3 h4 h5 fun x y hf hxy => ?_
  have := h x y hf hxy
  unfold body at this
  rw [hb] at this
  exact this
theorem con_ok {con : Cons'} (hc : ConsOK con) (L : List (Nat × LD)) {i : Nat} {f : Func} (hi : Try.prog.funcs[i]? = some f) {c : Con} (hs : shapeOK f c = true) (h : ∀ x y, FineL c.args x → c.fn x = some y → run con L f c.args c.res x = some y) : ConOK Try.prog i c :=
  con_okE (E := E con L) (fun C => E_ok hc L C) (fun _ _ => lpH_ok rfl) hi hs h
/-- Loops gone through round by round, calls gone into. -/
def EU (con : Cons') (k : Nat) : Nat → Bodies → EE
  | 0, _ => { T := T, con := con, lp := lpU k, inl := noInl }
  | n + 1, B => { T := T, con := con, lp := lpU k, inl := inlH (EU con k n B) B }
theorem EU_ok {con : Cons'} (hc : ConsOK con) (k : Nat) {B : Bodies} (hB : BodiesOK Try.prog B) (C : Ctx) : ∀ n, EOK Try.prog C (EU con k n B)
  | 0 => ⟨T_ok, hc, fun R f vs m nx K y h => by cases h⟩
  | n + 1 => ⟨T_ok, hc, inlH_ok hB (EU_ok hc k hB C n) (fun m => by cases n <;> exact lpU_ok rfl) rfl⟩
def bodyLine (i : Nat) (f : Func) : Nat × Nat × List ResultVar × Code := (i, f.ntmps, f.results.toList, body f)
theorem BodiesOK.nil : BodiesOK Try.prog [] := fun f n rs b h => by cases h
theorem BodiesOK.cons {B : Bodies} {i : Nat} {f : Func} (hi : Try.prog.funcs[i]? = some f) (hs : (f.body.isSome && !(f.name == "runtime.NumGoroutine")) = true) (hB : BodiesOK Try.prog B) : BodiesOK Try.prog (bodyLine i f :: B) := by
  intro j n rs b h
  unfold bodyLine bodyOf at h
  split at h
  · rename_i hb
    have := Nat.eq_of_beq_eq_true hb; subst this
    cases h
    simp only [Bool.and_eq_true, Bool.not_eq_true'] at hs
    obtain ⟨c, hc⟩ := Option.isSome_iff_exists.1 hs.1
    exact ⟨f, hi, by unfold body; rw [hc], rfl, rfl, hs.2⟩
  · exact hB j n rs b h
end Go.Proofs.Ytpbjflmdoboklaa
