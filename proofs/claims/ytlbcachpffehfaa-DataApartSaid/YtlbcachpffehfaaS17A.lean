/-
  The seat's types; what a contract is made from.
  Own text, for the claims about coterie.
-/
import Derived.Test.YtlbcachpffehfaaCoLoop
import Derived.Test.YtlbcachpffehfaaProg
import Derived.KernelRfl
namespace Go.Proofs.Ytlbcachpffehfaa
open Go Go.Co Go.Proofs

def T : Tab := [(1, .one), (2, .ty (.int .i64)), (3, .ty (.int .i64)), (4, .ty .bool), (5, .ty (.int .u8)), (6, .ty (.int .u8)), (9, .ty .str), (10, .ty .str), (11, .ty .str), (12, .ty (.int .u64)), (15, .one), (16, .one), (17, .one), (21, .ty (.int .i32)), (23, .ty (.st .key)), (24, .ty (.arr 3 (.st .key))), (25, .ty (.arr 3 (.st .key))), (27, .ty (.st .member)), (28, .one), (30, .ty (.st .sealed)), (31, .ty (.int .i64)), (33, .one), (34, .one), (36, .one), (37, .one), (38, .ty (.arr 21 (.st .key))), (39, .ty (.arr 21 (.st .key))), (41, .ty (.st .entry)), (42, .ty (.arr 64 (.st .entry))), (43, .ty (.arr 64 (.st .entry))), (45, .ty (.st .tree)), (47, .one), (48, .one), (49, .ty (.list (.st .batch))), (50, .ty (.list (.st .tree))), (51, .ty (.list (.int .i64))), (53, .ty (.st .batch)), (54, .ty (.list (.st .seat))), (55, .ty (.list (.st .item))), (57, .ty (.st .rekey)), (59, .one), (60, .one), (61, .one), (63, .one), (64, .one), (66, .ty (.st .request)), (68, .ty (.st .box)), (69, .ty (.arr 3 (.st .box))), (71, .ty (.st .reply)), (73, .ty (.st .message)), (74, .one), (75, .one), (76, .one), (77, .one), (78, .one), (80, .one), (82, .one), (83, .one), (84, .one), (85, .one), (86, .ty (.arr 4 .bool)), (87, .one), (88, .one), (89, .one), (91, .ty (.st .seat)), (92, .one), (93, .one), (95, .ty (.st .item)), (96, .one), (97, .one), (98, .ty (.list (.st .box))), (99, .one), (100, .one), (101, .one), (102, .one), (103, .ty (.arr 3 (.int .i64))), (105, .one), (106, .one), (108, .one), (109, .ty (.int .u32)), (110, .one), (112, .one), (113, .one), (114, .one), (115, .one), (116, .one), (117, .one), (119, .ty (.st .card)), (120, .one), (121, .ty (.list (.st .key))), (122, .one), (123, .one), (124, .ty (.arr 256 .bool)), (125, .one), (126, .one), (127, .ty (.int .u64)), (128, .one), (129, .one), (130, .one), (131, .one), (132, .one), (133, .one), (134, .one), (135, .ty (.arr 64 .bool)), (136, .one), (138, .one), (139, .ty (.int .u64)), (140, .one), (141, .one), (147, .one), (148, .ty (.int .u8)), (149, .ty (.int .u8)), (150, .one), (151, .one), (152, .ty (.int .i32)), (153, .ty (.int .i32))]
theorem T_ok : TabOK Try.prog T := TabOK.of (by kernel_rfl)
def body (f : Func) : Code := match f.body with | some c => c | none => .skip
def noInl : (R : Type) → Nat → List AV → Mem → Nat → KO R → Option R := fun _ _ _ _ _ _ => none
def lsOf : List (Nat × List (Nat × LD)) → Nat → List (Nat × LD)
  | [], _ => []
  | (i, l) :: r, n => match Nat.beq n i with | true => l | false => lsOf r n
/-- Contracts, loops' lines, calls gone into. -/
noncomputable def EI (con : Cons') (Ls : List (Nat × List (Nat × LD))) (B : Bodies) : Nat → List (Nat × LD) → EE
  | 0, L => { T := T, con := con, lp := lpM L, inl := noInl }
  | n + 1, L => { T := T, con := con, lp := lpM L, inl := fun R f vs m nx K => inlH (EI con Ls B n (lsOf Ls f)) B R f vs m nx K }
noncomputable def run (con : Cons') (L : List (Nat × LD)) (Ls : List (Nat × List (Nat × LD))) (B : Bodies) (f : Func) (args res : List Ty) (x : denL args) : Option (denL res) := evF (EI con Ls B 4 L) f (body f) args x (retK T f.results.toList res)
def ConsOK (con : Cons') : Prop := ∀ f c, conOf con f = some c → ConOK Try.prog f c
theorem ConsOK.nil : ConsOK [] := fun f c h => by cases h
theorem ConsOK.cons {con : Cons'} {i : Nat} {c : Con} (h : ConOK Try.prog i c) (hc : ConsOK con) : ConsOK ((i, c) :: con) := by
  intro f d hf
  unfold conOf at hf
  split at hf
  · rename_i hb
    have := Nat.eq_of_beq_eq_true hb; subst this
    cases hf; exact h
  · exact hc f d hf
def bodyLine (i : Nat) (f : Func) : Nat × Nat × List ResultVar × Code := (i, f.ntmps, f.results.toList, body f)
theorem BodiesOK.nil : BodiesOK Try.prog [] := fun f n rs b h => by cases h
theorem BodiesOK.cons {B : Bodies} {i : Nat} {f : Func} (hi : Try.prog.funcs[i]? = some f) (hs : (f.body.isSome && !(f.name == "runtime.NumGoroutine")) = true) (hB : BodiesOK Try.prog B) : BodiesOK Try.prog (bodyLine i f :: B) := by
  intro j n rs b h
  unfold bodyLine bodyOf at h
  split at h
  · rename_i hb
    have := Nat.eq_of_beq_eq_true hb; subst this
    cases h
    simp only [Bool.and_eq_true, Bool.not_eq_true'] at hs
    obtain ⟨c, hc⟩ := Option.isSome_iff_exists.1 hs.1
    exact ⟨f, hi, by unfold body; rw [hc], rfl, rfl, hs.2⟩
  · exact hB j n rs b h
theorem EI_lp {con : Cons'} (Ls : List (Nat × List (Nat × LD))) (B : Bodies) (k : Nat) (L : List (Nat × LD)) : (EI con Ls B k L).lp = lpM L := by cases k <;> rfl
theorem EI_ok {con : Cons'} (hc : ConsOK con) (Ls : List (Nat × List (Nat × LD))) {B : Bodies} (hB : BodiesOK Try.prog B) (C : Ctx) : ∀ (k : Nat) (L : List (Nat × LD)), EOK Try.prog C (EI con Ls B k L)
  | 0, L => ⟨T_ok, hc, fun R f vs m nx K y h => by cases h⟩
  | k + 1, L => ⟨T_ok, hc, inlG_ok (Es := fun f => EI con Ls B k (lsOf Ls f)) hB (fun f => EI_ok hc Ls hB C k (lsOf Ls f)) (fun f n => lpM_ok (EI_lp Ls B k (lsOf Ls f))) rfl⟩
theorem EI_T {con : Cons'} (Ls : List (Nat × List (Nat × LD))) (B : Bodies) (k : Nat) (L : List (Nat × LD)) : (EI con Ls B k L).T = T := by cases k <;> rfl
def shapeOK (f : Func) (c : Con) : Bool := f.body.isSome && !(f.name == "runtime.NumGoroutine") && c.args.all plainTy && c.res.all plainTy && Nat.ble c.args.length f.ntmps
theorem con_ok {con : Cons'} (hc : ConsOK con) (L : List (Nat × LD)) (Ls : List (Nat × List (Nat × LD))) {B : Bodies} (hB : BodiesOK Try.prog B) {i : Nat} {f : Func} (hi : Try.prog.funcs[i]? = some f) {c : Con} (hs : shapeOK f c = true) (h : ∀ x y, FineL c.args x → c.fn x = some y → run con L Ls B f c.args c.res x = some y) : ConOK Try.prog i c := by
  simp only [shapeOK, Bool.and_eq_true, Bool.not_eq_true'] at hs
  obtain ⟨⟨⟨⟨h1, h2⟩, h3⟩, h4⟩, h5⟩ := hs
  obtain ⟨b, hb⟩ := Option.isSome_iff_exists.1 h1
  refine con_of hi hb h2 (E := EI con Ls B 4 L) (fun C _ => EI_ok hc Ls hB C 4 L) (fun C _ => lpM_ok (EI_lp Ls B 4 L)) rfl h3 h4 h5 fun x y hf hxy => ?_
  have := h x y hf hxy
  unfold run body at this
  rw [hb] at this
  exact this
end Go.Proofs.Ytlbcachpffehfaa
