/-
  The seat's types; what a contract is made from.
  Own text, for the claims about coterie.
-/
import Derived.Test.YtghmcodjbkmlnaaCoLoop
import Derived.Test.YtghmcodjbkmlnaaProg
import Derived.KernelRfl
namespace Go.Proofs.Ytghmcodjbkmlnaa
open Go Go.Co Go.Proofs

def T : Tab := [(1, .one), (2, .ty (.int .i64)), (3, .ty (.int .i64)), (4, .ty .bool), (5, .ty (.int .u8)), (6, .ty (.int .u8)), (9, .ty .str), (10, .ty .str), (11, .ty .str), (12, .ty (.int .u64)), (15, .one), (16, .one), (17, .one), (21, .ty (.int .i32)), (23, .ty (.st .key)), (24, .ty (.arr 21 (.st .key))), (25, .ty (.arr 21 (.st .key))), (27, .ty (.st .entry)), (28, .ty (.arr 64 (.st .entry))), (29, .ty (.arr 64 (.st .entry))), (31, .ty (.st .tree)), (32, .ty (.list (.st .batch))), (33, .ty (.list (.int .i64))), (34, .one), (35, .ty (.list (.st .tree))), (36, .ty (.list (.st .rekey))), (38, .ty (.st .batch)), (39, .ty (.list (.st .seat))), (40, .ty (.list (.st .item))), (42, .ty (.st .rekey)), (43, .ty (.int .i64)), (45, .one), (46, .ty (.arr 3 (.st .key))), (47, .ty (.arr 3 (.st .key))), (49, .ty (.st .member)), (51, .one), (52, .ty (.int .u64)), (53, .one), (54, .one), (55, .one), (56, .one), (57, .one), (59, .ty (.st .seat)), (61, .ty (.st .card)), (63, .one), (64, .one), (65, .one), (66, .one), (68, .one), (69, .one), (70, .one), (71, .one), (73, .one), (74, .one), (75, .one), (76, .one), (78, .one), (79, .one), (81, .ty (.st .request)), (83, .ty (.st .box)), (84, .ty (.arr 3 (.st .box))), (86, .ty (.st .reply)), (88, .ty (.st .sealed)), (90, .ty (.st .message)), (91, .one), (92, .one), (93, .one), (94, .one), (95, .ty (.list (.st .key))), (96, .one), (98, .one), (99, .ty (.int .u32)), (100, .one), (102, .one), (103, .one), (104, .one), (105, .one), (107, .ty (.st .item)), (108, .one), (109, .ty (.arr 3 (.int .i64))), (111, .one), (112, .one), (113, .one), (114, .one), (115, .one), (116, .ty (.arr 4 .bool)), (117, .one), (118, .one), (119, .one), (120, .one), (121, .one), (122, .one), (123, .ty (.list (.st .box))), (124, .one), (125, .one), (126, .one), (127, .one), (128, .ty (.arr 256 .bool)), (129, .one), (130, .one), (131, .ty (.int .u64)), (132, .one), (133, .one), (134, .one), (135, .one), (136, .one), (137, .one), (138, .one), (139, .one), (140, .one), (141, .one), (142, .ty (.arr 64 .bool)), (143, .one), (144, .one), (146, .one), (147, .one), (148, .one), (149, .one), (151, .one), (152, .one), (153, .one), (159, .one), (160, .ty (.int .u8)), (161, .ty (.int .u8)), (162, .one), (163, .one), (164, .ty (.int .i32)), (165, .ty (.int .i32))]
theorem T_ok : TabOK Try.prog T := TabOK.of (by kernel_rfl)
def body (f : Func) : Code := match f.body with | some c => c | none => .skip
def noInl : (R : Type) → Nat → List AV → Mem → Nat → KO R → Option R := fun _ _ _ _ _ _ => none
def lsOf : List (Nat × List (Nat × LD)) → Nat → List (Nat × LD)
  | [], _ => []
  | (i, l) :: r, n => match Nat.beq n i with | true => l | false => lsOf r n
/-- Contracts, loops' lines, calls gone into. -/
noncomputable def EI (con : Cons') (Ls : List (Nat × List (Nat × LD))) (B : Bodies) : Nat → List (Nat × LD) → EE
  | 0, L => { T := T, con := con, lp := lpM L, inl := noInl }
  | n + 1, L => { T := T, con := con, lp := lpM L, inl := fun R f vs m nx K => inlH (EI con Ls B n (lsOf Ls f)) B R f vs m nx K }
noncomputable def run (con : Cons') (L : List (Nat × LD)) (Ls : List (Nat × List (Nat × LD))) (B : Bodies) (f : Func) (args res : List Ty) (x : denL args) : Option (denL res) := evF (EI con Ls B 4 L) f (body f) args x (retK T f.results.toList res)
def ConsOK (con : Cons') : Prop := ∀ f c, conOf con f = some c → ConOK Try.prog f c
theorem ConsOK.nil : ConsOK [] := fun f c h => by cases h
theorem ConsOK.cons {con : Cons'} {i : Nat} {c : Con} (h : ConOK Try.prog i c) (hc : ConsOK con) : ConsOK ((i, c) :: con) := by
  intro f d hf
  unfold conOf at hf
  split at hf
  · rename_i hb
    have := Nat.eq_of_beq_eq_true hb; subst this
    cases hf; exact h
  · exact hc f d hf
def bodyLine (i : Nat) (f : Func) : Nat × Nat × List ResultVar × Code := (i, f.ntmps, f.results.toList, body f)
theorem BodiesOK.nil : BodiesOK Try.prog [] := fun f n rs b h => by cases h
theorem BodiesOK.cons {B : Bodies} {i : Nat} {f : Func} (hi : Try.prog.funcs[i]? = some f) (hs : (f.body.isSome && !(f.name == "runtime.NumGoroutine")) = true) (hB : BodiesOK Try.prog B) : BodiesOK Try.prog (bodyLine i f :: B) := by
  intro j n rs b h
  unfold bodyLine bodyOf at h
  split at h
  · rename_i hb
    have := Nat.eq_of_beq_eq_true hb; subst this
    cases h
    simp only [Bool.and_eq_true, Bool.not_eq_true'] at hs
    obtain ⟨c, hc⟩ := Option.isSome_iff_exists.1 hs.1
    exact ⟨f, hi, by unfold body; rw [hc], rfl, rfl, hs.2⟩
  · exact hB j n rs b h
theorem EI_lp {con : Cons'} (Ls : List (Nat × List (Nat × LD))) (B : Bodies) (k : Nat) (L : List (Nat × LD)) : (EI con Ls B k L).lp = lpM L := by cases k <;> rfl
theorem EI_ok {con : Cons'} (hc : ConsOK con) (Ls : List (Nat × List (Nat × LD))) {B : Bodies} (hB : BodiesOK Try.prog B) (C : Ctx) : ∀ (k : Nat) (L : List (Nat × LD)), EOK Try.prog C (EI con Ls B k L)
  | 0, L => ⟨T_ok, hc, fun R f vs m nx K y h => by cases h⟩
  | k + 1, L => ⟨T_ok, hc, inlG_ok (Es := fun f => EI con Ls B k (lsOf Ls f)) hB (fun f => EI_ok hc Ls hB C k (lsOf Ls f)) (fun f n => lpM_ok (EI_lp Ls B k (lsOf Ls f))) rfl⟩
theorem EI_T {con : Cons'} (Ls : List (Nat × List (Nat × LD))) (B : Bodies) (k : Nat) (L : List (Nat × LD)) : (EI con Ls B k L).T = T := by cases k <;> rfl
def shapeOK (f : Func) (c : Con) : Bool := f.body.isSome && !(f.name == "runtime.NumGoroutine") && c.args.all plainTy && c.res.all plainTy && Nat.ble c.args.length f.ntmps
theorem con_ok {con : Cons'} (hc : ConsOK con) (L : List (Nat × LD)) (Ls : List (Nat × List (Nat × LD))) {B : Bodies} (hB : BodiesOK Try.prog B) {i : Nat} {f : Func} (hi : Try.prog.funcs[i]? = some f) {c : Con} (hs : shapeOK f c = true) (h : ∀ x y, FineL c.args x → c.fn x = some y → run con L Ls B f c.args c.res x = some y) : ConOK Try.prog i c := by
  simp only [shapeOK, Bool.and_eq_true, Bool.not_eq_true'] at hs
  obtain ⟨⟨⟨⟨h1, h2⟩, h3⟩, h4⟩, h5⟩ := hs
  obtain ⟨b, hb⟩ := Option.isSome_iff_exists.1 h1
  refine con_of hi hb h2 (E := EI con Ls B 4 L) (fun C _ => EI_ok hc Ls hB C 4 L) (fun C _ => lpM_ok (EI_lp Ls B 4 L)) rfl h3 h4 h5 fun x y hf hxy => ?_
  have := h x y hf hxy
  unfold run body at this
  rw [hb] at this
  exact this
end Go.Proofs.Ytghmcodjbkmlnaa
