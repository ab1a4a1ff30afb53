/-
  The program's sorts: slices.SortFunc over entries and over reveals, and what their comparing functions answer.
  The seat's types; what a contract is made from.
  Loops gone through round by round.
  Ranges over maps: whichever order the entries come in.
  The names that begin in a tree, gathered from a map in whatever order and sorted.
  What each function computes, printed by a program of my own (wip/tool) out of its run.
  Rows of trees: what plays, tells, asks compute.
  Names that begin in a tree: those from the Fresh before to its own.
  What the laws of chapter 22 are to answer.
  What each function computes, printed by a program of my own (wip/tool) out of its run.
  Laws of rows of trees: names, fronts, one way.
  history.Born: the names that a tree has and the one before had not, whichever order the map's range takes, sorted.
  The program computes so: printed by a program of my own (wip/tool).
  A range over an iterator that keeps a box of its own: what the loop's body must keep.
  No conditions. Own text, for the claims about coterie.
-/
import Derived.Test.YtghlolinkmlkeaaDoorProg
import Derived.Shelf.SlicesG.Cmp
import Derived.WalkKit
import Derived.KernelRfl
import Derived.Maps.RangeRun
import Derived.RangeFuncMany
import Derived.RangeFuncBox
import Derived.OwnWalkIn
import Derived.Test.YtghlolinkmlkeaaDoorPartD

section
namespace Go.Proofs.YtghlolinkmlkeaaDoor
open Go Go.Co Go.Co.N Go.Proofs Go.Shelf Go.RowKit Go.Lib Go.Sort

def Tryd.sortE_ren : Go.Shelf.Ren := ⟨fun | 6 => 34 | 15 => 32 | 14 => 64 | 28 => 62 | 29 => 63 | 20 => 84 | 21 => 85 | 22 => 86 | 23 => 87 | 24 => 88 | 25 => 89 | 26 => 90 | 27 => 91 | 46 => 99 | 47 => 80 | 48 => 81 | 49 => 100 | 50 => 101 | 57 => 104 | n => n, fun | 22 => 79 | 24 => 35 | 25 => 81 | 3 => 3 | 39 => 78 | 0 => 0 | 53 => 89 | 55 => 85 | 4 => 4 | 46 => 113 | 45 => 112 | 50 => 48 | 5 => 5 | 9 => 9 | 66 => 131 | 70 => 135 | 76 => 146 | 77 => 120 | n => n, fun | n => n⟩
theorem Tryd.sortE : SlLaysF0.n6 Tryd.prog Tryd.sortE_ren := {
  mixed := by kernel_rfl,
  f6 := ⟨Tryd.f34.name, by decide, Tryd.func34.trans (congrArg some (by kernel_rfl))⟩,
  f14 := ⟨Tryd.f64.name, by decide, Tryd.func64.trans (congrArg some (by kernel_rfl))⟩,
  f15 := Tryd.func32.trans (congrArg some (by kernel_rfl)),
  f20 := ⟨Tryd.f84.name, by decide, Tryd.func84.trans (congrArg some (by kernel_rfl))⟩,
  f21 := ⟨Tryd.f85.name, by decide, Tryd.func85.trans (congrArg some (by kernel_rfl))⟩,
  f22 := ⟨Tryd.f86.name, by decide, Tryd.func86.trans (congrArg some (by kernel_rfl))⟩,
  f23 := ⟨Tryd.f87.name, by decide, Tryd.func87.trans (congrArg some (by kernel_rfl))⟩,
  f24 := ⟨Tryd.f88.name, by decide, Tryd.func88.trans (congrArg some (by kernel_rfl))⟩,
  f25 := ⟨Tryd.f89.name, by decide, Tryd.func89.trans (congrArg some (by kernel_rfl))⟩,
  f26 := ⟨Tryd.f90.name, by decide, Tryd.func90.trans (congrArg some (by kernel_rfl))⟩,
  f27 := ⟨Tryd.f91.name, by decide, Tryd.func91.trans (congrArg some (by kernel_rfl))⟩,
  f28 := Tryd.func62.trans (congrArg some (by kernel_rfl)),
  f29 := Tryd.func63.trans (congrArg some (by kernel_rfl)),
  f46 := ⟨Tryd.f99.name, by decide, Tryd.func99.trans (congrArg some (by kernel_rfl))⟩,
  f47 := Tryd.func80.trans (congrArg some (by kernel_rfl)),
  f48 := Tryd.func81.trans (congrArg some (by kernel_rfl)),
  f49 := ⟨Tryd.f100.name, by decide, Tryd.func100.trans (congrArg some (by kernel_rfl))⟩,
  f50 := ⟨Tryd.f101.name, by decide, Tryd.func101.trans (congrArg some (by kernel_rfl))⟩,
  f57 := ⟨Tryd.f104.name, by decide, Tryd.func104.trans (congrArg some (by kernel_rfl))⟩,
  t0 := Tryd.underlying0,
  a0 := Tryd.isAgg0,
  z0 := Tryd.sizeOf0,
  v0 := Tryd.zeroValue0,
  t3 := Tryd.underlying3,
  a3 := Tryd.isAgg3,
  z3 := Tryd.sizeOf3,
  v3 := Tryd.zeroValue3,
  t4 := Tryd.underlying4,
  a4 := Tryd.isAgg4,
  z4 := Tryd.sizeOf4,
  v4 := Tryd.zeroValue4,
  t5 := Tryd.underlying5,
  a5 := Tryd.isAgg5,
  z5 := Tryd.sizeOf5,
  v5 := Tryd.zeroValue5,
  t9 := Tryd.underlying9,
  a9 := Tryd.isAgg9,
  z9 := Tryd.sizeOf9,
  v9 := Tryd.zeroValue9,
  t22 := Tryd.underlying79,
  a22 := Tryd.isAgg79,
  z22 := Tryd.sizeOf79,
  v22 := Tryd.zeroValue79,
  t25 := Tryd.underlying81,
  a25 := Tryd.isAgg81,
  z25 := Tryd.sizeOf81,
  v25 := Tryd.zeroValue81,
  t39 := Tryd.underlying78,
  a39 := Tryd.isAgg78,
  z39 := Tryd.sizeOf78,
  v39 := Tryd.zeroValue78,
  t45 := Tryd.underlying112,
  a45 := Tryd.isAgg112,
  z45 := Tryd.sizeOf112,
  v45 := Tryd.zeroValue112,
  t46 := Tryd.underlying113,
  a46 := Tryd.isAgg113,
  z46 := Tryd.sizeOf113,
  v46 := Tryd.zeroValue113,
  t50 := Tryd.underlying48,
  a50 := Tryd.isAgg48,
  z50 := Tryd.sizeOf48,
  v50 := Tryd.zeroValue48,
  t53 := Tryd.underlying89,
  a53 := Tryd.isAgg89,
  z53 := Tryd.sizeOf89,
  v53 := Tryd.zeroValue89,
  t55 := Tryd.underlying85,
  a55 := Tryd.isAgg85,
  z55 := Tryd.sizeOf85,
  v55 := Tryd.zeroValue85,
  t66 := Tryd.underlying131,
  a66 := Tryd.isAgg131,
  z66 := Tryd.sizeOf131,
  v66 := Tryd.zeroValue131,
  t70 := Tryd.underlying135,
  a70 := Tryd.isAgg135,
  z70 := Tryd.sizeOf135,
  v70 := Tryd.zeroValue135,
  t76 := Tryd.underlying146,
  a76 := Tryd.isAgg146,
  z76 := Tryd.sizeOf146,
  v76 := Tryd.zeroValue146,
  t77 := Tryd.underlying120,
  a77 := Tryd.isAgg120,
  z77 := Tryd.sizeOf120,
  v77 := Tryd.zeroValue120 }
def Tryd.sortV_ren : Go.Shelf.Ren := ⟨fun | 6 => 17 | 15 => 32 | 14 => 31 | 28 => 62 | 29 => 63 | 20 => 54 | 21 => 55 | 22 => 56 | 23 => 57 | 24 => 58 | 25 => 59 | 26 => 60 | 27 => 61 | 46 => 79 | 47 => 80 | 48 => 81 | 49 => 82 | 50 => 83 | 57 => 98 | n => n, fun | 22 => 28 | 24 => 41 | 25 => 65 | 3 => 3 | 39 => 78 | 0 => 0 | 53 => 89 | 55 => 85 | 4 => 4 | 46 => 113 | 45 => 112 | 50 => 48 | 5 => 5 | 9 => 9 | 66 => 131 | 70 => 135 | 76 => 146 | 77 => 120 | n => n, fun | n => n⟩
theorem Tryd.sortV : SlLaysF0.n6 Tryd.prog Tryd.sortV_ren := {
  mixed := by kernel_rfl,
  f6 := ⟨Tryd.f17.name, by decide, Tryd.func17.trans (congrArg some (by kernel_rfl))⟩,
  f14 := ⟨Tryd.f31.name, by decide, Tryd.func31.trans (congrArg some (by kernel_rfl))⟩,
  f15 := Tryd.func32.trans (congrArg some (by kernel_rfl)),
  f20 := ⟨Tryd.f54.name, by decide, Tryd.func54.trans (congrArg some (by kernel_rfl))⟩,
  f21 := ⟨Tryd.f55.name, by decide, Tryd.func55.trans (congrArg some (by kernel_rfl))⟩,
  f22 := ⟨Tryd.f56.name, by decide, Tryd.func56.trans (congrArg some (by kernel_rfl))⟩,
  f23 := ⟨Tryd.f57.name, by decide, Tryd.func57.trans (congrArg some (by kernel_rfl))⟩,
  f24 := ⟨Tryd.f58.name, by decide, Tryd.func58.trans (congrArg some (by kernel_rfl))⟩,
  f25 := ⟨Tryd.f59.name, by decide, Tryd.func59.trans (congrArg some (by kernel_rfl))⟩,
  f26 := ⟨Tryd.f60.name, by decide, Tryd.func60.trans (congrArg some (by kernel_rfl))⟩,
  f27 := ⟨Tryd.f61.name, by decide, Tryd.func61.trans (congrArg some (by kernel_rfl))⟩,
  f28 := Tryd.func62.trans (congrArg some (by kernel_rfl)),
  f29 := Tryd.func63.trans (congrArg some (by kernel_rfl)),
  f46 := ⟨Tryd.f79.name, by decide, Tryd.func79.trans (congrArg some (by kernel_rfl))⟩,
  f47 := Tryd.func80.trans (congrArg some (by kernel_rfl)),
  f48 := Tryd.func81.trans (congrArg some (by kernel_rfl)),
  f49 := ⟨Tryd.f82.name, by decide, Tryd.func82.trans (congrArg some (by kernel_rfl))⟩,
  f50 := ⟨Tryd.f83.name, by decide, Tryd.func83.trans (congrArg some (by kernel_rfl))⟩,
  f57 := ⟨Tryd.f98.name, by decide, Tryd.func98.trans (congrArg some (by kernel_rfl))⟩,
  t0 := Tryd.underlying0,
  a0 := Tryd.isAgg0,
  z0 := Tryd.sizeOf0,
  v0 := Tryd.zeroValue0,
  t3 := Tryd.underlying3,
  a3 := Tryd.isAgg3,
  z3 := Tryd.sizeOf3,
  v3 := Tryd.zeroValue3,
  t4 := Tryd.underlying4,
  a4 := Tryd.isAgg4,
  z4 := Tryd.sizeOf4,
  v4 := Tryd.zeroValue4,
  t5 := Tryd.underlying5,
  a5 := Tryd.isAgg5,
  z5 := Tryd.sizeOf5,
  v5 := Tryd.zeroValue5,
  t9 := Tryd.underlying9,
  a9 := Tryd.isAgg9,
  z9 := Tryd.sizeOf9,
  v9 := Tryd.zeroValue9,
  t22 := Tryd.underlying28,
  a22 := Tryd.isAgg28,
  z22 := Tryd.sizeOf28,
  v22 := Tryd.zeroValue28,
  t25 := Tryd.underlying65,
  a25 := Tryd.isAgg65,
  z25 := Tryd.sizeOf65,
  v25 := Tryd.zeroValue65,
  t39 := Tryd.underlying78,
  a39 := Tryd.isAgg78,
  z39 := Tryd.sizeOf78,
  v39 := Tryd.zeroValue78,
  t45 := Tryd.underlying112,
  a45 := Tryd.isAgg112,
  z45 := Tryd.sizeOf112,
  v45 := Tryd.zeroValue112,
  t46 := Tryd.underlying113,
  a46 := Tryd.isAgg113,
  z46 := Tryd.sizeOf113,
  v46 := Tryd.zeroValue113,
  t50 := Tryd.underlying48,
  a50 := Tryd.isAgg48,
  z50 := Tryd.sizeOf48,
  v50 := Tryd.zeroValue48,
  t53 := Tryd.underlying89,
  a53 := Tryd.isAgg89,
  z53 := Tryd.sizeOf89,
  v53 := Tryd.zeroValue89,
  t55 := Tryd.underlying85,
  a55 := Tryd.isAgg85,
  z55 := Tryd.sizeOf85,
  v55 := Tryd.zeroValue85,
  t66 := Tryd.underlying131,
  a66 := Tryd.isAgg131,
  z66 := Tryd.sizeOf131,
  v66 := Tryd.zeroValue131,
  t70 := Tryd.underlying135,
  a70 := Tryd.isAgg135,
  z70 := Tryd.sizeOf135,
  v70 := Tryd.zeroValue135,
  t76 := Tryd.underlying146,
  a76 := Tryd.isAgg146,
  z76 := Tryd.sizeOf146,
  v76 := Tryd.zeroValue146,
  t77 := Tryd.underlying120,
  a77 := Tryd.isAgg120,
  z77 := Tryd.sizeOf120,
  v77 := Tryd.zeroValue120 }
def Tryd.cmpI_ren : Go.Shelf.Ren := ⟨fun | 5 => 19 | 7 => 33 | n => n, fun | 22 => 3 | 3 => 3 | 4 => 4 | n => n, fun | n => n⟩
theorem Tryd.cmpI : SlLaysC2.n5 Tryd.prog Tryd.cmpI_ren := {
  mixed := by kernel_rfl,
  f5 := ⟨Tryd.f19.name, by decide, Tryd.func19.trans (congrArg some (by kernel_rfl))⟩,
  f7 := ⟨Tryd.f33.name, by decide, Tryd.func33.trans (congrArg some (by kernel_rfl))⟩,
  t3 := Tryd.underlying3,
  a3 := Tryd.isAgg3,
  z3 := Tryd.sizeOf3,
  v3 := Tryd.zeroValue3,
  t4 := Tryd.underlying4,
  a4 := Tryd.isAgg4,
  z4 := Tryd.sizeOf4,
  v4 := Tryd.zeroValue4,
  t22 := Tryd.underlying3,
  a22 := Tryd.isAgg3,
  z22 := Tryd.sizeOf3,
  v22 := Tryd.zeroValue3 }

def encE (x : Co.Entry) : List Value := [.int .i64 x.Who, .int .i64 x.Base, .int .i64 x.Since]
set_option maxHeartbeats 1000000 in
theorem cloE (x y : Co.Entry) (W : World) : Calls Tryd.prog 35 #[.agg #[.int .i64 x.Who, .int .i64 x.Base, .int .i64 x.Since], .agg #[.int .i64 y.Who, .int .i64 y.Base, .int .i64 y.Since]] W fun e w' => e = .returned (.int .i64 (cfE x y)) ∧ ∃ q os', w' = grow (W.drewN q) os' := by
  have hcon := fun W' => AnyG.cmp_Compare_int Tryd.cmpI x.Base y.Base W'
  change ∀ W', Calls Tryd.prog 19 _ _ _ at hcon
  show Calls Tryd.prog 35 _ W fun e w' => e = .returned (.int .i64 (Lib.compareInt x.Base y.Base)) ∧ _
  generalize Lib.compareInt x.Base y.Base = r at hcon ⊢
  go_enter Tryd.func35, Tryd.ntmps35
  go_wp2_with (go_at_call 19; refine (hcon _).mono ?_; rintro e w' ⟨rfl, rfl⟩)
  go_ret
  exact ⟨rfl, 0, _, by rw [alloc_eq_grow, alloc_eq_grow, grow_grow]; rfl⟩
theorem sortE_ok : SortOK Tryd.prog ⟨34, 35, .st .entry, cfE⟩ :=
  SortOK.of (d := ⟨34, 35, .st .entry, cfE⟩) Tryd.sortE rfl (FnOK.of Tryd.func34 rfl (by kernel_rfl)) rfl (by decide) Tryd.isAgg35 Tryd.sizeOf35 encE (fun _ => rfl)
    (fun x v hv => by simp [encE] at hv; rcases hv with rfl | rfl | rfl <;> rfl) (fun w im x c h => rd_entry h) swo_cfE (FnOK.of Tryd.func35 rfl (by kernel_rfl)) (fun _ _ _ _ _ _ _ _ x y => cloE x y _)

def encV (x : Co.Reveal) : List Value := [.int .i64 x.Who, .int .i64 x.Epoch]
set_option maxHeartbeats 1000000 in
theorem cloV (x y : Co.Reveal) (W : World) : Calls Tryd.prog 18 #[.agg #[.int .i64 x.Who, .int .i64 x.Epoch], .agg #[.int .i64 y.Who, .int .i64 y.Epoch]] W fun e w' => e = .returned (.int .i64 (cfV x y)) ∧ ∃ q os', w' = grow (W.drewN q) os' := by
  have hcon := fun W' => AnyG.cmp_Compare_int Tryd.cmpI x.Who y.Who W'
  change ∀ W', Calls Tryd.prog 19 _ _ _ at hcon
  show Calls Tryd.prog 18 _ W fun e w' => e = .returned (.int .i64 (Lib.compareInt x.Who y.Who)) ∧ _
  generalize Lib.compareInt x.Who y.Who = r at hcon ⊢
  go_enter Tryd.func18, Tryd.ntmps18
  go_wp2_with (go_at_call 19; refine (hcon _).mono ?_; rintro e w' ⟨rfl, rfl⟩)
  go_ret
  exact ⟨rfl, 0, _, by rw [alloc_eq_grow, alloc_eq_grow, grow_grow]; rfl⟩
theorem sortV_ok : SortOK Tryd.prog ⟨17, 18, .st .reveal, cfV⟩ :=
  SortOK.of (d := ⟨17, 18, .st .reveal, cfV⟩) Tryd.sortV rfl (FnOK.of Tryd.func17 rfl (by kernel_rfl)) rfl (by decide) Tryd.isAgg41 Tryd.sizeOf41 encV (fun _ => rfl)
    (fun x v hv => by simp [encV] at hv; rcases hv with rfl | rfl <;> rfl) (fun w im x c h => rd_reveal h) swo_cfV (FnOK.of Tryd.func18 rfl (by kernel_rfl)) (fun _ _ _ _ _ _ _ _ x y => cloV x y _)

def sorts : List SortD := [⟨34, 35, .st .entry, cfE⟩, ⟨17, 18, .st .reveal, cfV⟩]
theorem sorts_ok : ∀ d ∈ sorts, SortOK Tryd.prog d := by
  intro d hd
  simp only [sorts, List.mem_cons, List.not_mem_nil, or_false] at hd
  rcases hd with rfl | rfl
  · exact sortE_ok
  · exact sortV_ok
end Go.Proofs.YtghlolinkmlkeaaDoor
end

section
namespace Go.Proofs.YtghlolinkmlkeaaDoor
open Go Go.Co Go.Proofs

def T : Tab := [(1, .one), (2, .ty (.int .i64)), (3, .ty (.int .i64)), (4, .ty .bool), (5, .ty (.int .u8)), (6, .ty (.int .u8)), (9, .ty .str), (10, .ty .str), (11, .ty .str), (12, .ty (.int .u64)), (15, .pt), (16, .pt), (17, .pt), (21, .ty (.int .i32)), (22, .ty (.list (.st .batch))), (23, .one), (24, .ty (.list (.st .tree))), (25, .ty (.list (.int .i64))), (27, .one), (28, .ty (.list (.st .reveal))), (29, .one), (31, .ty (.st .key)), (32, .ty (.arr 21 (.st .key))), (33, .ty (.arr 21 (.st .key))), (35, .ty (.st .entry)), (36, .ty (.arr 64 (.st .entry))), (37, .ty (.arr 64 (.st .entry))), (39, .ty (.st .tree)), (41, .ty (.st .reveal)), (42, .one), (43, .one), (44, .mp (.int .i64) (.int .i64)), (45, .ty (.int .i64)), (47, .one), (49, .one), (50, .ty (.list (.int .i64))), (52, .ty (.st .batch)), (53, .one), (54, .one), (55, .one), (56, .ty (.list (.st .seat))), (57, .ty (.list (.st .item))), (59, .ty (.st .rekey)), (61, .one), (62, .one), (63, .one), (64, .one), (65, .one), (66, .one), (67, .one), (68, .one), (69, .one), (70, .one), (71, .one), (72, .one), (73, .one), (74, .one), (75, .one), (76, .one), (77, .one), (78, .ty (.int .u64)), (79, .ty (.list (.st .entry))), (80, .one), (81, .one), (82, .one), (83, .one), (84, .one), (85, .ty (.int .u64)), (86, .one), (87, .one), (88, .one), (89, .ty (.int .u32)), (90, .one), (91, .one), (92, .one), (94, .one), (96, .one), (98, .ty (.st .box)), (100, .one), (101, .one), (103, .ty (.st .item)), (104, .one), (105, .one), (107, .ty (.st .seat)), (108, .ty (.arr 3 (.int .i64))), (110, .one), (111, .one), (112, .ty (.int .i64)), (114, .one), (115, .one), (116, .one), (117, .one), (118, .one), (119, .one), (121, .one), (122, .one), (123, .one), (124, .one), (125, .one), (126, .one), (127, .one), (128, .one), (130, .one), (131, .ty (.int .u64)), (132, .one), (133, .one), (134, .one), (135, .pt), (136, .one), (137, .one), (138, .one), (139, .one), (140, .one), (141, .one), (142, .one), (143, .one), (144, .one), (145, .one), (146, .pt), (147, .one), (148, .one), (149, .one), (150, .one), (151, .ty (.arr 64 (.int .u8))), (152, .one), (158, .one), (159, .ty (.int .u8)), (160, .ty (.int .u8)), (161, .one), (162, .pt), (163, .ty (.int .i32)), (164, .ty (.int .i32))]
theorem T_ok : TabOK Tryd.prog T := TabOK.of (by kernel_rfl)
def body (f : Func) : Code := match f.body with | some c => c | none => .skip
def noInl : (R : Type) → Nat → List AV → Mem → Nat → KO R → Option R := fun _ _ _ _ _ _ => none
def lsOf : List (Nat × List (Nat × LD)) → Nat → List (Nat × LD)
  | [], _ => []
  | (i, l) :: r, n => match Nat.beq n i with | true => l | false => lsOf r n
/-- Contracts (fr: those whose answers are new memory), loops' lines, calls gone into. -/
noncomputable def EF (con : Cons') (fr : List Nat) (Ls : List (Nat × List (Nat × LD))) (B : Bodies) : Nat → List (Nat × LD) → EE
  | 0, L => { T := T, con := con, lp := lpM L, inl := sortH sorts noInl, fr := fr }
  | n + 1, L => { T := T, con := con, lp := lpM L, inl := sortH sorts fun R f vs m nx K => inlJ (lsOf Ls f) (EF con fr Ls B n (lsOf Ls f)) B R f vs m nx K, fr := fr }
noncomputable def run (con : Cons') (L : List (Nat × LD)) (Ls : List (Nat × List (Nat × LD))) (B : Bodies) (f : Func) (args res : List Ty) (x : denL args) : Option (denL res) := evF (EF con [] Ls B 4 L) f (body f) args x (retK T f.results.toList res)
noncomputable def runF (con : Cons') (fr : List Nat) (L : List (Nat × LD)) (Ls : List (Nat × List (Nat × LD))) (B : Bodies) (f : Func) (args res : List Ty) (x : denL args) : Option (denL res) := evF (EF con fr Ls B 4 L) f (body f) args x (retK T f.results.toList res)
def FConsOK (con : Cons') (fr : List Nat) : Prop := ∀ f c, conOf con f = some c → (inL fr f = false → ConOK Tryd.prog f c) ∧ (inL fr f = true → FConOK Tryd.prog f c)
theorem FConsOK.nil {fr : List Nat} : FConsOK [] fr := fun f c h => by cases h
theorem FConsOK.cons {con : Cons'} {fr : List Nat} {i : Nat} {c : Con} (hi : inL fr i = false) (h : ConOK Tryd.prog i c) (hc : FConsOK con fr) : FConsOK ((i, c) :: con) fr := by
  intro f d hf
  unfold conOf at hf
  split at hf
  · rename_i hb
    have := Nat.eq_of_beq_eq_true hb; subst this
    cases hf; exact ⟨fun _ => h, fun hn => by rw [hi] at hn; cases hn⟩
  · exact hc f d hf
def ConsOK (con : Cons') : Prop := FConsOK con []
theorem ConsOK.nil : ConsOK [] := FConsOK.nil
theorem ConsOK.cons {con : Cons'} {i : Nat} {c : Con} (h : ConOK Tryd.prog i c) (hc : ConsOK con) : ConsOK ((i, c) :: con) := FConsOK.cons rfl h hc
def bodyLine (i : Nat) (f : Func) : Nat × Nat × List ResultVar × Code := (i, f.ntmps, f.results.toList, body f)
theorem BodiesOK.nil : BodiesOK Tryd.prog [] := fun f n rs b h => by cases h
theorem BodiesOK.cons {B : Bodies} {i : Nat} {f : Func} (hi : Tryd.prog.funcs[i]? = some f) (hs : (f.body.isSome && !(f.name == "runtime.NumGoroutine")) = true) (hB : BodiesOK Tryd.prog B) : BodiesOK Tryd.prog (bodyLine i f :: B) := by
  intro j n rs b h
  unfold bodyLine bodyOf at h
  split at h
  · rename_i hb
    have := Nat.eq_of_beq_eq_true hb; subst this
    cases h
    simp only [Bool.and_eq_true, Bool.not_eq_true'] at hs
    obtain ⟨c, hc⟩ := Option.isSome_iff_exists.1 hs.1
    exact ⟨f, hi, by unfold body; rw [hc], rfl, rfl, hs.2⟩
  · exact hB j n rs b h
theorem EF_lp {con : Cons'} {fr : List Nat} (Ls : List (Nat × List (Nat × LD))) (B : Bodies) (k : Nat) (L : List (Nat × LD)) : (EF con fr Ls B k L).lp = lpM L := by cases k <;> rfl
theorem EF_sp {con : Cons'} {fr : List Nat} (Ls : List (Nat × List (Nat × LD))) (B : Bodies) (k : Nat) (L : List (Nat × LD)) (i : Nat) : (EF con fr Ls B k L).sp i = none := by cases k <;> rfl
theorem EF_ok {con : Cons'} {fr : List Nat} (hc : FConsOK con fr) (Ls : List (Nat × List (Nat × LD))) {B : Bodies} (hB : BodiesOK Tryd.prog B) (C : Ctx) (hP : C.P = Tryd.prog) : ∀ (k : Nat) (L : List (Nat × LD)), EOK Tryd.prog C (EF con fr Ls B k L)
  | 0, L => ⟨T_ok, fun f c h => (hc f c h).1, fun f c h => (hc f c h).2, sortH_ok sorts_ok (fun R f vs m nx K y h => (by cases h)), hP⟩
  | k + 1, L => ⟨T_ok, fun f c h => (hc f c h).1, fun f c h => (hc f c h).2, sortH_ok sorts_ok (inlO_ok (Es := fun f => EF con fr Ls B k (lsOf Ls f)) (fun f => lsOf Ls f) hB (fun f => EF_ok hc Ls hB C hP k (lsOf Ls f)) (fun f n => lpM_ok (EF_lp Ls B k (lsOf Ls f))) (fun f i => EF_sp Ls B k (lsOf Ls f) i) rfl), hP⟩
def shapeOK (f : Func) (c : Con) : Bool := f.body.isSome && !(f.name == "runtime.NumGoroutine") && c.args.all plainTy && c.res.all plainTy && Nat.ble c.args.length f.ntmps
theorem con_okF {con : Cons'} {fr : List Nat} (hc : FConsOK con fr) (L : List (Nat × LD)) (Ls : List (Nat × List (Nat × LD))) {B : Bodies} (hB : BodiesOK Tryd.prog B) {i : Nat} {f : Func} (hi : Tryd.prog.funcs[i]? = some f) {c : Con} (hs : shapeOK f c = true) (h : ∀ x y, FineL c.args x → c.fn x = some y → runF con fr L Ls B f c.args c.res x = some y) : ConOK Tryd.prog i c := by
  simp only [shapeOK, Bool.and_eq_true, Bool.not_eq_true'] at hs
  obtain ⟨⟨⟨⟨h1, h2⟩, h3⟩, h4⟩, h5⟩ := hs
  obtain ⟨b, hb⟩ := Option.isSome_iff_exists.1 h1
  refine con_of hi hb h2 (E := EF con fr Ls B 4 L) (fun C hP => EF_ok hc Ls hB C hP 4 L) (fun C _ => lpM_ok (EF_lp Ls B 4 L)) (fun C _ => SpOK.none (EF_sp Ls B 4 L) b) rfl h3 h4 h5 fun x y hf hxy => ?_
  have := h x y hf hxy
  unfold runF body at this
  rw [hb] at this
  exact this
theorem con_ok {con : Cons'} (hc : ConsOK con) (L : List (Nat × LD)) (Ls : List (Nat × List (Nat × LD))) {B : Bodies} (hB : BodiesOK Tryd.prog B) {i : Nat} {f : Func} (hi : Tryd.prog.funcs[i]? = some f) {c : Con} (hs : shapeOK f c = true) (h : ∀ x y, FineL c.args x → c.fn x = some y → run con L Ls B f c.args c.res x = some y) : ConOK Tryd.prog i c :=
  con_okF hc L Ls hB hi hs h
end Go.Proofs.YtghlolinkmlkeaaDoor
end

section
namespace Go.Co
open Go.RowKit

/-- Inside the loop, a round before it. -/
def LW (P : Program) (c : Code) (Q : Exit → Act → World → Prop) (a : Act) (w : World) : Prop :=
  ∀ (b : Frame) (k : List Go.Item) (cs : List Frame), ∃ e a' w', Q e a' w' ∧ Arrives P (lone (b.at a (.code c :: .inLoop c :: k)) cs w) b k cs e a' w'
theorem LW.loop {P : Program} {c : Code} {Q : Exit → Act → World → Prop} {a : Act} {w : World} (h : LW P c Q a w) : (Code.loop c).wp P Q a w := by
  intro b k cs
  obtain ⟨e, a', w', hq, harr⟩ := h b k cs
  exact ⟨e, a', w', hq, .of_steps (.one step_loop) harr⟩
theorem LW.round {P : Program} {c : Code} {Q : Exit → Act → World → Prop} {a : Act} {w : World} (h : c.wp P (Exit.then (LW P c Q) Q) a w) : LW P c Q a w := by
  intro b k cs
  obtain ⟨e, a₁, w₁, hq, harr⟩ := h b (.inLoop c :: k) cs
  cases e with
  | normal =>
    obtain ⟨e₂, a₂, w₂, hq₂, harr₂⟩ := hq b k cs
    exact ⟨e₂, a₂, w₂, hq₂, .of_steps (Steps.trans harr (.one step_inLoop)) harr₂⟩
  | exit id => exact ⟨_, a₁, w₁, hq, .pass (x := .inLoop c) rfl (fun _ _ => .inl (by simp)) harr⟩
  | goto l => exact ⟨_, a₁, w₁, hq, .pass (x := .inLoop c) rfl (fun _ _ => .inl (by simp)) harr⟩
  | ret => exact ⟨_, a₁, w₁, hq, .pass (x := .inLoop c) rfl (fun _ _ => .inl (by simp)) harr⟩
  | panic ch => exact ⟨_, a₁, w₁, hq, .pass (x := .inLoop c) rfl (fun _ _ => .inl (by simp)) harr⟩
  | outgrown => exact ⟨_, a₁, w₁, hq, .pass (x := .inLoop c) rfl (fun _ _ => .inl (by simp)) harr⟩
end Go.Co
end

section
namespace Go.Co
open Go.RowKit
open Go.ChangeMaps (setBlock)

/-! ### Regions run by hand -/
def opsRun (P : Program) : List Oper → Act → World → (Act → World → Prop) → Prop
  | [], a, w, R => R a w
  | o :: r, a, w, R => OpRun P o a.eval w fun v w' => opsRun P r (a.put o.dst v) w' R
theorem region_run {P : Program} {id : Nat} {ops : Array Oper} {Q : Exit → Act → World → Prop} {a : Act} {w : World} (hg : ∀ o ∈ ops.toList, o.guard = none) (h : opsRun P ops.toList a w (Q .normal)) : (Code.region id ops false).wp P Q a w := by
  refine wp_region ?_
  have key : ∀ (rest : List Oper) (i : Nat) (a : Act) (w : World), ops.toList.drop i = rest → opsRun P rest a w (Q .normal) → wpOps P ops Q (List.range' i rest.length) a w := by
    intro rest
    induction rest with
    | nil => intro i a w _ h; exact h
    | cons o rest ih =>
      intro i a w hd h
      have hoi : ops[i]? = some o := by
        have : ops.toList[i]? = some o := by
          have := congrArg (·[0]?) hd
          simpa using this
        simpa using this
      have hd' : ops.toList.drop (i + 1) = rest := by
        have := congrArg (List.drop 1) hd
        simpa [Nat.add_comm] using this
      have hmem : o ∈ ops.toList := List.mem_of_getElem? (by simpa using hoi)
      simp only [List.length_cons, List.range'_succ, wpOps, hoi, Region.wanted, hg o hmem, if_true]
      exact .inl (OpRun.wp (OpRun.mono h fun v w' hr => ih (i + 1) _ _ hd' hr))
  have := key ops.toList 0 a w rfl h
  rw [List.range_eq_range']
  simpa using this
theorem run_move {P : Program} {o : Oper} {x : Operand} {σ : Operand → Value} {w : World} {R : Value → World → Prop} (ho : o.op = .move x ∨ o.op = .assign x) (h : R (σ x) w) : OpRun P o σ w R := by
  rcases ho with ho | ho <;> (unfold OpRun; simp [execOp, ho]; exact h)
theorem run_extract {P : Program} {o : Oper} {x : Operand} {i : Nat} {σ : Operand → Value} {w : World} {R : Value → World → Prop} {vs : Array Value} {v : Value} (ho : o.op = .extract x i) (hx : σ x = .tuple vs) (hv : vs[i]? = some v) (h : R v w) : OpRun P o σ w R := by
  unfold OpRun
  simp [execOp, ho, hx, Instr.extract, hv]
  exact h

/-! ### A block that no name has is written -/
theorem MR.poke {C : Ctx} {E : Env} {m : Mem} {U : Nat → Prop} (h : MR C E m U) {k : Nat} {w' : World} (hno : ¬ owns E m k) (hni : ¬ E.imm k) (hk : C.w0.heap.size ≤ k) (hos : w'.os = E.w.os) (htape : w'.tape = E.w.tape) (hout : w'.output = E.w.output) (hsz : w'.heap.size = E.w.heap.size)
    (hoth : ∀ j, j ≠ k → w'.heap[j]? = E.w.heap[j]?) : MR C { E with w := w' } m U ∧ Ext E { E with w := w' } := by
  have hx : Ext E { E with w := w' } := ⟨fun _ _ h => h, fun j hj => ⟨hj, hoth j (fun e => hni (e ▸ hj))⟩⟩
  refine ⟨⟨?_, fun b => ?_, fun j hj => ?_, h.inj, fun j hj => ?_, h.immI, h.nx⟩, hx⟩
  · exact h.below.trans (.of ⟨hos, htape, hout, Nat.le_of_eq hsz.symm, fun j hj => hoth j (by omega)⟩)
  · refine (h.blocks b).frame hx fun bt j hb hj hl => hoth j fun e => hno ?_
    subst e; exact ⟨b, bt, hl, hb, hj⟩
  · obtain ⟨h1, h2⟩ := h.own j hj
    exact ⟨by simpa [hsz] using h1, h2⟩
  · have := h.immLt j hj
    simpa [hsz] using this
/-- Where the slot is not told of, whatever stands there. -/
theorem Fit.junk {C : Ctx} {n : Nat} {U : Nat → Prop} {e : Env} {s : AS} {a : Act} (h : Fit C n U e s a) {d : Nat} (hj : s.slots d = .junk) (v : Value) : Fit C n U e s (a.put (some d) v) := by
  refine ⟨h.defers, by simp [Act.put, h.size], fun i => ?_, h.mem⟩
  by_cases hi : i = d
  · subst hi; rw [hj]; trivial
  · have : (a.put (some d) v).tmps.getD i undef = a.tmps.getD i undef := by
      simp only [Act.put]
      rw [Array.getD_eq_getD_getElem?, Array.getElem?_setIfInBounds, if_neg (fun e => hi e.symm), ← Array.getD_eq_getD_getElem?]
    rw [this]; exact h.slots i
theorem eval_put {a : Act} {d t : Nat} {v : Value} (hd : d < a.tmps.size) : (a.put (some d) v).eval (.tmp t) = if t = d then v else a.eval (.tmp t) := by
  simp only [Act.eval, Act.put]
  by_cases h : t = d
  · subst h
    rw [if_pos rfl, Array.getD_eq_getD_getElem?, Array.getElem?_setIfInBounds, if_pos rfl, if_pos hd]; rfl
  · rw [if_neg h, Array.getD_eq_getD_getElem?, Array.getElem?_setIfInBounds, if_neg (fun e => h e.symm), ← Array.getD_eq_getD_getElem?]
theorem size_put {a : Act} {d : Option Nat} {v : Value} : (a.put d v).tmps.size = a.tmps.size := by cases d <;> simp [Act.put]

/-- A name for a block that the state doesn't tell of. -/
theorem MR.name0 {C : Ctx} {E : Env} {m : Mem} {U : Nat → Prop} (h : MR C E m U) {nx : Nat} (hN : ¬ U nx) (bt : BT) : MR C (E.name nx bt) m (fun b => U b ∨ b = nx) ∧ Ext E (E.name nx bt) := by
  have hx := Ext.name h hN bt
  have hfresh := h.fresh hN
  have hdead : ¬ live (m nx) := fun hl => by
    have hb := h.blocks nx
    cases hm : m nx with
    | var t v => rw [hm] at hb; obtain ⟨_, k, cs, el, h1, _⟩ := hb; rw [hfresh] at h1; cases h1
    | slab t xs => rw [hm] at hb; obtain ⟨_, h1 | ⟨k, cap, cs, el, css, rest, h1, _⟩⟩ := hb; (· rw [hfresh] at h1; cases h1.1); (· rw [hfresh] at h1; cases h1)
    | map k v l => rw [hm] at hb; obtain ⟨base, es, clock, h1, _⟩ := hb; rw [hfresh] at h1; cases h1
    | _ => rw [hm] at hl; exact hl
  have hname : ∀ b, b ≠ nx → (E.name nx bt).ρ b = E.ρ b := fun b hb => by simp [Env.name, hb]
  refine ⟨⟨h.below, fun b => (h.blocks b).frame hx fun _ _ _ _ _ => rfl, fun k hk => ?_, fun b b' c c' k h1 h2 h3 h4 h5 h6 => ?_, h.immLt, h.immI, fun b c hc => ?_⟩, hx⟩
  · obtain ⟨b, c, h1, h2, h3⟩ := hk
    have hb : b ≠ nx := fun e => hdead (e ▸ h1)
    rw [hname b hb] at h2
    exact h.own k ⟨b, c, h1, h2, h3⟩
  · have hb : b ≠ nx := fun e => hdead (e ▸ h1)
    have hb' : b' ≠ nx := fun e => hdead (e ▸ h2)
    rw [hname b hb] at h3
    rw [hname b' hb'] at h4
    exact h.inj b b' c c' k h1 h2 h3 h4 h5 h6
  · by_cases hb : b = nx
    · exact .inr hb
    · rw [hname b hb] at hc; exact .inl (h.nx b c hc)
theorem owns_name0 {C : Ctx} {E : Env} {m : Mem} {U : Nat → Prop} (h : MR C E m U) {nx : Nat} (hN : ¬ U nx) {bt : BT} {w : World} {j : Nat} (ho : owns { (E.name nx bt) with w := w } m j) : owns E m j := by
  obtain ⟨b, c, h1, h2, h3⟩ := ho
  by_cases hb : b = nx
  · subst hb
    exfalso
    have hr := h.blocks b
    have hfresh := h.fresh hN
    cases hm : m b with
    | var t v => rw [hm] at hr; obtain ⟨_, k, cs, el, g1, _⟩ := hr; rw [hfresh] at g1; cases g1
    | slab t xs => rw [hm] at hr; obtain ⟨_, g1 | ⟨k, cap, cs, el, css, rest, g1, _⟩⟩ := hr; (· rw [hfresh] at g1; cases g1.1); (· rw [hfresh] at g1; cases g1)
    | map k v l => rw [hm] at hr; obtain ⟨base, es, clock, g1, _⟩ := hr; rw [hfresh] at g1; cases g1
    | _ => rw [hm] at h1; exact h1
  · refine ⟨b, c, h1, ?_, h3⟩
    simpa [Env.name, hb] using h2
theorem heap_setBlock {w : World} {k j : Nat} {o : Obj} : (setBlock w k o).heap[j]? = if j = k then (if k < w.heap.size then some o else none) else w.heap[j]? := by
  simp only [setBlock, Array.getElem?_setIfInBounds]
  by_cases h : j = k
  · subst h; simp
  · rw [if_neg (fun e => h e.symm), if_neg h]
theorem size_setBlock (w : World) (k : Nat) (o : Obj) : (setBlock w k o).heap.size = w.heap.size := by simp [setBlock]

theorem ext_perm {n : Nat} {J : List Nat} (hJ : J.Nodup) (hl : ∀ q ∈ J, q < n) : ∃ r, (J ++ r).Perm (List.range n) := by
  refine ⟨(List.range n).filter fun q => !J.contains q, ?_⟩
  refine (List.perm_ext_iff_of_nodup ?_ List.nodup_range).2 fun q => ?_
  · rw [List.nodup_append]
    refine ⟨hJ, List.nodup_range.sublist List.filter_sublist, fun x hx y hy he => ?_⟩
    subst he
    rw [List.mem_filter] at hy
    have := hy.2
    simp [hx] at this
  · rw [List.mem_append, List.mem_filter, List.mem_range]
    constructor
    · rintro (h | h)
      · exact hl q h
      · exact h.1
    · intro h
      by_cases hq : q ∈ J
      · exact .inl hq
      · exact .inr ⟨h, by simp [hq]⟩
theorem map_getD {α : Type} (l : List α) (z : α) : (List.range l.length).map (fun q => l.getD q z) = l := by
  apply List.ext_getElem
  · simp
  · intro i h1 h2
    simp [List.getElem?_eq_getElem h2]
theorem born_inj {es : Array MapEntry} (hnd : (es.toList.map (·.born)).Nodup) {q i : Nat} (hq : q < es.size) (hi : i < es.size) (h : (es[q]!).born = (es[i]!).born) : q = i := by
  have h1 : (es.toList.map (·.born))[q]? = (es.toList.map (·.born))[i]? := by
    rw [List.getElem?_map, List.getElem?_map, Array.getElem?_toList, Array.getElem?_toList, Array.getElem?_eq_getElem hq, Array.getElem?_eq_getElem hi]
    rw [getElem!_pos es q hq, getElem!_pos es i hi] at h
    simp [h]
  exact (List.getElem?_inj (by simpa using hq) hnd).1 h1
section
variable {P : Program} {C : Ctx} {n : Nat}
/-- The round's end. -/
def rngK (D : SD) (base room : Nat) (r : AExit) (s : AS) : Option D.den :=
  match r with
  | .normal => match Nat.ble s.nx (base + room) with
    | true => rdD D base s
    | false => none
  | _ => none
/-- A loop over a map whose rounds take the key. -/
theorem range_wp {r10 r11 r12 : Array Oper} {i10 i11 i12 j k dm d25 d26 d27 d28 d29 d30 d9 tm : Nat} {rest : Code} {o0 oR oN oX oE oY oA : Oper} {kid eid : Nat}
    (e10 : r10.toList = [o0, oR]) (e11 : r11.toList = [oN, oX]) (e12 : r12.toList = [oE, oY, oA]) (hgs : ∀ o ∈ [o0, oR, oN, oX, oE, oY, oA], o.guard = none)
    (p0 : o0.op = .move (.tmp dm)) (q0 : o0.dst = some d25) (pR : oR.op = .range tm (.tmp d25)) (qR : oR.dst = some d26) (pN : oN.op = .next (.tmp d26) false) (qN : oN.dst = some d27) (pX : oX.op = .extract (.tmp d27) 0) (qX : oX.dst = some d28)
    (pE : oE.op = .entry (.tmp d26)) (qE : oE.dst = some d29) (pY : oY.op = .extract (.tmp d29) 0) (qY : oY.dst = some d30) (pA : oA.op = .assign (.tmp d30)) (qA : oA.dst = some d9)
    (hn : d25 < n ∧ d26 < n ∧ d27 < n ∧ d28 < n ∧ d29 < n ∧ d30 < n ∧ d9 < n) (hne : d26 ≠ d27 ∧ d26 ≠ d28) (htm : P.underlying tm = some (.map kid eid))
    {D : SD} {s : AS} {b room : Nat} {kt vt : Ty} {l : List (kt.den × vt.den)} (dat : List (kt.den × vt.den) → D.den) (hslot : s.slots dm = .mp b) (hmem : s.mem b = .map kt vt l)
    (hstart : rdD D (s.nx + 1) ⟨putD (putD s.slots (some d25) (.mp b)) (some d26) (.ptr s.nx []), (dropS (fun x => Nat.beq x b) s).mem, s.nx + 1⟩ = some (dat []))
    {ev : (R : Type) → AS → (AExit → AS → Option R) → Option R} (hrest : EvOK P C n rest ev)
    (hround : ∀ (done : List (kt.den × vt.den)) (x : kt.den × vt.den), (∃ r, (done ++ x :: r).Perm l) → ev D.den ⟨putD (putD (mkD D (s.nx + 1) (s.nx + 1 + D.rows) (dat done)).slots (some d30) (.val kt x.1)) (some d9) (.val kt x.1), (mkD D (s.nx + 1) (s.nx + 1 + D.rows) (dat done)).mem, s.nx + 1 + D.rows⟩ (rngK D (s.nx + 1) room) = some (dat (done ++ [x])))
    (hjunk : ∀ y, (mkD D (s.nx + 1) (s.nx + 1 + D.rows) y).slots d27 = .junk ∧ (mkD D (s.nx + 1) (s.nx + 1 + D.rows) y).slots d28 = .junk ∧ (mkD D (s.nx + 1) (s.nx + 1 + D.rows) y).slots d29 = .junk)
    (h26 : ∀ y, (mkD D (s.nx + 1) (s.nx + 1 + D.rows) y).slots d26 = .ptr s.nx []) (hroom : D.rows ≤ room)
    {U : Nat → Prop} {e : Env} {a : Act} {Q : Exit → Act → World → Prop} (hu : free U s.nx (s.nx + 1 + room)) (hf : Fit C n U e s a)
    (hq : ∀ π e' a', π.Perm l → Fit C n (taken U s.nx (s.nx + 1 + D.rows)) e' (keepS (fun x => Nat.beq x b) s.mem (mkD D (s.nx + 1) (s.nx + 1 + D.rows) (dat π))) a' → Ext e e' → Frm e s.mem e' (keepS (fun x => Nat.beq x b) s.mem (mkD D (s.nx + 1) (s.nx + 1 + D.rows) (dat π))).mem → Q .normal a' e'.w) :
    (Code.seq (.region i10 r10 false) (.block j (.loop (.seq (.region i11 r11 false) (.seq (.cond (.tmp d28) .skip (.exit j)) (.block k (.seq (.region i12 r12 false) rest))))))).wp P Q a e.w := by
  have hbl := hf.mem.blocks b
  rw [hmem] at hbl
  obtain ⟨kb, es, clock, hρb, hkb, hall, hborn, hnd⟩ := hbl
  have hva : a.eval (.tmp dm) = .map (some kb) := by
    have := hf.slots dm
    rw [hslot] at this
    obtain ⟨cs, h1, k', x', y', h2, rfl⟩ := this
    rw [hρb] at h2
    cases h2
    exact h1
  have hNU : ¬ U s.nx := hu s.nx (Nat.le_refl _) (by omega)
  have hf0 := hf.drop (fun x => Nat.beq x b)
  have hm0 : MR C e (dropS (fun x => Nat.beq x b) s).mem U := hf0.mem
  have hlen : l.length = es.size := by have := hall.length; simpa using this
  -- the iterator
  refine wp_seq (region_run (fun o ho => hgs o (by rw [e10] at ho; simp at ho ⊢; rcases ho with h | h <;> simp [h])) ?_)
  rw [e10]
  refine run_move (.inl p0) ?_
  rw [hva, q0]
  have hsz : (a.put (some d25) (.map (some kb))).tmps.size = n := by rw [size_put]; exact hf.size
  have hev25 : (a.put (some d25) (.map (some kb))).eval (.tmp d25) = .map (some kb) := by rw [eval_put (by rw [hf.size]; exact hn.1), if_pos rfl]
  have hrun : OpRun P oR (a.put (some d25) (.map (some kb))).eval e.w fun v w' => v = .pointer (some ⟨e.w.heap.size, 0, none⟩) ∧ w' = e.w.alloc (.mapIter (some kb) clock #[] clock) := by
    unfold OpRun
    simp only [execOp, pR, hev25]
    have := run_range_map e.w tm kid eid kb es clock htm hkb
    simp [this, Result.andThen]
  refine OpRun.mono hrun ?_
  rintro v w' ⟨rfl, rfl⟩
  rw [qR]
  show (Code.block j _).wp P Q ((a.put (some d25) (.map (some kb))).put (some d26) (.pointer (some ⟨e.w.heap.size, 0, none⟩))) (e.w.alloc (.mapIter (some kb) clock #[] clock))
  have hik : ∀ w : World, (w.alloc (.mapIter (some kb) clock #[] clock)).heap.size = w.heap.size + 1 := fun w => by simp
  obtain ⟨hmg, hxg⟩ := hm0.grow' (w' := e.w.alloc (.mapIter (some kb) clock #[] clock)) (.of ((Below.refl _ e.w).alloc (Nat.le_refl _) _))
  obtain ⟨hm1, hx1⟩ := hmg.name0 hNU (.var e.w.heap.size .bool)
  generalize he1 : ({ e with w := e.w.alloc (.mapIter (some kb) clock #[] clock) } : Env).name s.nx (.var e.w.heap.size .bool) = e1 at hm1 hx1
  have hw1 : e1.w = e.w.alloc (.mapIter (some kb) clock #[] clock) := by rw [← he1]; rfl
  have hi1 : e1.imm = e.imm := by rw [← he1]; rfl
  have hρ1 : e1.ρ s.nx = some (.var e.w.heap.size .bool) := by rw [← he1]; simp [Env.name]
  have hown1 : ∀ (w : World) (q : Nat), owns { e1 with w := w } (dropS (fun x => Nat.beq x b) s).mem q → owns e (dropS (fun x => Nat.beq x b) s).mem q := fun w q ho => by
    rw [← he1] at ho
    have := owns_name0 (w := w) hmg hNU ho
    exact this
  have hxe : Ext e e1 := hxg.trans hx1
  -- the frame
  have hva2 : RV e1 (.mp b) (.map (some kb)) := ⟨[.map (some kb)], rfl, kb, kt, vt, hxe.ρ _ _ hρb, rfl⟩
  have hptr : RV e1 (.ptr s.nx []) (.pointer (some ⟨e.w.heap.size, 0, none⟩)) := ⟨_, rfl, .var e.w.heap.size .bool, e.w.heap.size, .bool, 0, hρ1, rfl, ⟨rfl, trivial⟩, rfl⟩
  have hf1 : Fit C n (fun x => U x ∨ x = s.nx) e1 (putDst ⟨(dropS (fun x => Nat.beq x b) s).slots, (dropS (fun x => Nat.beq x b) s).mem, s.nx + 1⟩ (some d25) (.mp b)) (a.put (some d25) (.map (some kb))) := hf0.put (by simpa using hn.1) hxe hm1 hva2
  have hf2 : Fit C n (fun x => U x ∨ x = s.nx) e1 ⟨putD (putD s.slots (some d25) (.mp b)) (some d26) (.ptr s.nx []), (dropS (fun x => Nat.beq x b) s).mem, s.nx + 1⟩ ((a.put (some d25) (.map (some kb))).put (some d26) (.pointer (some ⟨e.w.heap.size, 0, none⟩))) := by
    exact hf1.put (d := some d26) (nx' := s.nx + 1) (by simpa using hn.2.1) (Ext.refl e1) hm1 hptr
  have hfreeB : free (fun x => U x ∨ x = s.nx) (s.nx + 1) (s.nx + 1 + D.rows) := fun x h1 h2 h3 => by
    rcases h3 with h3 | h3
    · exact hu x (by omega) (by omega) h3
    · omega
  obtain ⟨e2, hw2, hx2, hfr2, hf3⟩ := refit hf2 (U0 := fun x => U x ∨ x = s.nx) (fun x hx => .inl hx) (hm1.nx) hfreeB (Ext.refl e1) (Frm.refl e1 _) hstart (s.nx + 1 + D.rows)
  -- what stays
  have hikn : ∀ q, owns e (dropS (fun x => Nat.beq x b) s).mem q → q < e.w.heap.size ∧ q ≠ kb := fun q ho => by
    refine ⟨(hm0.own q ho).1, fun e' => ?_⟩
    obtain ⟨c, bt, h1, h2, h3⟩ := ho
    subst e'
    have hcb : c ≠ b := fun e => by subst e; simp [dropS] at h1; exact h1
    have hc1 : live (s.mem c) := by
      have : (dropS (fun x => Nat.beq x b) s).mem c = s.mem c := by
        have : Nat.beq c b = false := by
          cases hb : Nat.beq c b with
          | true => exact absurd (Nat.eq_of_beq_eq_true hb) hcb
          | false => rfl
        simp [dropS, this]
      rwa [this] at h1
    exact hcb (hf.mem.inj c b bt _ q hc1 (by rw [hmem]; trivial) h2 hρb h3 rfl)
  have hkblt : kb < e.w.heap.size := (Array.getElem?_eq_some_iff.1 hkb).1
  -- the loop
  refine wp_block (LW.loop ?_)
  have main : ∀ (m : Nat) (I : List Nat) (seen : Array Nat) (c0 : Nat) (ec : Env) (ac : Act), l.length - I.length = m → I.Nodup → (∀ q ∈ I, q < l.length) → seen.toList = I.map (fun q => (es[q]!).born) → clock ≤ c0 →
      Ext { e1 with w := setBlock e1.w e.w.heap.size (.mapIter (some kb) clock seen c0) } ec → Frm { e1 with w := setBlock e1.w e.w.heap.size (.mapIter (some kb) clock seen c0) } (dropS (fun x => Nat.beq x b) s).mem ec (mkD D (s.nx + 1) (s.nx + 1 + D.rows) (dat (I.map fun q => l.getD q (kt.zero, vt.zero)))).mem →
      Fit C n (taken (fun x => U x ∨ x = s.nx) (s.nx + 1) (s.nx + 1 + D.rows)) ec (mkD D (s.nx + 1) (s.nx + 1 + D.rows) (dat (I.map fun q => l.getD q (kt.zero, vt.zero)))) ac →
      LW P (.seq (.region i11 r11 false) (.seq (.cond (.tmp d28) .skip (.exit j)) (.block k (.seq (.region i12 r12 false) rest)))) (Exit.inBlock j Q) ac ec.w := by
    intro m
    induction m using Nat.strongRecOn with
    | _ m ih =>
    intro I seen c0 ec ac hm hI hIl hseen hc0 hxc hfrc hfc
    have hszit : (setBlock e1.w e.w.heap.size (.mapIter (some kb) clock seen c0)).heap.size = e.w.heap.size + 1 := by rw [size_setBlock, hw1]; simp
    have hnoI : ∀ q, owns { e1 with w := setBlock e1.w e.w.heap.size (.mapIter (some kb) clock seen c0) } (dropS (fun x => Nat.beq x b) s).mem q → q < e.w.heap.size ∧ q ≠ kb := fun q ho => hikn q (hown1 _ q ho)
    have hheap : ∀ q, q ≤ e.w.heap.size → ¬ owns e (dropS (fun x => Nat.beq x b) s).mem q → ec.w.heap[q]? = (setBlock e1.w e.w.heap.size (.mapIter (some kb) clock seen c0)).heap[q]? := fun q hq hno => hfrc.heap q (by show q < (setBlock e1.w _ _).heap.size; rw [hszit]; omega) (fun ho => hno (hown1 _ q ho))
    have hikc : ec.w.heap[e.w.heap.size]? = some (.mapIter (some kb) clock seen c0) := by
      rw [hheap _ (Nat.le_refl _) (fun ho => absurd (hikn _ ho).1 (Nat.lt_irrefl _)), heap_setBlock, if_pos rfl, if_pos (by rw [hw1]; simp)]
    have hkbc : ec.w.heap[kb]? = some (.map es clock) := by
      rw [hheap _ (Nat.le_of_lt hkblt) (fun ho => (hikn _ ho).2 rfl), heap_setBlock, if_neg (by omega), hw1]
      exact (Below.heap_alloc _ _ _ hkblt).trans hkb
    have hszc : e.w.heap.size < ec.w.heap.size := (Array.getElem?_eq_some_iff.1 hikc).1
    have hnoc : ¬ owns ec (mkD D (s.nx + 1) (s.nx + 1 + D.rows) (dat (I.map fun q => l.getD q (kt.zero, vt.zero)))).mem e.w.heap.size := fun ho => by
      rcases hfrc.own _ ho with h | h
      · exact absurd (hnoI _ h).1 (Nat.lt_irrefl _)
      · have h : (setBlock e1.w e.w.heap.size (.mapIter (some kb) clock seen c0)).heap.size ≤ e.w.heap.size := h
        rw [hszit] at h; omega
    have hnic : ¬ ec.imm e.w.heap.size := fun hi => by
      rcases hfrc.imm _ hi with h | h | h
      · have h : e1.imm e.w.heap.size := h
        rw [hi1] at h
        exact absurd (hm0.immLt _ h) (Nat.lt_irrefl _)
      · exact absurd (hnoI _ h).1 (Nat.lt_irrefl _)
      · have h : (setBlock e1.w e.w.heap.size (.mapIter (some kb) clock seen c0)).heap.size ≤ e.w.heap.size := h
        rw [hszit] at h; omega
    have hp26 : ac.eval (.tmp d26) = .pointer (some ⟨e.w.heap.size, 0, none⟩) := by
      have := hfc.slots d26
      rw [h26] at this
      obtain ⟨cs, hv, bt, k', u, o, g1, g2, g3, rfl⟩ := this
      have g4 : ec.ρ s.nx = some (.var e.w.heap.size .bool) := hxc.ρ _ _ hρ1
      rw [g4] at g1
      cases g1
      cases g2
      obtain ⟨g5, _⟩ := g3
      simp only [tyAt, Option.some.injEq, Prod.mk.injEq] at g5
      rw [show ac.eval (.tmp d26) = ac.tmps.getD d26 undef from rfl, hv, ← g5.2]
      rfl
    have hxec : Ext e ec := by
      refine ⟨fun c bt hc => hxc.ρ c bt (hxe.ρ c bt hc), fun q hq => ?_⟩
      have h1 : ({ e1 with w := setBlock e1.w e.w.heap.size (.mapIter (some kb) clock seen c0) } : Env).imm q := by show e1.imm q; rw [hi1]; exact hq
      obtain ⟨h2, h3⟩ := hxc.imm q h1
      refine ⟨h2, h3.trans ?_⟩
      have hlt := hm0.immLt q hq
      rw [heap_setBlock, if_neg (by omega), hw1]
      exact Below.heap_alloc _ _ _ hlt
    have hszac : ac.tmps.size = n := hfc.size
    refine LW.round (wp_seq (region_run (fun o ho => hgs o (by rw [e11] at ho; simp at ho ⊢; rcases ho with h | h <;> simp [h])) ?_))
    rw [e11]
    have hborn' : ∀ x ∈ es.toList, x.born < clock := fun x hx => hborn x (by simpa using hx)
    rcases run_next_at (P := P) ec.w oN.type e.w.heap.size kb clock c0 seen es clock hikc hkbc hborn' hc0 with ⟨hnone, hrunN⟩ | ⟨en, hen, wn, hwn, hrunN⟩
    · -- nothing is left
      have hrN : OpRun P oN ac.eval ec.w fun v w' => v = .tuple #[.bool false] ∧ w' = ec.w := by
        unfold OpRun
        simp [execOp, pN, hp26, hrunN, Result.andThen]
      refine OpRun.mono hrN ?_
      rintro v w' ⟨rfl, rfl⟩
      rw [qN]
      have h27 : (ac.put (some d27) (.tuple #[.bool false])).eval (.tmp d27) = .tuple #[.bool false] := by rw [eval_put (by rw [hszac]; exact hn.2.2.1), if_pos rfl]
      refine run_extract pX h27 (v := .bool false) (by simp) ?_
      rw [qX]
      have h28 : ((ac.put (some d27) (.tuple #[.bool false])).put (some d28) (.bool false)).eval (.tmp d28) = .bool false := by rw [eval_put (by rw [size_put, hszac]; exact hn.2.2.2.1), if_pos rfl]
      refine wp_seq (wp_cond_false h28 (wp_exit ?_))
      show Exit.inBlock j Q (.exit j) _ _
      simp only [Exit.inBlock, if_true]
      have hperm : (I.map fun q => l.getD q (kt.zero, vt.zero)).Perm l := by
        have h1 : I.Perm (List.range l.length) := by
          refine (List.perm_ext_iff_of_nodup hI List.nodup_range).2 fun q => ?_
          rw [List.mem_range]
          refine ⟨hIl q, fun hq => ?_⟩
          have hqs : q < es.size := by omega
          have h2 : seen.contains (es[q]!).born = true := by
            cases hc : seen.contains (es[q]!).born with
            | true => rfl
            | false =>
              exfalso
              have hm1 : es[q]! ∈ (leftOf es seen).toList := by
                unfold leftOf
                rw [Array.mem_toList_iff, Array.mem_filter]
                exact ⟨by rw [getElem!_pos es q hqs]; exact Array.getElem_mem hqs, by rw [hc]; rfl⟩
              have : (leftOf es seen).toList = [] := by
                rw [← List.length_eq_zero_iff, Array.length_toList]; exact hnone
              rw [this] at hm1
              exact absurd hm1 (by simp)
          have h3 : (es[q]!).born ∈ seen.toList := by
            rw [Array.contains_iff_mem] at h2
            exact Array.mem_toList_iff.2 h2
          rw [hseen, List.mem_map] at h3
          obtain ⟨q', hq', he⟩ := h3
          have := born_inj hnd (by have := hIl q' hq'; omega) hqs he
          subst this
          exact hq'
        have h2 := h1.map fun q => l.getD q (kt.zero, vt.zero)
        rwa [map_getD] at h2
      have hfj := (hfc.junk (hjunk _).1 (.tuple #[.bool false])).junk (hjunk _).2.1 (.bool false)
      have hfrm : Frm e (dropS (fun x => Nat.beq x b) s).mem ec (mkD D (s.nx + 1) (s.nx + 1 + D.rows) (dat (I.map fun q => l.getD q (kt.zero, vt.zero)))).mem := by
        refine ⟨fun q hq hno => ?_, by omega, fun q hq => ?_, fun q hq => ?_⟩
        · rw [hheap q (Nat.le_of_lt hq) hno, heap_setBlock, if_neg (by omega), hw1]
          exact Below.heap_alloc _ _ _ hq
        · rcases hfrc.own _ hq with h | h
          · exact .inl (hown1 _ _ h)
          · have h : (setBlock e1.w e.w.heap.size (.mapIter (some kb) clock seen c0)).heap.size ≤ q := h
            rw [hszit] at h; exact .inr (by omega)
        · rcases hfrc.imm _ hq with h | h | h
          · have h : e1.imm q := h
            rw [hi1] at h; exact .inl h
          · exact .inr (.inl (hown1 _ _ h))
          · have h : (setBlock e1.w e.w.heap.size (.mapIter (some kb) clock seen c0)).heap.size ≤ q := h
            rw [hszit] at h; exact .inr (.inr (by omega))
      obtain ⟨k1, k2⟩ := hf.keep (fun x => Nat.beq x b) hxec hfj hfrm
      exact hq _ ec _ hperm (k1.widen fun x hx => by
        rcases hx with (hx | hx) | hx
        · exact .inl hx
        · exact .inr (by omega)
        · exact .inr (by omega)) hxec k2
    · -- an entry has come
      have hmem2 : en ∈ es.toList ∧ seen.contains en.born = false := by
        unfold leftOf at hen
        rw [Array.mem_toList_iff, Array.mem_filter] at hen
        exact ⟨Array.mem_toList_iff.2 hen.1, by simpa using hen.2⟩
      obtain ⟨i, hi⟩ := List.getElem?_of_mem hmem2.1
      have his : i < es.size := by simpa using (List.getElem?_eq_some_iff.1 hi).1
      have hei : es[i]! = en := by
        rw [getElem!_pos es i his]
        rw [Array.getElem?_toList, Array.getElem?_eq_getElem his] at hi
        exact Option.some.inj hi
      have hil : i < l.length := by omega
      have hiI : i ∉ I := fun hc => by
        have h1 : en.born ∈ seen.toList := by rw [hseen, List.mem_map]; exact ⟨i, hc, by rw [hei]⟩
        have h2 : seen.contains en.born = true := by rw [Array.contains_iff_mem]; exact Array.mem_toList_iff.1 h1
        rw [hmem2.2] at h2; cases h2
      have hI2 : (I ++ [i]).Nodup := by
        rw [List.nodup_append]
        exact ⟨hI, by simp, fun x hx y hy he => by simp at hy; subst hy; subst he; exact hiI hx⟩
      have hIl2 : ∀ q ∈ I ++ [i], q < l.length := fun q hq => by
        rcases List.mem_append.1 hq with h | h
        · exact hIl q h
        · simp at h; omega
      obtain ⟨J, hJ⟩ := ext_perm hI2 hIl2
      have hJl : I.length + 1 ≤ l.length := by
        have := hJ.length_eq
        simp at this
        omega
      have hxg2 : l.getD i (kt.zero, vt.zero) = l[i] := by rw [List.getD_eq_getElem?_getD, List.getElem?_eq_getElem hil]; rfl
      have hdone : (I ++ [i]).map (fun q => l.getD q (kt.zero, vt.zero)) = I.map (fun q => l.getD q (kt.zero, vt.zero)) ++ [l.getD i (kt.zero, vt.zero)] := by simp
      have hpl : ∃ r, (I.map (fun q => l.getD q (kt.zero, vt.zero)) ++ l.getD i (kt.zero, vt.zero) :: r).Perm l := by
        refine ⟨J.map fun q => l.getD q (kt.zero, vt.zero), ?_⟩
        have h2 := hJ.map fun q => l.getD q (kt.zero, vt.zero)
        rw [map_getD] at h2
        simpa using h2
      obtain ⟨en', hen', hre⟩ := hall.get i (l.getD i (kt.zero, vt.zero)) (by rw [hxg2]; exact List.getElem?_eq_getElem hil)
      rw [hi] at hen'
      cases hen'
      obtain ⟨⟨ck, hkey, hrk⟩, _⟩ := hre
      -- the step
      have hrN : OpRun P oN ac.eval ec.w fun v w' => v = .tuple #[.bool true, en.key, en.val] ∧ w' = setBlock wn e.w.heap.size (.mapIter (some kb) clock (seen.push en.born) clock) := by
        unfold OpRun
        simp [execOp, pN, hp26, hrunN, Result.andThen]
      refine OpRun.mono hrN ?_
      rintro v w' ⟨rfl, rfl⟩
      rw [qN]
      have hwh : wn.heap = ec.w.heap := by rcases hwn with rfl | rfl <;> rfl
      have hwf : wn.os = ec.w.os ∧ wn.tape = ec.w.tape ∧ wn.output = ec.w.output := by rcases hwn with rfl | rfl <;> exact ⟨rfl, rfl, rfl⟩
      obtain ⟨hmp, hxp⟩ := hfc.mem.poke (k := e.w.heap.size) (w' := setBlock wn e.w.heap.size (.mapIter (some kb) clock (seen.push en.born) clock)) hnoc hnic hm0.below.size hwf.1 hwf.2.1 hwf.2.2 (by rw [size_setBlock, hwh]) (fun q hq => by rw [heap_setBlock, if_neg hq, hwh])
      generalize hec' : ({ ec with w := setBlock wn e.w.heap.size (.mapIter (some kb) clock (seen.push en.born) clock) } : Env) = ec' at hmp hxp
      have hwc' : setBlock wn e.w.heap.size (.mapIter (some kb) clock (seen.push en.born) clock) = ec'.w := by rw [← hec']
      rw [hwc']
      have hfc' : Fit C n (taken (fun x => U x ∨ x = s.nx) (s.nx + 1) (s.nx + 1 + D.rows)) ec' (mkD D (s.nx + 1) (s.nx + 1 + D.rows) (dat (I.map fun q => l.getD q (kt.zero, vt.zero)))) ac := ⟨hfc.defers, hfc.size, fun q => (hfc.slots q).ext hxp, hmp⟩
      have h27 : (ac.put (some d27) (.tuple #[.bool true, en.key, en.val])).eval (.tmp d27) = .tuple #[.bool true, en.key, en.val] := by rw [eval_put (by rw [hszac]; exact hn.2.2.1), if_pos rfl]
      refine run_extract pX h27 (v := .bool true) (by simp) ?_
      rw [qX]
      have h28 : ((ac.put (some d27) (.tuple #[.bool true, en.key, en.val])).put (some d28) (.bool true)).eval (.tmp d28) = .bool true := by rw [eval_put (by rw [size_put, hszac]; exact hn.2.2.2.1), if_pos rfl]
      have hp26' : ((ac.put (some d27) (.tuple #[.bool true, en.key, en.val])).put (some d28) (.bool true)).eval (.tmp d26) = .pointer (some ⟨e.w.heap.size, 0, none⟩) := by
        rw [eval_put (by rw [size_put, hszac]; exact hn.2.2.2.1), if_neg hne.2, eval_put (by rw [hszac]; exact hn.2.2.1), if_neg hne.1, hp26]
      generalize ha3 : (ac.put (some d27) (.tuple #[.bool true, en.key, en.val])).put (some d28) (.bool true) = a3 at h28 hp26'
      have hf3' : Fit C n (taken (fun x => U x ∨ x = s.nx) (s.nx + 1) (s.nx + 1 + D.rows)) ec' (mkD D (s.nx + 1) (s.nx + 1 + D.rows) (dat (I.map fun q => l.getD q (kt.zero, vt.zero)))) a3 := by
        rw [← ha3]
        exact (hfc'.junk (hjunk _).1 _).junk (hjunk _).2.1 _
      have hsz3 : a3.tmps.size = n := hf3'.size
      show (Code.seq (.cond (.tmp d28) .skip (.exit j)) _).wp P _ _ _
      refine wp_seq (wp_cond_true h28 (wp_skip ?_))
      refine wp_block (wp_seq (region_run (fun o ho => hgs o (by rw [e12] at ho; simp at ho ⊢; rcases ho with h | h | h <;> simp [h])) ?_))
      rw [e12]
      have hikc' : ec'.w.heap[e.w.heap.size]? = some (.mapIter (some kb) clock (seen.push en.born) clock) := by rw [← hwc', heap_setBlock, if_pos rfl, if_pos (by rw [hwh]; exact hszc)]
      have hkbc' : ec'.w.heap[kb]? = some (.map es clock) := by rw [← hwc', heap_setBlock, if_neg (by omega), hwh]; exact hkbc
      have hrunE := run_entry_at (P := P) ec'.w e.w.heap.size kb clock seen es clock en hikc' hkbc' hmem2.1 hnd
      have hrE : OpRun P oE a3.eval ec'.w fun v w' => v = .tuple #[en.key, en.val] ∧ w' = ec'.w := by
        unfold OpRun
        simp [execOp, pE, hp26', hrunE, Result.andThen]
      refine OpRun.mono hrE ?_
      rintro v w' ⟨rfl, rfl⟩
      rw [qE]
      have h29 : (a3.put (some d29) (.tuple #[en.key, en.val])).eval (.tmp d29) = .tuple #[en.key, en.val] := by rw [eval_put (by rw [hsz3]; exact hn.2.2.2.2.1), if_pos rfl]
      refine run_extract pY h29 (v := en.key) (by simp) ?_
      rw [qY]
      refine run_move (.inr pA) ?_
      rw [qA]
      have h30 : ((a3.put (some d29) (.tuple #[en.key, en.val])).put (some d30) en.key).eval (.tmp d30) = en.key := by rw [eval_put (by rw [size_put, hsz3]; exact hn.2.2.2.2.2.1), if_pos rfl]
      rw [h30]
      have hrv : RV ec' (.val kt (l.getD i (kt.zero, vt.zero)).1) en.key := ⟨ck, hkey, Rd.ext (hxec.trans hxp) hrk⟩
      have hf4 := hf3'.junk (hjunk _).2.2 (.tuple #[en.key, en.val])
      have hf5 := hf4.put (d := some d30) (nx' := s.nx + 1 + D.rows) (by simpa using hn.2.2.2.2.2.1) (Ext.refl ec') hf4.mem hrv
      have hf6 := hf5.put (d := some d9) (nx' := s.nx + 1 + D.rows) (by simpa using hn.2.2.2.2.2.2) (Ext.refl ec') hf5.mem hrv
      obtain ⟨r', s', ht, hk⟩ := hrest _ _ _ _ (hround _ _ hpl)
      unfold rngK at hk
      split at hk
      · split at hk
        · rename_i hble
          have hble := Nat.le_of_ble_eq_true hble
          have hle1 : s.nx + 1 + D.rows ≤ s'.nx := ht.1
          have hfree2 : free (taken (fun x => U x ∨ x = s.nx) (s.nx + 1) (s.nx + 1 + D.rows)) (s.nx + 1 + D.rows) s'.nx := fun x h1 h2 h3 => by
            rcases h3 with (h3 | h3) | h3
            · exact hu x (by omega) (by omega) h3
            · omega
            · omega
          refine ht.2 _ ec' _ _ hfree2 hf6 fun e3 a6 q1 q2 q3 => ?_
          show LW P _ (Exit.inBlock j Q) a6 e3.w
          have hxit : Ext { e1 with w := setBlock e1.w e.w.heap.size (.mapIter (some kb) clock (seen.push en.born) clock) } ec' := by
            refine ⟨fun c bt hc => hxp.ρ c bt (hxc.ρ c bt hc), fun q hq => ?_⟩
            have h1 := hxc.imm q hq
            have h2 := hxp.imm q h1.1
            refine ⟨h2.1, h2.2.trans (h1.2.trans ?_)⟩
            have hlt : q < e.w.heap.size := by
              have hq : e1.imm q := hq
              rw [hi1] at hq
              exact hm0.immLt q hq
            rw [heap_setBlock, heap_setBlock, if_neg (by omega), if_neg (by omega)]
          have hszit' : (setBlock e1.w e.w.heap.size (.mapIter (some kb) clock (seen.push en.born) clock)).heap.size = e.w.heap.size + 1 := by rw [size_setBlock, hw1]; simp
          have hfit : Frm { e1 with w := setBlock e1.w e.w.heap.size (.mapIter (some kb) clock (seen.push en.born) clock) } (dropS (fun x => Nat.beq x b) s).mem ec' (mkD D (s.nx + 1) (s.nx + 1 + D.rows) (dat (I.map fun q => l.getD q (kt.zero, vt.zero)))).mem := by
            refine ⟨fun q hq hno => ?_, ?_, fun q hq => ?_, fun q hq => ?_⟩
            · have hq : q < (setBlock e1.w e.w.heap.size (.mapIter (some kb) clock (seen.push en.born) clock)).heap.size := hq
              rw [hszit'] at hq
              by_cases hqk : q = e.w.heap.size
              · subst hqk
                rw [hikc']
                show _ = (setBlock e1.w _ _).heap[_]?
                rw [heap_setBlock, if_pos rfl, if_pos (by rw [hw1]; simp)]
              · show ec'.w.heap[q]? = (setBlock e1.w _ _).heap[q]?
                rw [← hwc', heap_setBlock, if_neg hqk, hwh, heap_setBlock, if_neg hqk]
                have := hfrc.heap q (by show q < (setBlock e1.w _ _).heap.size; rw [hszit]; omega) (fun ho => hno ho)
                rw [this]
                show (setBlock e1.w _ _).heap[q]? = _
                rw [heap_setBlock, if_neg hqk]
            · show (setBlock e1.w _ _).heap.size ≤ _
              rw [hszit', ← hwc', size_setBlock, hwh]; omega
            · have hq' : owns ec (mkD D (s.nx + 1) (s.nx + 1 + D.rows) (dat (I.map fun q => l.getD q (kt.zero, vt.zero)))).mem q := by rw [← hec'] at hq; exact hq
              rcases hfrc.own _ hq' with h | h
              · exact .inl h
              · have h : (setBlock e1.w e.w.heap.size (.mapIter (some kb) clock seen c0)).heap.size ≤ q := h
                refine .inr ?_
                show (setBlock e1.w _ _).heap.size ≤ q
                rw [hszit']; rw [hszit] at h; exact h
            · have hq' : ec.imm q := by rw [← hec'] at hq; exact hq
              rcases hfrc.imm _ hq' with h | h | h
              · exact .inl h
              · exact .inr (.inl h)
              · have h : (setBlock e1.w e.w.heap.size (.mapIter (some kb) clock seen c0)).heap.size ≤ q := h
                refine .inr (.inr ?_)
                show (setBlock e1.w _ _).heap.size ≤ q
                rw [hszit']; rw [hszit] at h; exact h
          obtain ⟨e4, p1, p2, p3, p4⟩ := refit q1 (e0 := { e1 with w := setBlock e1.w e.w.heap.size (.mapIter (some kb) clock (seen.push en.born) clock) }) (U0 := fun x => U x ∨ x = s.nx) (fun x hx => by
            rcases hx with (hx | hx) | hx
            · exact .inl hx
            · exact .inr hx.1
            · have : s.nx + 1 + D.rows ≤ x := hx.1
              exact .inr (by omega)) (fun c bt hc => hm1.nx c bt hc) hfreeB (hxit.trans q2) (hfit.trans q3) hk (s.nx + 1 + D.rows)
          rw [← p1]
          rw [← hdone] at p3 p4
          exact ih (l.length - (I ++ [i]).length) (by rw [List.length_append, List.length_singleton]; omega) (I ++ [i]) (seen.push en.born) clock e4 a6 rfl hI2 hIl2 (by simp [hseen, hei]) (Nat.le_refl _) p2 p3 p4
        · cases hk
      · cases hk
  have hset : setBlock e1.w e.w.heap.size (.mapIter (some kb) clock #[] clock) = e1.w := by
    rw [hw1]
    have hw : ∀ (w : World) (o : Obj), setBlock (w.alloc o) w.heap.size o = w.alloc o := fun w o => by
      unfold setBlock World.alloc
      congr 1
      apply Array.ext_getElem?
      intro q
      rw [Array.getElem?_setIfInBounds]
      by_cases hq : w.heap.size = q
      · subst hq; simp
      · rw [if_neg hq]
    exact hw _ _
  have hself : ({ e1 with w := setBlock e1.w e.w.heap.size (.mapIter (some kb) clock #[] clock) } : Env) = e1 := by rw [hset]
  have hstep := main l.length [] #[] clock e2 ((a.put (some d25) (.map (some kb))).put (some d26) (.pointer (some ⟨e.w.heap.size, 0, none⟩))) (by simp) List.nodup_nil (by simp) rfl (Nat.le_refl _) (by rw [hself]; exact hx2) (by rw [hself]; exact hfr2) hf3
  rw [hw2, hw1] at hstep
  exact hstep
end
end Go.Co
namespace Go.Co
open Go.RowKit
/-! ### Pieces by their first region's number -/
def hits (id : Nat) : Code → List Code
  | .seq a b => match Nat.beq (firstReg a) id with | true => [.seq a b] | false => hits id a ++ hits id b
  | .cond _ x y => hits id x ++ hits id y
  | .block _ b => hits id b
  | .loop b => hits id b
  | _ => []
def regOps (id : Nat) : Code → Array Oper
  | .region i ops _ => match Nat.beq i id with | true => ops | false => #[]
  | .seq a b => regOps id a ++ regOps id b
  | .cond _ x y => regOps id x ++ regOps id y
  | .block _ b => regOps id b
  | .loop b => regOps id b
  | _ => #[]
theorem SpOK.hits {P : Program} {C : Ctx} {n id : Nat} {E : EE} {h : (R : Type) → AS → (AS → Option R) → Option R} (hE : E.sp = fun i => match Nat.beq i id with | true => some h | false => Option.none) : ∀ c : Code, (∀ p ∈ hits id c, ∀ R s K y, h R s K = some y → ∃ s', Tri P C n p s .normal s' ∧ K s' = some y) → SpOK P C n E c := by
  intro c
  induction c with
  | seq a b iha ihb =>
    intro hp
    cases hb : Nat.beq (firstReg a) id with
    | true =>
      have e1 : E.sp (firstReg a) = some h := by rw [hE]; simp only [hb]
      unfold SpOK
      rw [e1]
      exact hp _ (by simp [Go.Co.hits, hb])
    | false =>
      have e1 : E.sp (firstReg a) = Option.none := by rw [hE]; simp only [hb]
      unfold SpOK
      rw [e1]
      exact ⟨iha fun p q => hp p (by simp [Go.Co.hits, hb, q]), ihb fun p q => hp p (by simp [Go.Co.hits, hb, q])⟩
  | cond c x y ihx ihy => intro hp; exact ⟨ihx fun p q => hp p (by simp [Go.Co.hits, q]), ihy fun p q => hp p (by simp [Go.Co.hits, q])⟩
  | block id b ih => intro hp; exact ih hp
  | loop b ih => intro hp; exact ih hp
  | _ => intro _; trivial
end Go.Co
end

section
namespace Go.Co.N
open Go Go.Co Go.Proofs Go.Sort

/-- Those entries' names that another map hasn't. -/
def pickB22 (lw : List (Int × Int)) (i : Int) (l : List (Int × Int)) : List Reveal := (l.filter fun e => decide ((mget lw e.1).getD 0 = 0)).map fun e => ⟨e.1, i⟩
/-- What the piece finds, holds in its rounds, leaves. -/
def bornI : SD := ⟨[(3, .row (.st .reveal)), (4, .mp 2), (5, .hole .i), (7, .mp 5), (8, .hole .i), (14, .hole (.list (.st .tree))), (15, .hole .i), (16, .hole .i)], [], [(2, .i, .i), (5, .i, .i)]⟩
def bornD : SD := ⟨[(3, .row (.st .reveal)), (4, .mp 2), (5, .hole .i), (7, .mp 5), (8, .hole .i), (14, .hole (.list (.st .tree))), (15, .hole .i), (16, .hole .i), (26, .ptr 29 [])], [], [(2, .i, .i)]⟩
def bornO : SD := ⟨[(3, .row (.st .reveal)), (4, .omp .i .i), (14, .hole (.list (.st .tree))), (15, .hole .i), (16, .hole .i)], [], []⟩
def rngO (room : Nat) (r : AExit) (s : AS) : Option bornO.den :=
  match r with
  | .normal => match Nat.ble s.nx room with
    | true => rdD bornO 28 s
    | false => none
  | _ => none
theorem rngO_some {room : Nat} {r : AExit} {s : AS} {x : bornO.den} (h : rngO room r s = some x) : r = .normal ∧ s.nx ≤ room ∧ rdD bornO 28 s = some x := by
  unfold rngO at h
  split at h
  · split at h
    · rename_i hb
      exact ⟨rfl, Nat.le_of_ble_eq_true hb, h⟩
    · cases h
  · cases h
def bornF (y : bornI.den) : Option bornO.den :=
  bif decide (y.1.2.2.2.2.1 = ((y.1.1 : List Reveal).length : Int)) && decide (((y.1.1 : List Reveal).length + (y.2.2.2.1 : List (Int × Int)).length) * 16 ≤ 140737488355328) then
    some (((y.1.1 : List Reveal) ++ sortL cfV (pickB22 y.2.2.1 y.1.2.2.1 y.2.2.2.1), y.2.2.2.1, y.1.2.2.2.2.2.1, y.1.2.2.2.2.2.2.1, y.1.2.2.2.2.2.2.2.1, ()), (), ()) else none
def bornH (R : Type) (s : AS) (K : AS → Option R) : Option R :=
  match Nat.beq s.nx 28, rdD bornI 28 s with
  | true, some y => Option.bind (bornF y) fun z => K (mkD bornO 28 60 z)
  | _, _ => none
theorem bornH_some {R : Type} {s : AS} {K : AS → Option R} {r : R} (h : bornH R s K = some r) : s.nx = 28 ∧ ∃ (xs : List Reveal) (i fr : Int) (ts : List Tree) (len idx : Int) (lw ln : List (Int × Int)), rdD bornI 28 s = some ((xs, (), i, (), fr, ts, len, idx, ()), (), lw, ln, ()) ∧ fr = (xs.length : Int) ∧ (xs.length + ln.length) * 16 ≤ 140737488355328 ∧
    K (mkD bornO 28 60 ((xs ++ sortL cfV (pickB22 lw i ln), ln, ts, len, idx, ()), (), ())) = some r := by
  unfold bornH at h
  split at h
  · rename_i y hb hy
    refine ⟨Nat.eq_of_beq_eq_true hb, ?_⟩
    obtain ⟨⟨xs, _, i, _, fr, ts, len, idx, _⟩, _, lw, ln, _⟩ := y
    obtain ⟨z, hz, hk⟩ := Option.bind_eq_some_iff.1 h
    unfold bornF at hz
    cases hc : (decide (fr = ((xs : List Reveal).length : Int)) && decide (((xs : List Reveal).length + (ln : List (Int × Int)).length) * 16 ≤ 140737488355328)) with
    | false => simp only [hc, cond_false] at hz; cases hz
    | true =>
      simp only [hc, cond_true, Option.some.injEq] at hz
      subst hz
      simp only [Bool.and_eq_true, decide_eq_true_eq] at hc
      exact ⟨xs, i, fr, ts, len, idx, lw, ln, hy, hc.1, hc.2, hk⟩
  · cases h
def born_round (lw : List (Int × Int)) (i fr : Int) (ts : List Tree) (len idx : Int) (xs : List Reveal) (x : Int × Int) : Option bornD.den :=
  bif decide ((mget lw x.1).getD 0 = 0) then bif decide ((xs.length + 1) * 16 ≤ 140737488355328) then some ((List.append xs [⟨x.1, i⟩], (), i, (), fr, ts, len, idx, (), ()), (), lw, ()) else none
  else some ((xs, (), i, (), fr, ts, len, idx, (), ()), (), lw, ())
def born_end (ln : List (Int × Int)) (fr : Int) (ts : List Tree) (len idx : Int) (xs : List Reveal) : Option bornO.den :=
  bif decide (0 ≤ fr) && decide (fr ≤ (xs.length : Int)) && decide ((xs.length : Int) ≤ (xs.length : Int)) then
    bif decide (0 ≤ fr) && decide (fr ≤ (xs.length : Int)) && decide ((xs.length : Int) ≤ (xs.length : Int)) then
      some ((List.append (List.take fr.toNat xs) (List.append (sortL cfV (cutL fr (xs.length : Int) xs)) (List.drop (xs.length : Int).toNat xs)), ln, ts, len, idx, ()), (), ())
    else none
  else none
theorem pick_len (lw : List (Int × Int)) (i : Int) (l : List (Int × Int)) : (pickB22 lw i l).length ≤ l.length := by
  unfold pickB22
  rw [List.length_map]
  exact List.length_filter_le _ _
theorem born_round_ok {lw : List (Int × Int)} {i fr : Int} {ts : List Tree} {len idx : Int} {xs : List Reveal} {ln done : List (Int × Int)} {x : Int × Int} (hp : ∃ r, (done ++ x :: r).Perm ln) (hb : (xs.length + ln.length) * 16 ≤ 140737488355328) :
    born_round lw i fr ts len idx (xs ++ pickB22 lw i done) x = some ((xs ++ pickB22 lw i (done ++ [x]), (), i, (), fr, ts, len, idx, (), ()), (), lw, ()) := by
  obtain ⟨r, hp⟩ := hp
  have hl := hp.length_eq
  simp only [List.length_append, List.length_cons] at hl
  have h1 := pick_len lw i done
  have h2 : decide (((xs ++ pickB22 lw i done).length + 1) * 16 ≤ 140737488355328) = true := decide_eq_true (by rw [List.length_append]; omega)
  unfold born_round
  rw [h2]
  have hpick : pickB22 lw i (done ++ [x]) = pickB22 lw i done ++ bif decide ((mget lw x.1).getD 0 = 0) then [⟨x.1, i⟩] else [] := by
    unfold pickB22
    rw [List.filter_append, List.map_append]
    congr 1
    by_cases hc : (mget lw x.1).getD 0 = 0
    · simp [hc]
    · simp [hc]
  rw [hpick]
  cases decide ((mget lw x.1).getD 0 = 0) with
  | true =>
    simp only [cond_true]
    rw [← List.append_assoc]
    rfl
  | false =>
    simp only [cond_false, List.append_nil]
    rfl
theorem sort_pick {lw : List (Int × Int)} {i : Int} {π ln : List (Int × Int)} (h : π.Perm ln) : sortL cfV (pickB22 lw i π) = sortL cfV (pickB22 lw i ln) := by
  have hp : (pickB22 lw i π).Perm (pickB22 lw i ln) := (h.filter _).map _
  have h1 := perm_sortL swo_cfV (pickB22 lw i π)
  have h2 := perm_sortL swo_cfV (pickB22 lw i ln)
  have hep : ∀ l : List (Int × Int), ∀ y ∈ sortL cfV (pickB22 lw i l), y.Epoch = i := fun l y hy => by
    have := (perm_sortL swo_cfV (pickB22 lw i l)).mem_iff.1 hy
    unfold pickB22 at this
    obtain ⟨e, _, rfl⟩ := List.mem_map.1 this
    rfl
  refine List.Perm.eq_of_pairwise (le := fun x y => ltOf cfV y x = false) (fun x y hx hy h3 h4 => ?_) (sorted_sortL swo_cfV _) (sorted_sortL swo_cfV _) ((h1.trans hp).trans h2.symm)
  rw [lt_cfV] at h3 h4
  have e1 := hep _ _ hx
  have e2 := hep _ _ hy
  simp only [decide_eq_false_iff_not] at h3 h4
  cases x; cases y
  simp only at *
  rw [e1, e2]
  congr 1
  omega
theorem born_end_ok {lw ln π : List (Int × Int)} {i fr : Int} {ts : List Tree} {len idx : Int} {xs : List Reveal} (h : π.Perm ln) (hfr : fr = (xs.length : Int)) :
    born_end ln fr ts len idx (xs ++ pickB22 lw i π) = some ((xs ++ sortL cfV (pickB22 lw i ln), ln, ts, len, idx, ()), (), ()) := by
  subst hfr
  have h1 : decide ((0 : Int) ≤ (xs.length : Int)) = true := decide_eq_true (by omega)
  have h2 : decide ((xs.length : Int) ≤ ((xs ++ pickB22 lw i π).length : Int)) = true := decide_eq_true (by rw [List.length_append]; omega)
  unfold born_end
  rw [cutL_eq (by omega), h1, h2]
  simp only [Bool.and_self, Int.toNat_natCast, List.take_length, List.drop_length]
  have e1 : (xs ++ pickB22 lw i π).take xs.length = xs := by simp
  have e2 : (xs ++ pickB22 lw i π).drop xs.length = pickB22 lw i π := by simp
  rw [e1, e2, sort_pick h]
  simp
  rfl
end Go.Co.N
end

section
set_option maxRecDepth 100000
noncomputable section
namespace Go.Co.N
open Go Go.Co
def g_history_Play_r1 : (Unit × List Tree × List Int × List Batch × Int × Int × Unit) × (Tree × Unit) × Unit → Option (((Unit × List Tree × List Int × List Batch × Int × Int × Unit) × (Tree × Unit) × Unit) ⊕ ((List Tree × List Int × Unit) × (Tree × Unit) × Unit))
  | ((_, a, b, c, d, e, _), (f, _), _) => bif decide (e < d) then bif decide (0 ≤ e) && decide (e < (↑(List.length c) : Int)) then bif decide ((List.length b + 1) * 8 ≤ 140737488355328) then bif decide ((nextR f (lat c e)).snd.snd = 0) then bif decide ((List.length a + 1) * 1888 ≤ 140737488355328) then some (Sum.inl (((), List.append a [(nextR f (lat c e)).fst], List.append b [(nextR f (lat c e)).snd.snd], c, d, IntKind.wrap IntKind.i64 (e + 1), ()), ((nextR f (lat c e)).fst, ()), ())) else none else some (Sum.inl (((), a, List.append b [(nextR f (lat c e)).snd.snd], c, d, IntKind.wrap IntKind.i64 (e + 1), ()), (f, ()), ())) else none else none else some (Sum.inr ((a, b, ()), (f, ()), ()))
/-- coterie/history.Play -/
def g_history_Play : List Batch × Unit → Option (List Tree × List Int × Unit)
  | (a, _) => bif decide (0 ≤ (↑(List.length a) : Int)) && decide ((↑(List.length a) : Int) * 8 ≤ 140737488355328) then Option.bind (lfp g_history_Play_r1 (((), [startT], [], a, (↑(List.length a) : Int), 0, ()), (startT, ()), ())) fun z => some (z.fst.fst, z.fst.snd.fst, ()) else none
def g_history_came_r1 : (Unit × Unit × Unit × List Entry × Vector Entry 64 × Int × Unit) × (Tree × (List Int × Unit × Unit) × Unit) × Unit → Option (((Unit × Unit × Unit × List Entry × Vector Entry 64 × Int × Unit) × (Tree × (List Int × Unit × Unit) × Unit) × Unit) ⊕ ((Unit × Unit × List Entry × Unit) × (Tree × (List Int × Unit × Unit) × Unit) × Unit))
  | ((_, _, _, a, b, c, _), (d, (e, _, _), _), _) => bif decide (c < 64) then bif decide (0 ≤ c) && decide (c < 64) then bif decide (0 ≤ c) && decide (c < 64) then bif decide (Arr.get b c = Arr.get d.Roster c) then some (Sum.inl (((), (), (), a, b, IntKind.wrap IntKind.i64 (c + 1), ()), (d, (e, (), ()), ()), ())) else bif !decide ((Arr.get b c).Base = 0) then bif decide ((List.length e + 1) * 8 ≤ 140737488355328) then bif !decide ((Arr.get d.Roster c).Base = 0) then bif decide ((List.length a + 1) * 24 ≤ 140737488355328) then some (Sum.inl (((), (), (), List.append a [Arr.get d.Roster c], b, IntKind.wrap IntKind.i64 (c + 1), ()), (d, (List.append e [(Arr.get b c).Who], (), ()), ()), ())) else none else some (Sum.inl (((), (), (), a, b, IntKind.wrap IntKind.i64 (c + 1), ()), (d, (List.append e [(Arr.get b c).Who], (), ()), ()), ())) else none else bif !decide ((Arr.get d.Roster c).Base = 0) then bif decide ((List.length a + 1) * 24 ≤ 140737488355328) then some (Sum.inl (((), (), (), List.append a [Arr.get d.Roster c], b, IntKind.wrap IntKind.i64 (c + 1), ()), (d, (e, (), ()), ()), ())) else none else some (Sum.inl (((), (), (), a, b, IntKind.wrap IntKind.i64 (c + 1), ()), (d, (e, (), ()), ()), ())) else none else none else some (Sum.inr (((), (), a, ()), (d, (e, (), ()), ()), ()))
def g_history_came_r2 : (Unit × Unit × Unit × Int × Int × Unit) × ((Unit × List Int × Unit) × Unit) × List Entry × Unit → Option (((Unit × Unit × Unit × Int × Int × Unit) × ((Unit × List Int × Unit) × Unit) × List Entry × Unit) ⊕ ((Unit × Unit × Unit) × ((Unit × List Int × Unit) × Unit) × List Entry × Unit))
  | ((_, _, _, a, b, _), ((_, c, _), _), d, _) => bif decide (b < a) then bif decide (0 ≤ b) && decide (b < (↑(List.length d) : Int)) then bif decide ((List.length c + 1) * 8 ≤ 140737488355328) then some (Sum.inl (((), (), (), a, IntKind.wrap IntKind.i64 (b + 1), ()), (((), List.append c [(lat d b).Who], ()), ()), d, ())) else none else none else some (Sum.inr (((), (), ()), (((), c, ()), ()), d, ()))
/-- coterie/history.came -/
def g_history_came : Tree × Tree × Unit → Option (Batch × Unit)
  | (a, b, _) => Option.bind (lfp g_history_came_r1 (((), (), (), [], a.Roster, 0, ()), (b, ([], (), ()), ()), ())) fun z => Option.bind (lfp g_history_came_r2 (((), (), (), (↑(List.length (sortL cfE z.fst.snd.snd.fst)) : Int), 0, ()), (((), [], ()), ()), sortL cfE z.fst.snd.snd.fst, ())) fun z_1 => some (Batch.mk z.snd.fst.snd.fst.fst z_1.snd.fst.fst.snd.fst, ())
def g_history_Right_r1 : (List Tree × List Tree × Int × Int × Unit) × Unit × Unit → Option (((List Tree × List Tree × Int × Int × Unit) × Unit × Unit) ⊕ ((Bool × Unit) × Unit × Unit ⊕ Unit × Unit × Unit))
  | ((a, b, c, d, _), _, _) => bif decide (d < c) then bif decide (0 ≤ d) && decide (d < (↑(List.length b) : Int)) then bif decide (0 ≤ d) && decide (d < (↑(List.length a) : Int)) then bif decide (0 ≤ d) && decide (d < (↑(List.length a) : Int)) then bif !decide ((nextR (lat a d) (cameB (lat a d) (lat b d))).snd.snd = 0) then some (Sum.inr (Sum.inl ((false, ()), (), ()))) else bif !decide ((nextR (lat a d) (cameB (lat a d) (lat b d))).fst = lat b d) then some (Sum.inr (Sum.inl ((false, ()), (), ()))) else some (Sum.inl ((a, b, c, IntKind.wrap IntKind.i64 (d + 1), ()), (), ())) else none else none else none else some (Sum.inr (Sum.inr ((), (), ())))
/-- coterie/history.Right -/
def g_history_Right : List Tree × Unit → Option (Bool × Unit)
  | (a, _) => bif decide ((↑(List.length a) : Int) = 0) then some (false, ()) else bif decide (0 < (↑(List.length a) : Int)) then bif !decide (lat a 0 = startT) then some (false, ()) else bif decide (1 ≤ (↑(List.length a) : Int)) && decide ((↑(List.length a) : Int) ≤ (↑(List.length a) : Int)) then Option.bind (lfp g_history_Right_r1 ((a, List.drop 1 (List.take (Int.toNat (↑(List.length a) : Int)) a), (↑(List.length (List.drop 1 (List.take (Int.toNat (↑(List.length a) : Int)) a))) : Int), 0, ()), (), ())) fun z => Sum.elim (fun x => some (x.fst.fst, ())) (fun _ => some (true, ())) z else none else none
def g_history_On_r1 : (Int × List Tree × Int × Int × Unit) × Unit × Unit → Option (((Int × List Tree × Int × Int × Unit) × Unit × Unit) ⊕ ((Bool × Unit) × Unit × Unit ⊕ Unit × Unit × Unit))
  | ((a, b, c, d, _), _, _) => bif decide (d < c) then bif decide (0 ≤ d) && decide (d < (↑(List.length b) : Int)) then bif decide (findR (lat b d).Roster a < 0) then some (Sum.inr (Sum.inl ((false, ()), (), ()))) else some (Sum.inl ((a, b, c, IntKind.wrap IntKind.i64 (d + 1), ()), (), ())) else none else some (Sum.inr (Sum.inr ((), (), ())))
/-- coterie/history.On -/
def g_history_On : List Tree × Int × Int × Int × Unit → Option (Bool × Unit)
  | (a, b, c, d, _) => bif decide (c < 0) then some (false, ()) else bif decide (d < c) then some (false, ()) else bif decide ((↑(List.length a) : Int) ≤ d) then some (false, ()) else bif decide (0 ≤ c) && decide (c ≤ IntKind.wrap IntKind.i64 (d + 1)) && decide (IntKind.wrap IntKind.i64 (d + 1) ≤ (↑(List.length a) : Int)) then Option.bind (lfp g_history_On_r1 ((b, List.drop (Int.toNat c) (List.take (Int.toNat (IntKind.wrap IntKind.i64 (d + 1))) a), (↑(List.length (List.drop (Int.toNat c) (List.take (Int.toNat (IntKind.wrap IntKind.i64 (d + 1))) a))) : Int), 0, ()), (), ())) fun z => Sum.elim (fun x => some (x.fst.fst, ())) (fun _ => some (true, ())) z else none
def g_history_Excused_r1 : (List Reveal × Unit × Int × Int × Unit) × (List Tree × Int × Int × Unit) × Unit → Option (((List Reveal × Unit × Int × Int × Unit) × (List Tree × Int × Int × Unit) × Unit) ⊕ ((Int × Unit) × (List Tree × Int × Int × Unit) × Unit ⊕ Unit × (List Tree × Int × Int × Unit) × Unit))
  | ((a, _, b, c, _), (d, e, f, _), _) => bif decide (c < b) then bif decide (0 ≤ c) && decide (c < (↑(List.length a) : Int)) then bif !onR d (lat a c).Who (lat a c).Epoch e then some (Sum.inl ((a, (), b, IntKind.wrap IntKind.i64 (c + 1), ()), (d, e, f, ()), ())) else bif decide (0 ≤ e) && decide (e < (↑(List.length d) : Int)) then bif below f (leaf (findR (lat d e).Roster (lat a c).Who)) then some (Sum.inr (Sum.inl ((c, ()), (d, e, f, ()), ()))) else some (Sum.inl ((a, (), b, IntKind.wrap IntKind.i64 (c + 1), ()), (d, e, f, ()), ())) else none else none else some (Sum.inr (Sum.inr ((), (d, e, f, ()), ())))
/-- coterie/history.Excused -/
def g_history_Excused : List Tree × List Reveal × Int × Int × Unit → Option (Bool × Unit)
  | (a, b, c, d, _) => bif decide (d < 0) then some (false, ()) else bif decide (21 ≤ d) then some (false, ()) else Option.bind (lfp g_history_Excused_r1 ((b, (), (↑(List.length b) : Int), 0, ()), (a, c, d, ()), ())) fun z => Sum.elim (fun x => some (decide (0 ≤ x.fst.fst), ())) (fun _ => some (false, ())) z
end Go.Co.N
end
end

section
namespace Go.Co.N
open Go Go.Co Go.Proofs Go.Sort

theorem nextR_e22 (t : Tree) (b : Batch) : (nextR t b).2.2 = (nextT t b).e := by
  unfold nextR
  by_cases h : (nextT t b).e = 0
  · rw [decide_eq_true h, h]; rfl
  · rw [decide_eq_false h]; rfl
theorem nextR_t22 {t : Tree} {b : Batch} (h : (nextT t b).e = 0) : (nextR t b).1 = (nextT t b).t := by
  unfold nextR
  rw [decide_eq_true h]; rfl

/-! ### Play -/
theorem play_loop (c : List Batch) (hc : c.length * 48 ≤ 140737488355328) : ∀ (r : List Batch) (i : Nat) (acc : List Tree) (errs : List Int) (f : Tree), c.drop i = r → errs.length = i → (acc.length : Int) = f.Epoch + 1 → f.Epoch ≤ 200 →
    ∃ f' : Tree, lfp g_history_Play_r1 (((), acc, errs, c, (c.length : Int), (i : Int), ()), (f, ()), ()) = some ((acc ++ (playT f r).1, errs ++ (playT f r).2, ()), (f', ()), ())
  | [], i, acc, errs, f, hd, hi, _, _ => by
    have hl : c.length ≤ i := List.drop_eq_nil_iff.1 hd
    refine ⟨f, lfp_inr ?_⟩
    have k1 : decide ((i : Int) < (c.length : Int)) = false := decide_eq_false (by omega)
    simp only [g_history_Play_r1, k1, cond_false, playT, List.append_nil]
  | b :: r, i, acc, errs, f, hd, hi, ha, hf => by
    obtain ⟨hl, hx, hr⟩ := lat_drop hd
    have k1 : decide ((i : Int) < (c.length : Int)) = true := decide_eq_true (by omega)
    have k2 : decide ((errs.length + 1) * 8 ≤ 140737488355328) = true := decide_eq_true (by omega)
    have k3 : decide ((acc.length + 1) * 1888 ≤ 140737488355328) = true := decide_eq_true (by omega)
    have hi2 : IntKind.i64.wrap ((i : Int) + 1) = ((i + 1 : Nat) : Int) := by rw [i64_in _ (by omega)]; omega
    by_cases h : (nextT f b).e = 0
    · have he := nx_epoch h
      obtain ⟨f', hf'⟩ := play_loop c hc r (i + 1) (acc ++ [(nextT f b).t]) (errs ++ [0]) (nextT f b).t hr (by simp [hi]) (by rw [List.length_append, he.1]; simp; omega) (by omega)
      refine ⟨f', ?_⟩
      rw [lfp_inl (x' := (((), acc ++ [(nextT f b).t], errs ++ [0], c, (c.length : Int), ((i + 1 : Nat) : Int), ()), ((nextT f b).t, ()), ())) (by
        simp only [g_history_Play_r1, k1, k2, k3, hx, hi2, nextR_e22, nextR_t22 h, h, Int.natCast_nonneg, decide_true, Bool.and_self, cond_true]; rfl), hf']
      simp only [playT, h, decide_true, cond_true, List.append_assoc, List.cons_append, List.nil_append]
    · obtain ⟨f', hf'⟩ := play_loop c hc r (i + 1) acc (errs ++ [(nextT f b).e]) f hr (by simp [hi]) ha hf
      refine ⟨f', ?_⟩
      rw [lfp_inl (x' := (((), acc, errs ++ [(nextT f b).e], c, (c.length : Int), ((i + 1 : Nat) : Int), ()), (f, ()), ())) (by
        simp only [g_history_Play_r1, k1, k2, hx, hi2, nextR_e22, decide_eq_false h, Int.natCast_nonneg, decide_true, Bool.and_self, cond_true, cond_false]; rfl), hf']
      simp only [playT, decide_eq_false h, cond_false, List.append_assoc, List.cons_append, List.nil_append]
theorem eq_history_Play : Eqs c_history_Play g_history_Play := Eqs.tot fun (c, _) hf => by
  change List Batch at c
  have hc : c.length * 48 ≤ 140737488355328 := (Fine.list.1 hf.1).1
  obtain ⟨f', h⟩ := play_loop c hc c 0 [startT] [] startT rfl rfl rfl (by decide)
  have k1 : decide ((c.length : Int) * 8 ≤ 140737488355328) = true := decide_eq_true (by omega)
  simp only [g_history_Play, k1, Int.natCast_nonneg, decide_true, Bool.and_self, cond_true]
  rw [show lfp g_history_Play_r1 (((), [startT], [], c, (c.length : Int), 0, ()), (startT, ()), ()) = _ from h]
  rfl

/-! ### Of which batch -/
def leftN (a b : Roster) (n : Nat) : List Int := ((List.range n).filter fun (s : Nat) => !decide (ent a s = ent b s) && isOn a s).map fun (s : Nat) => (ent a s).Who
def cameN (a b : Roster) (n : Nat) : List Entry := ((List.range n).filter fun (s : Nat) => !decide (ent a s = ent b s) && isOn b s).map fun (s : Nat) => ent b s
theorem leftN_succ (a b : Roster) (n : Nat) : leftN a b (n + 1) = leftN a b n ++ bif !decide (ent a n = ent b n) && isOn a n then [(ent a n).Who] else [] := by
  unfold leftN
  rw [List.range_succ, List.filter_append, List.map_append]
  congr 1
  cases h : (!decide (ent a n = ent b n) && isOn a n) <;> simp [h]
theorem cameN_succ (a b : Roster) (n : Nat) : cameN a b (n + 1) = cameN a b n ++ bif !decide (ent a n = ent b n) && isOn b n then [ent b n] else [] := by
  unfold cameN
  rw [List.range_succ, List.filter_append, List.map_append]
  congr 1
  cases h : (!decide (ent a n = ent b n) && isOn b n) <;> simp [h]
theorem leftN_len (a b : Roster) (n : Nat) : (leftN a b n).length ≤ n := by
  unfold leftN
  rw [List.length_map]
  exact Nat.le_trans (List.length_filter_le _ _) (by simp)
theorem cameN_len (a b : Roster) (n : Nat) : (cameN a b n).length ≤ n := by
  unfold cameN
  rw [List.length_map]
  exact Nat.le_trans (List.length_filter_le _ _) (by simp)
theorem whos_loop (l : List Entry) (hl : l.length ≤ 64) : lfp g_history_came_r2 (((), (), (), (l.length : Int), 0, ()), (((), [], ()), ()), l, ()) = some (((), (), ()), (((), l.map (·.Who), ()), ()), l, ()) := by
  rw [lfp_run' (fun i => (((), (), (), (l.length : Int), (i : Int), ()), (((), (l.map (·.Who)).take i, ()), ()), l, ())) l.length (by simp) fun i hi => by
    have k1 : decide ((i : Int) < (l.length : Int)) = true := decide_eq_true (by omega)
    have k2 : decide ((((l.map (·.Who)).take i).length + 1) * 8 ≤ 140737488355328) = true := decide_eq_true (by rw [List.length_take, List.length_map]; omega)
    have k3 : List.append ((l.map (·.Who)).take i) [(lat l (i : Int)).Who] = (l.map (·.Who)).take (i + 1) := by
      rw [lat_nat l i hi, List.take_add_one, List.getElem?_map, List.getElem?_eq_getElem hi]
      rfl
    simp only [g_history_came_r2, k1, k2, k3, wrap1 i (by omega), Int.natCast_nonneg, decide_true, Bool.and_self, cond_true]]
  refine lfp_inr ?_
  have k1 : decide ((l.length : Int) < (l.length : Int)) = false := decide_eq_false (by omega)
  simp only [g_history_came_r2, k1, cond_false]
  rw [List.take_of_length_le (by simp)]
theorem eq_history_came : Eqs c_history_came g_history_came := Eqs.tot fun (a, b, _) _ => by
  change Tree at a; change Tree at b
  have h1 : lfp g_history_came_r1 (((), (), (), [], a.Roster, 0, ()), (b, ([], (), ()), ()), ()) = some (((), (), cameL a.Roster b.Roster, ()), (b, (leftL a.Roster b.Roster, (), ()), ()), ()) := by
    rw [lfp_run' (fun i => (((), (), (), cameN a.Roster b.Roster i, a.Roster, (i : Int), ()), (b, (leftN a.Roster b.Roster i, (), ()), ()), ())) 64 (by rfl) fun i hi => by
      have k1 : decide ((i : Int) < 64) = true := decide_eq_true (by omega)
      have l1 := leftN_len a.Roster b.Roster i
      have l2 := cameN_len a.Roster b.Roster i
      have k2 : decide (((leftN a.Roster b.Roster i).length + 1) * 8 ≤ 140737488355328) = true := decide_eq_true (by omega)
      have k3 : decide (((cameN a.Roster b.Roster i).length + 1) * 24 ≤ 140737488355328) = true := decide_eq_true (by omega)
      simp only [g_history_came_r1, k1, k2, k3, wrap1 i (by omega), Int.natCast_nonneg, decide_true, Bool.and_self, cond_true, leftN_succ, cameN_succ]
      unfold isOn
      by_cases he : ent a.Roster i = ent b.Roster i
      · simp [he]
      · by_cases ha : (ent a.Roster i).Base = 0
        · by_cases hb : (ent b.Roster i).Base = 0
          · simp [he, ha, hb]
          · simp [he, ha, hb]
        · by_cases hb : (ent b.Roster i).Base = 0
          · simp [he, ha, hb]
          · simp [he, ha, hb]]
    exact lfp_inr (by simp only [g_history_came_r1]; rfl)
  simp only [g_history_came]
  rw [h1, Option.bind_some]
  dsimp only
  rw [whos_loop _ (by rw [(perm_sortL swo_cfE _).length_eq]; exact cameN_len _ _ 64)]
  rfl

/-! ### Is the row right? -/
theorem step_is (a t : Tree) : stepB a t = (decide ((nextR a (cameB a t)).2.2 = 0) && decide ((nextR a (cameB a t)).1 = t)) := by
  unfold stepB
  rw [nextR_e22]
  by_cases h : (nextT a (cameB a t)).e = 0
  · rw [nextR_t22 h]
  · rw [decide_eq_false h]; rfl
theorem right_loop (a b : List Tree) (hb : b.length ≤ 9000000000000000000) : ∀ (r : List Tree) (i : Nat) (p : Tree), a.drop i = p :: r → b.drop i = r →
    lfp g_history_Right_r1 ((a, b, (b.length : Int), (i : Int), ()), (), ()) = some (bif chainB p r then Sum.inr ((), (), ()) else Sum.inl ((false, ()), (), ()))
  | [], i, p, _, hd => by
    have hl : b.length ≤ i := List.drop_eq_nil_iff.1 hd
    refine lfp_inr ?_
    have k1 : decide ((i : Int) < (b.length : Int)) = false := decide_eq_false (by omega)
    simp only [g_history_Right_r1, k1, cond_false, chainB, cond_true]
  | t :: r, i, p, hp, hd => by
    obtain ⟨hl, hx, hr⟩ := lat_drop hd
    obtain ⟨hl2, hx2, hr2⟩ := lat_drop hp
    have k1 : decide ((i : Int) < (b.length : Int)) = true := decide_eq_true (by omega)
    have k2 : decide ((i : Int) < (a.length : Int)) = true := decide_eq_true (by omega)
    have hi2 : IntKind.i64.wrap ((i : Int) + 1) = ((i + 1 : Nat) : Int) := by rw [i64_in _ (by omega)]; omega
    have ih := right_loop a b hb r (i + 1) t hr2 hr
    simp only [chainB]
    rw [step_is]
    cases h1 : decide ((nextR p (cameB p t)).2.2 = 0) with
    | false =>
      exact lfp_inr (by simp only [g_history_Right_r1, k1, k2, hx, hx2, h1, Int.natCast_nonneg, decide_true, Bool.and_self, cond_true, Bool.not_false, Bool.false_and, cond_false])
    | true =>
      cases h2 : decide ((nextR p (cameB p t)).1 = t) with
      | false =>
        exact lfp_inr (by simp only [g_history_Right_r1, k1, k2, hx, hx2, h1, h2, Int.natCast_nonneg, decide_true, Bool.and_self, cond_true, Bool.not_false, Bool.not_true, Bool.false_and, Bool.and_false, cond_false])
      | true =>
        rw [lfp_inl (x' := ((a, b, (b.length : Int), ((i + 1 : Nat) : Int), ()), (), ())) (by simp only [g_history_Right_r1, k1, k2, hx, hx2, h1, h2, hi2, Int.natCast_nonneg, decide_true, Bool.and_self, cond_true, Bool.not_true, cond_false]), ih]
        rfl
theorem eq_history_Right : Eqs c_history_Right g_history_Right := Eqs.tot fun (a, _) hf => by
  change List Tree at a
  have ha : a.length * 1888 ≤ 140737488355328 := (Fine.list.1 hf.1).1
  show g_history_Right (a, ()) = some (rightR a, ())
  cases a with
  | nil => rfl
  | cons t r =>
    have k0 : decide ((((t :: r : List Tree).length : Nat) : Int) = 0) = false := decide_eq_false (by simp only [List.length_cons]; omega)
    have k1 : decide ((0 : Int) < (((t :: r : List Tree).length : Nat) : Int)) = true := decide_eq_true (by simp only [List.length_cons]; omega)
    have k2 : decide ((1 : Int) ≤ (((t :: r : List Tree).length : Nat) : Int)) = true := decide_eq_true (by simp only [List.length_cons]; omega)
    have k3 : List.drop 1 (List.take (Int.toNat (((t :: r : List Tree).length : Nat) : Int)) (t :: r)) = r := by simp
    have k4 : lat (t :: r) 0 = t := rfl
    have k5 : decide ((((t :: r : List Tree).length : Nat) : Int) ≤ (((t :: r : List Tree).length : Nat) : Int)) = true := decide_eq_true (Int.le_refl _)
    simp only [g_history_Right, k0, k1, k2, k3, k4, k5, cond_false, cond_true, Bool.and_self]
    have hlp := right_loop (t :: r) r (by simp only [List.length_cons] at ha; omega) r 0 t rfl rfl
    rw [show lfp g_history_Right_r1 ((t :: r, r, (r.length : Int), 0, ()), (), ()) = _ from hlp]
    show _ = some (decide (t = startT) && chainB t r, ())
    cases decide (t = startT) with
    | false => rfl
    | true => cases chainB t r <;> rfl

/-! ### Who was on -/
theorem on_loop (who : Int) (l : List Tree) (hl : l.length ≤ 9000000000000000000) :
    lfp g_history_On_r1 ((who, l, (l.length : Int), 0, ()), (), ()) = some (bif allN l.length (fun i => decide (0 ≤ findR (lat l (i : Int)).Roster who)) then Sum.inr ((), (), ()) else Sum.inl ((false, ()), (), ())) := by
  refine lfp_all' (fun i => ((who, l, (l.length : Int), (i : Int), ()), (), ())) l.length _ _ _ rfl (fun i hi h => ?_) (fun i hi h => ?_) ?_
  · have k1 : decide ((i : Int) < (l.length : Int)) = true := decide_eq_true (by omega)
    have hi2 : IntKind.i64.wrap ((i : Int) + 1) = ((i + 1 : Nat) : Int) := by rw [i64_in _ (by omega)]; omega
    have k2 : decide (findR (lat l (i : Int)).Roster who < 0) = false := decide_eq_false (by have := of_decide_eq_true h; omega)
    simp only [g_history_On_r1, k1, k2, hi2, Int.natCast_nonneg, decide_true, Bool.and_self, cond_true, cond_false]
  · have k1 : decide ((i : Int) < (l.length : Int)) = true := decide_eq_true (by omega)
    have k2 : decide (findR (lat l (i : Int)).Roster who < 0) = true := decide_eq_true (by have := of_decide_eq_false h; omega)
    simp only [g_history_On_r1, k1, k2, Int.natCast_nonneg, decide_true, Bool.and_self, cond_true]
  · have k1 : decide ((l.length : Int) < (l.length : Int)) = false := decide_eq_false (by omega)
    simp only [g_history_On_r1, k1, cond_false]
theorem allN_congr {n : Nat} {p q : Nat → Bool} (h : ∀ i, i < n → p i = q i) : allN n p = allN n q := by
  apply bool_eq
  rw [allN_iff, allN_iff]
  exact ⟨fun hp i hi => by rw [← h i hi]; exact hp i hi, fun hp i hi => by rw [h i hi]; exact hp i hi⟩
theorem on_cut {row : List Tree} {who : Int} {fr to : Nat} (h1 : fr ≤ to) (h2 : to < row.length) :
    allN ((row.take (to + 1)).drop fr).length (fun i => decide (0 ≤ findR (lat ((row.take (to + 1)).drop fr) (i : Int)).Roster who)) = allN (to + 1 - fr) (fun i => decide (0 ≤ findR (lat row ((fr : Int) + (i : Int))).Roster who)) := by
  have hl : ((row.take (to + 1)).drop fr).length = to + 1 - fr := by rw [List.length_drop, List.length_take]; omega
  rw [hl]
  refine allN_congr fun i hi => ?_
  have e1 : lat ((row.take (to + 1)).drop fr) (i : Int) = row[fr + i]'(by omega) := by
    rw [lat_nat _ i (by omega), List.getElem_drop, List.getElem_take]
  have e2 : lat row ((fr : Int) + (i : Int)) = row[fr + i]'(by omega) := by
    rw [show (fr : Int) + (i : Int) = ((fr + i : Nat) : Int) by omega, lat_nat]
  rw [e1, e2]
theorem eq_history_On : Eqs c_history_On g_history_On := Eqs.tot fun (row, who, fr, to, _) hf => by
  change List Tree at row; change Int at who; change Int at fr; change Int at to
  have ha : row.length * 1888 ≤ 140737488355328 := (Fine.list.1 hf.1).1
  show g_history_On (row, who, fr, to, ()) = some (onR row who fr to, ())
  unfold onR
  by_cases h1 : fr < 0
  · have d2 : decide (0 ≤ fr) = false := decide_eq_false (by omega)
    simp only [g_history_On, decide_eq_true h1, d2, cond_true, Bool.false_and]
  by_cases h2 : to < fr
  · have d2 : decide (fr ≤ to) = false := decide_eq_false (by omega)
    simp only [g_history_On, decide_eq_false h1, decide_eq_true h2, d2, cond_true, cond_false, Bool.and_false, Bool.false_and]
  by_cases h3 : (row.length : Int) ≤ to
  · have d2 : decide (to < (row.length : Int)) = false := decide_eq_false (by omega)
    simp only [g_history_On, decide_eq_false h1, decide_eq_false h2, decide_eq_true h3, d2, cond_true, cond_false, Bool.and_false, Bool.false_and]
  obtain ⟨f, rfl⟩ : ∃ f : Nat, fr = f := ⟨fr.toNat, by omega⟩
  obtain ⟨n, rfl⟩ : ∃ n : Nat, to = n := ⟨to.toNat, by omega⟩
  have w1 : IntKind.i64.wrap ((n : Int) + 1) = ((n + 1 : Nat) : Int) := by rw [i64_in _ (by omega)]; omega
  have d1 : decide ((f : Int) ≤ ((n + 1 : Nat) : Int)) = true := decide_eq_true (by omega)
  have d2 : decide (((n + 1 : Nat) : Int) ≤ (row.length : Int)) = true := decide_eq_true (by omega)
  have d3 : decide ((f : Int) ≤ (n : Int)) = true := decide_eq_true (by omega)
  have d4 : decide ((n : Int) < (row.length : Int)) = true := decide_eq_true (by omega)
  have d5 : ((n : Int) - (f : Int) + 1).toNat = n + 1 - f := by omega
  simp only [g_history_On, decide_eq_false h1, decide_eq_false h2, decide_eq_false h3, w1, d1, d2, d3, d4, d5, Int.natCast_nonneg, decide_true, Bool.and_self, cond_true, cond_false, Int.toNat_natCast, Bool.true_and]
  rw [on_loop who _ (by rw [List.length_drop, List.length_take]; omega), on_cut (by omega) (by omega)]
  cases allN (n + 1 - f) (fun i => decide (0 ≤ findR (lat row ((f : Int) + (i : Int))).Roster who)) <;> rfl
theorem onR_in {row : List Tree} {who fr to : Int} (h : onR row who fr to = true) : 0 ≤ fr ∧ fr ≤ to ∧ to < (row.length : Int) := by
  unfold onR at h
  simp only [Bool.and_eq_true, decide_eq_true_eq] at h
  exact ⟨h.1.1.1, h.1.1.2, h.1.2⟩

/-! ### What is excused -/
def excAt (row : List Tree) (e v : Int) (x : Reveal) : Bool := onR row x.Who x.Epoch e && below v (leaf (findR (lat row e).Roster x.Who))
theorem any_at {α : Type} [Inhabited α] (p : α → Bool) (l : List α) : l.any p = anyN l.length (fun i => p (lat l (i : Int))) := by
  apply bool_eq
  rw [List.any_eq_true, anyN_iff]
  constructor
  · rintro ⟨x, hx, hp⟩
    obtain ⟨i, hi, rfl⟩ := List.mem_iff_getElem.1 hx
    exact ⟨i, hi, by rw [lat_nat l i hi]; exact hp⟩
  · rintro ⟨i, hi, hp⟩
    rw [lat_nat l i hi] at hp
    exact ⟨_, List.getElem_mem hi, hp⟩
theorem eq_history_Excused : Eqs c_history_Excused g_history_Excused := Eqs.tot fun (row, seen, e, v, _) hf => by
  change List Tree at row; change List Reveal at seen; change Int at e; change Int at v
  have hs : seen.length * 16 ≤ 140737488355328 := (Fine.list.1 hf.2.1).1
  show g_history_Excused (row, seen, e, v, ()) = some (excR row seen e v, ())
  unfold excR
  by_cases h1 : v < 0
  · have d2 : decide (0 ≤ v) = false := decide_eq_false (by omega)
    simp only [g_history_Excused, decide_eq_true h1, d2, cond_true, Bool.false_and]
  by_cases h2 : 21 ≤ v
  · have d2 : decide (v < 21) = false := decide_eq_false (by omega)
    simp only [g_history_Excused, decide_eq_false h1, decide_eq_true h2, d2, cond_true, cond_false, Bool.and_false, Bool.false_and]
  have d1 : decide (0 ≤ v) = true := decide_eq_true (by omega)
  have d2 : decide (v < 21) = true := decide_eq_true (by omega)
  simp only [g_history_Excused, decide_eq_false h1, decide_eq_false h2, d1, d2, cond_false, Bool.and_self, Bool.true_and]
  have hlp := lfp_find (f := g_history_Excused_r1) (fun i => ((seen, (), (seen.length : Int), (i : Int), ()), (row, e, v, ()), ())) seen.length (fun i => excAt row e v (lat seen (i : Int))) (fun i => Sum.inl (((i : Int), ()), (row, e, v, ()), ())) (Sum.inr ((), (row, e, v, ()), ())) (fun i hi hb => by
      have k1 : decide ((i : Int) < (seen.length : Int)) = true := decide_eq_true (by omega)
      have hi2 : IntKind.i64.wrap ((i : Int) + 1) = ((i + 1 : Nat) : Int) := by rw [i64_in _ (by omega)]; omega
      unfold excAt at hb
      cases ho : onR row (lat seen (i : Int)).Who (lat seen (i : Int)).Epoch e with
      | false => simp only [g_history_Excused_r1, k1, ho, hi2, Int.natCast_nonneg, decide_true, Bool.and_self, cond_true, Bool.not_false]
      | true =>
        obtain ⟨a1, a2, a3⟩ := onR_in ho
        rw [ho, Bool.true_and] at hb
        have k2 : decide (0 ≤ e) = true := decide_eq_true (by omega)
        simp only [g_history_Excused_r1, k1, k2, decide_eq_true a3, ho, hb, hi2, Int.natCast_nonneg, decide_true, Bool.and_self, cond_true, cond_false, Bool.not_true]) (fun i hi hb => by
      have k1 : decide ((i : Int) < (seen.length : Int)) = true := decide_eq_true (by omega)
      unfold excAt at hb
      rw [Bool.and_eq_true] at hb
      obtain ⟨a1, a2, a3⟩ := onR_in hb.1
      have k2 : decide (0 ≤ e) = true := decide_eq_true (by omega)
      simp only [g_history_Excused_r1, k1, k2, decide_eq_true a3, hb.1, hb.2, Int.natCast_nonneg, decide_true, Bool.and_self, cond_true, cond_false, Bool.not_true]) (by
      have k1 : decide ((seen.length : Int) < (seen.length : Int)) = false := decide_eq_false (by omega)
      simp only [g_history_Excused_r1, k1, cond_false])
  rw [show lfp g_history_Excused_r1 ((seen, (), (seen.length : Int), 0, ()), (row, e, v, ()), ()) = _ from hlp, Option.bind_some, any_at]
  cases hfs : fstN seen.length (fun i => excAt row e v (lat seen (i : Int))) 0 with
  | some i =>
    obtain ⟨_, hi, hb, _⟩ := fstN_some hfs
    have : anyN seen.length (fun i => excAt row e v (lat seen (i : Int))) = true := anyN_iff.2 ⟨i, by omega, hb⟩
    show some (decide (0 ≤ (i : Int)), ()) = some (anyN seen.length (fun i => excAt row e v (lat seen (i : Int))), ())
    rw [this, decide_eq_true (Int.natCast_nonneg i)]
  | none =>
    have hn := fstN_none hfs
    have : anyN seen.length (fun i => excAt row e v (lat seen (i : Int))) = false := Bool.eq_false_iff.2 fun h => by
      obtain ⟨i, hi, hb⟩ := anyN_iff.1 h
      rw [hn i (Nat.zero_le _) (by omega)] at hb
      cases hb
    show some (false, ()) = some (anyN seen.length (fun i => excAt row e v (lat seen (i : Int))), ())
    rw [this]
end Go.Co.N
end

section
namespace Go.Co.N
open Go Go.Co Go.Proofs Go.Sort

/-! ### Names of a tree -/
def hasN (t : Tree) (n : Int) : Prop := (∃ v : Nat, v < 21 ∧ bas t.Keys v = n) ∨ (∃ s : Nat, s < 64 ∧ isOn t.Roster s = true ∧ (ent t.Roster s).Base = n)
theorem hasN_lt {t : Tree} {n : Int} (hg : goodTree t = true) (h : hasN t n) : n < t.Fresh := by
  obtain ⟨_, _, _, _, _, _, hk, hs⟩ := goodTree_iff.1 hg
  rcases h with ⟨v, hv, rfl⟩ | ⟨s, hs2, _, rfl⟩
  · exact (hk v hv).1
  · exact (hs s hs2).1
theorem cntTo_at (m : Int) : ∀ (N : Nat) (x : Int), 0 ≤ x → x < cntTo m N → ∃ v : Nat, v < N ∧ inB m v = true ∧ cntTo m v = x
  | 0, x, h0, h1 => by simp only [cntTo] at h1; omega
  | N + 1, x, h0, h1 => by
    cases hb : inB m (N : Int) with
    | false =>
      rw [cntTo_out hb] at h1
      obtain ⟨v, a, b, c⟩ := cntTo_at m N x h0 h1
      exact ⟨v, by omega, b, c⟩
    | true =>
      rw [cntTo_in hb] at h1
      by_cases hx : x < cntTo m N
      · obtain ⟨v, a, b, c⟩ := cntTo_at m N x h0 hx
        exact ⟨v, by omega, b, c⟩
      · exact ⟨N, by omega, hb, by omega⟩
theorem hasN_next {t : Tree} {b : Batch} (h : (nextT t b).e = 0) (n : Int) : (hasN (nextT t b).t n ∧ ¬ hasN t n) ↔ (t.Fresh ≤ n ∧ n < (nextT t b).t.Fresh) := by
  have hg := (nextT_ok h).1
  have hg2 := nx_good h
  obtain ⟨hk, hk1, hk2, hk3, hk4⟩ := nx_turn h
  have hfe := nx_fresh h
  have hc := cntTo_le (replaced (nextT t b).left) 21
  constructor
  · rintro ⟨h1, h2⟩
    refine ⟨?_, hasN_lt hg2 h1⟩
    rcases h1 with ⟨v, hv, rfl⟩ | ⟨s, hs, hon, rfl⟩
    · rw [hk, bas, turned_get _ _ _ v hv] at h2 ⊢
      by_cases hin : inB (replaced (nextT t b).left) v = true
      · exact (fresh_bounds (k := t.Keys) hk3 hv hin).1
      · rw [kept_at hin] at h2
        exact absurd (.inl ⟨v, hv, rfl⟩) h2
    · rcases nx_seat h s hs with ⟨x, hx, hxs⟩ | ⟨_, ⟨_, _, hz⟩ | ⟨_, he⟩⟩
      · obtain ⟨k, hk', h3, h4, h5⟩ := nx_new h hx
        have : k = s := by omega
        subst this
        exact h5
      · rw [isOn_iff, hz] at hon
        exact absurd rfl hon
      · rw [he] at h2
        refine absurd (.inr ⟨s, hs, ?_, rfl⟩) h2
        rw [isOn_iff] at hon ⊢
        rwa [he] at hon
  · rintro ⟨h1, h2⟩
    refine ⟨?_, fun hh => by have := hasN_lt hg hh; omega⟩
    by_cases hn : n < t.Fresh + cntTo (replaced (nextT t b).left) 21
    · obtain ⟨v, hv, hin, hcv⟩ := cntTo_at (replaced (nextT t b).left) 21 (t.Fresh + cntTo (replaced (nextT t b).left) 21 - 1 - n) (by omega) (by omega)
      refine .inl ⟨v, hv, ?_⟩
      rw [hk, bas, turned_get _ _ _ v hv, turnedAt, if_pos hin]
      show t.Fresh + (cntTo (replaced (nextT t b).left) 21 - cntTo (replaced (nextT t b).left) (v + 1)) = n
      rw [cntTo_in hin, hcv]
      omega
    · obtain ⟨i, hi⟩ : ∃ i : Nat, n = t.Fresh + cntTo (replaced (nextT t b).left) 21 + i := ⟨(n - (t.Fresh + cntTo (replaced (nextT t b).left) 21)).toNat, by omega⟩
      have hil : i < b.Joins.length := by omega
      obtain ⟨s, hs, _, he, _⟩ := (nx_moved h).1 i b.Joins[i] (List.getElem?_eq_getElem hil)
      have h22 := (nx_room h).2.1
      refine .inr ⟨s, hs, isOn_iff.2 ?_, ?_⟩
      · rw [he]; simp only; omega
      · rw [he]; simp only; omega
theorem hasN_start (n : Int) : hasN startT n ↔ (1 ≤ n ∧ n < 22) := by
  have hk : ∀ v : Nat, v < 21 → bas startT.Keys v = (v : Int) + 1 := fun v hv => by
    unfold bas startT
    simp only
    rw [get_make _ _ (by omega) (by omega)]
    simp
  constructor
  · rintro (⟨v, hv, rfl⟩ | ⟨s, hs, hon, rfl⟩)
    · rw [hk v hv]; omega
    · rw [isOn_iff] at hon
      exact absurd (by unfold ent startT; simp only; rw [get_rep _ _ (by omega) (by omega)]; rfl) hon
  · rintro ⟨h1, h2⟩
    exact .inl ⟨(n - 1).toNat, by omega, by rw [hk _ (by omega)]; omega⟩

/-! ### The map of names -/
def keysM (t : Tree) : Nat → List (Int × Int)
  | 0 => []
  | v + 1 => seeI (keysM t v) (bas t.Keys v)
def rostM (t : Tree) : Nat → List (Int × Int)
  | 0 => keysM t 21
  | s + 1 => bif !decide ((ent t.Roster s).Base = 0) then seeI (rostM t s) (ent t.Roster s).Base else rostM t s
theorem mget_none_iff {h : List (Int × Int)} {b : Int} : mget h b = none ↔ b ∉ h.map (·.1) := by
  induction h with
  | nil => simp [mget]
  | cons e l ih =>
    rw [mget_cons, List.map_cons, List.mem_cons]
    by_cases he : e.1 = b
    · rw [if_pos he]; simp [he]
    · rw [if_neg he, ih]
      exact ⟨fun h1 h2 => h2.elim (fun h3 => he h3.symm) h1, fun h1 h2 => h1 (.inr h2)⟩
theorem mput_keys (x c : Int) : ∀ h : List (Int × Int), (∀ b, b ∈ (mput h x c).map (·.1) ↔ b = x ∨ b ∈ h.map (·.1)) ∧ ((h.map (·.1)).Nodup → ((mput h x c).map (·.1)).Nodup) ∧ (mput h x c).length ≤ h.length + 1
  | [] => by simp [mput]
  | e :: l => by
    obtain ⟨i1, i2, i3⟩ := mput_keys x c l
    simp only [mput]
    by_cases he : e.1 = x
    · rw [if_pos he]
      refine ⟨fun b => ?_, fun hn => ?_, by simp⟩
      · simp only [List.map_cons, List.mem_cons, he]
        exact ⟨fun h => h.elim .inl fun h => .inr (.inr h), fun h => h.elim .inl fun h => h⟩
      · simpa only [List.map_cons, he] using hn
    · rw [if_neg he]
      refine ⟨fun b => ?_, fun hn => ?_, by simp only [List.length_cons]; omega⟩
      · simp only [List.map_cons, List.mem_cons, i1]
        exact ⟨fun h => h.elim (fun h => .inr (.inl h)) fun h => h.elim .inl fun h => .inr (.inr h), fun h => h.elim (fun h => .inr (.inl h)) fun h => h.elim .inl fun h => .inr (.inr h)⟩
      · simp only [List.map_cons, List.nodup_cons, i1] at hn ⊢
        exact ⟨fun hm => hm.elim he hn.1, i2 hn.2⟩
/-- A map that counts at most k. -/
def Cnt (k : Nat) (h : List (Int × Int)) : Prop := (h.map (·.1)).Nodup ∧ h.length ≤ k ∧ ∀ b c, mget h b = some c → 1 ≤ c ∧ c ≤ k
theorem Cnt.nil : Cnt 0 [] := ⟨List.nodup_nil, Nat.le_refl _, fun b c h => by simp [mget] at h⟩
theorem Cnt.up {k : Nat} {h : List (Int × Int)} (hc : Cnt k h) : Cnt (k + 1) h := ⟨hc.1, by have := hc.2.1; omega, fun b c hb => by have := hc.2.2 b c hb; omega⟩
theorem Cnt.see {k : Nat} {h : List (Int × Int)} (hc : Cnt k h) (hk : k < 1000000) (x : Int) : Cnt (k + 1) (seeI h x) := by
  obtain ⟨i1, i2, i3⟩ := mput_keys x (IntKind.wrap IntKind.i64 (Option.getD (mget h x) 0 + 1)) h
  refine ⟨i2 hc.1, by have := hc.2.1; show (mput _ _ _).length ≤ _; omega, fun b c hb => ?_⟩
  unfold seeI at hb
  rw [mget_mput] at hb
  by_cases hx : x = b
  · rw [if_pos hx] at hb
    have hb := Option.some.inj hb
    cases hm : mget h x with
    | none => rw [hm] at hb; simp only [Option.getD_none] at hb; rw [i64_in _ (by omega)] at hb; omega
    | some d =>
      have := hc.2.2 x d hm
      rw [hm] at hb; simp only [Option.getD_some] at hb; rw [i64_in _ (by omega)] at hb; omega
  · rw [if_neg hx] at hb
    have := hc.2.2 b c hb
    omega
theorem see_keys (h : List (Int × Int)) (x b : Int) : b ∈ (seeI h x).map (·.1) ↔ b = x ∨ b ∈ h.map (·.1) := (mput_keys _ _ h).1 b
theorem keysM_cnt (t : Tree) : ∀ v : Nat, v ≤ 21 → Cnt v (keysM t v) ∧ ∀ b, b ∈ (keysM t v).map (·.1) ↔ ∃ w : Nat, w < v ∧ bas t.Keys w = b
  | 0, _ => ⟨Cnt.nil, fun b => ⟨fun h => by simp [keysM] at h, fun ⟨w, hw, _⟩ => by omega⟩⟩
  | v + 1, hv => by
    obtain ⟨i1, i2⟩ := keysM_cnt t v (by omega)
    refine ⟨i1.see (by omega) _, fun b => ?_⟩
    show b ∈ (seeI (keysM t v) (bas t.Keys v)).map (·.1) ↔ _
    rw [see_keys, i2]
    constructor
    · rintro (rfl | ⟨w, hw, rfl⟩)
      · exact ⟨v, by omega, rfl⟩
      · exact ⟨w, by omega, rfl⟩
    · rintro ⟨w, hw, rfl⟩
      by_cases he : w = v
      · subst he; exact .inl rfl
      · exact .inr ⟨w, by omega, rfl⟩
theorem rostM_cnt (t : Tree) : ∀ s : Nat, s ≤ 64 → Cnt (21 + s) (rostM t s) ∧ ∀ b, b ∈ (rostM t s).map (·.1) ↔ (∃ v : Nat, v < 21 ∧ bas t.Keys v = b) ∨ ∃ w : Nat, w < s ∧ isOn t.Roster w = true ∧ (ent t.Roster w).Base = b
  | 0, _ => by
    obtain ⟨i1, i2⟩ := keysM_cnt t 21 (by omega)
    exact ⟨i1, fun b => (i2 b).trans ⟨.inl, fun h => h.elim (fun h => h) fun ⟨w, hw, _⟩ => by omega⟩⟩
  | s + 1, hs => by
    obtain ⟨i1, i2⟩ := rostM_cnt t s (by omega)
    by_cases h0 : (ent t.Roster s).Base = 0
    · have e : rostM t (s + 1) = rostM t s := by simp [rostM, h0]
      rw [e]
      refine ⟨i1.up, fun b => ?_⟩
      rw [i2]
      constructor
      · rintro (h | ⟨w, hw, h⟩)
        · exact .inl h
        · exact .inr ⟨w, by omega, h⟩
      · rintro (h | ⟨w, hw, hon, h⟩)
        · exact .inl h
        · refine .inr ⟨w, ?_, hon, h⟩
          by_cases he : w = s
          · subst he; exact absurd h0 (isOn_iff.1 hon)
          · omega
    · have e : rostM t (s + 1) = seeI (rostM t s) (ent t.Roster s).Base := by simp [rostM, h0]
      rw [e]
      refine ⟨i1.see (by omega) _, fun b => ?_⟩
      rw [see_keys, i2]
      constructor
      · rintro (rfl | h | ⟨w, hw, h⟩)
        · exact .inr ⟨s, by omega, isOn_iff.2 h0, rfl⟩
        · exact .inl h
        · exact .inr ⟨w, by omega, h⟩
      · rintro (h | ⟨w, hw, hon, h⟩)
        · exact .inr (.inl h)
        · by_cases he : w = s
          · subst he; exact .inl h.symm
          · exact .inr (.inr ⟨w, by omega, hon, h⟩)
/-- The names of a tree, counted. -/
def nameM (t : Tree) : List (Int × Int) := rostM t 64
theorem nameM_len (t : Tree) : (nameM t).length ≤ 85 := (rostM_cnt t 64 (Nat.le_refl _)).1.2.1
theorem nameM_keys (t : Tree) (b : Int) : b ∈ (nameM t).map (·.1) ↔ hasN t b := (rostM_cnt t 64 (Nat.le_refl _)).2 b
theorem nameM_zero (t : Tree) (b : Int) : (mget (nameM t) b).getD 0 = 0 ↔ ¬ hasN t b := by
  rw [← nameM_keys, ← mget_none_iff]
  cases hm : mget (nameM t) b with
  | none => simp
  | some c =>
    have := (rostM_cnt t 64 (Nat.le_refl _)).1.2.2 b c hm
    simp only [Option.getD_some]
    constructor
    · intro h; omega
    · intro h; cases h

/-! ### What begins -/
def bornAt (f F i : Int) : List Reveal := (List.range (F - f).toNat).map (fun (k : Nat) => (⟨f + k, i⟩ : Reveal))
theorem mem_bornAt {f F i : Int} {x : Reveal} : x ∈ bornAt f F i ↔ f ≤ x.Who ∧ x.Who < F ∧ x.Epoch = i := by
  unfold bornAt
  simp only [List.mem_map, List.mem_range]
  constructor
  · rintro ⟨k, hk, rfl⟩
    exact ⟨by show f ≤ f + (k : Int); omega, by show f + (k : Int) < F; omega, rfl⟩
  · rintro ⟨h1, h2, h3⟩
    refine ⟨(x.Who - f).toNat, by omega, ?_⟩
    cases x
    simp only at *
    rw [h3]
    congr 1
    omega
theorem bornAt_lt (f F i : Int) : (bornAt f F i).Pairwise fun x y => x.Who < y.Who := by
  unfold bornAt
  refine List.Pairwise.map _ (fun a b hab => ?_) List.pairwise_lt_range
  show _ + (a : Int) < _ + (b : Int)
  omega
theorem mem_pick {lw : List (Int × Int)} {i : Int} {l : List (Int × Int)} {x : Reveal} : x ∈ pickB22 lw i l ↔ x.Who ∈ l.map (·.1) ∧ (mget lw x.Who).getD 0 = 0 ∧ x.Epoch = i := by
  unfold pickB22
  simp only [List.mem_map, List.mem_filter, decide_eq_true_eq]
  constructor
  · rintro ⟨e, ⟨h1, h2⟩, rfl⟩
    exact ⟨⟨e, h1, rfl⟩, h2, rfl⟩
  · rintro ⟨⟨e, h1, h2⟩, h3, h4⟩
    refine ⟨e, ⟨h1, by rw [h2]; exact h3⟩, ?_⟩
    cases x
    simp only at *
    rw [h2, h4]
theorem pick_nodup {lw : List (Int × Int)} {i : Int} {l : List (Int × Int)} (h : (l.map (·.1)).Nodup) : (pickB22 lw i l).Nodup := by
  have h2 : ((l.filter fun e => decide ((mget lw e.1).getD 0 = 0)).map (·.1)).Nodup := h.sublist (List.filter_sublist.map _)
  have h3 : ((pickB22 lw i l).map (·.Who)).Nodup := by
    unfold pickB22
    rw [List.map_map]
    exact h2
  exact (List.pairwise_map.1 h3).imp fun h he => h (by rw [he])
theorem sort_born {lw l : List (Int × Int)} {i f F : Int} (hn : (l.map (·.1)).Nodup) (hk : ∀ n, (n ∈ l.map (·.1) ∧ (mget lw n).getD 0 = 0) ↔ (f ≤ n ∧ n < F)) : sortL cfV (pickB22 lw i l) = bornAt f F i := by
  have h1 := perm_sortL swo_cfV (pickB22 lw i l)
  have h2 : (pickB22 lw i l).Perm (bornAt f F i) := (List.perm_ext_iff_of_nodup (pick_nodup hn) ((bornAt_lt f F i).imp fun hlt he => by subst he; omega)).2 fun x => by
    rw [mem_pick, mem_bornAt, ← and_assoc, hk, and_assoc]
  have hp := h1.trans h2
  refine List.Perm.eq_of_pairwise (le := fun x y => x.Who ≤ y.Who) (fun x y hx hy h3 h4 => ?_) ((sorted_sortL swo_cfV _).imp fun h => by rw [lt_cfV] at h; simpa using h) ((bornAt_lt f F i).imp fun h => by omega) hp
  have e1 := (mem_bornAt.1 (hp.mem_iff.1 hx)).2.2
  have e2 := (mem_bornAt.1 hy).2.2
  cases x; cases y
  simp only at *
  rw [e1, e2]
  congr 1
  omega
theorem bornGo_cons (f i : Int) (t : Tree) (r : List Tree) : bornGo f i (t :: r) = bornAt f t.Fresh i ++ bornGo t.Fresh (i + 1) r := rfl

/-! ### What Born computes -/
def g_born_r2 : (Unit × Unit × Vector Key 21 × Int × Unit) × (Tree × Unit) × List (Int × Int) × Unit → Option (((Unit × Unit × Vector Key 21 × Int × Unit) × (Tree × Unit) × List (Int × Int) × Unit) ⊕ ((Unit × Unit × Unit) × (Tree × Unit) × List (Int × Int) × Unit))
  | ((_, _, a, b, _), (c, _), e, _) => bif decide (b < 21) then bif decide (0 ≤ b) && decide (b < 21) then some (Sum.inl (((), (), a, IntKind.wrap IntKind.i64 (b + 1), ()), (c, ()), mput e (Arr.get a b).Base (IntKind.wrap IntKind.i64 (Option.getD (mget e (Arr.get a b).Base) 0 + 1)), ())) else none else some (Sum.inr (((), (), ()), (c, ()), e, ()))
def g_born_r3 : (Unit × Vector Entry 64 × Int × Unit) × Unit × List (Int × Int) × Unit → Option (((Unit × Vector Entry 64 × Int × Unit) × Unit × List (Int × Int) × Unit) ⊕ ((Unit × Unit) × Unit × List (Int × Int) × Unit))
  | ((_, a, b, _), _, d, _) => bif decide (b < 64) then bif decide (0 ≤ b) && decide (b < 64) then bif !decide ((Arr.get a b).Base = 0) then some (Sum.inl (((), a, IntKind.wrap IntKind.i64 (b + 1), ()), (), mput d (Arr.get a b).Base (IntKind.wrap IntKind.i64 (Option.getD (mget d (Arr.get a b).Base) 0 + 1)), ())) else some (Sum.inl (((), a, IntKind.wrap IntKind.i64 (b + 1), ()), (), d, ())) else none else some (Sum.inr (((), ()), (), d, ()))
noncomputable def g_born_r1 : (List Reveal × List (Int × Int) × List Tree × Int × Int × Unit) × Unit × Unit → Option (((List Reveal × List (Int × Int) × List Tree × Int × Int × Unit) × Unit × Unit) ⊕ ((List Reveal × Unit) × Unit × Unit))
  | ((xs, lw, a, b, c, _), _, _) => bif decide (c < b) then bif decide (0 ≤ c) && decide (c < (a.length : Int)) then Option.bind (lfp g_born_r2 (((), (), (lat a c).Keys, 0, ()), (lat a c, ()), [], ())) fun z => Option.bind (lfp g_born_r3 (((), z.snd.fst.fst.Roster, 0, ()), (), z.snd.snd.fst, ())) fun z2 => Option.bind (bornF ((xs, (), c, (), (xs.length : Int), a, b, c, ()), (), lw, z2.snd.snd.fst, ())) fun w => some (Sum.inl ((w.1.1, w.1.2.1, w.1.2.2.1, w.1.2.2.2.1, IntKind.wrap IntKind.i64 (w.1.2.2.2.2.1 + 1), ()), (), ())) else none else some (Sum.inr ((xs, ()), (), ()))
noncomputable def g_history_Born : List Tree × Unit → Option (List Reveal × Unit)
  | (a, _) => bif !rightR a then some ([], ()) else Option.bind (lfp g_born_r1 (([], [], a, (a.length : Int), 0, ()), (), ())) fun z => some (z.1.1, ())
theorem born_keys (t : Tree) : lfp g_born_r2 (((), (), t.Keys, 0, ()), (t, ()), [], ()) = some (((), (), ()), (t, ()), keysM t 21, ()) := by
  rw [lfp_run' (fun v => (((), (), t.Keys, (v : Int), ()), (t, ()), keysM t v, ())) 21 (by rfl) fun v hv => by
    have k1 : decide ((v : Int) < 21) = true := decide_eq_true (by omega)
    simp only [g_born_r2, k1, wrap1 v (by omega), Int.natCast_nonneg, decide_true, Bool.and_self, cond_true]
    rfl]
  exact lfp_inr (by simp only [g_born_r2]; rfl)
theorem born_rost (t : Tree) : lfp g_born_r3 (((), t.Roster, 0, ()), (), keysM t 21, ()) = some (((), ()), (), nameM t, ()) := by
  rw [lfp_run' (fun s => (((), t.Roster, (s : Int), ()), (), rostM t s, ())) 64 (by rfl) fun s hs => by
    have k1 : decide ((s : Int) < 64) = true := decide_eq_true (by omega)
    simp only [g_born_r3, k1, wrap1 s (by omega), Int.natCast_nonneg, decide_true, Bool.and_self, cond_true]
    by_cases h0 : (ent t.Roster s).Base = 0
    · simp [rostM, h0]
    · simp [rostM, h0, seeI]]
  exact lfp_inr (by simp only [g_born_r3]; rfl)
theorem born_step {a : List Tree} {t : Tree} {r : List Tree} {i : Nat} {xs : List Reveal} {lw : List (Int × Int)} {f : Int} (ha : a.length ≤ 9000000000000000000) (hd : a.drop i = t :: r) (hx : (xs.length : Int) + 1 = f) (hf : f ≤ 32768)
    (hk : ∀ n, (hasN t n ∧ (mget lw n).getD 0 = 0) ↔ (f ≤ n ∧ n < t.Fresh)) :
    g_born_r1 ((xs, lw, a, (a.length : Int), (i : Int), ()), (), ()) = some (Sum.inl ((xs ++ bornAt f t.Fresh i, nameM t, a, (a.length : Int), ((i + 1 : Nat) : Int), ()), (), ())) := by
  obtain ⟨hl, hx2, hr⟩ := lat_drop hd
  have k1 : decide ((i : Int) < (a.length : Int)) = true := decide_eq_true (by omega)
  have hi2 : IntKind.i64.wrap ((i : Int) + 1) = ((i + 1 : Nat) : Int) := by rw [i64_in _ (by omega)]; omega
  have hnl := nameM_len t
  have k2 : decide ((xs.length + (nameM t).length) * 16 ≤ 140737488355328) = true := decide_eq_true (by omega)
  have hso := sort_born (lw := lw) (l := nameM t) (i := (i : Int)) (rostM_cnt t 64 (Nat.le_refl _)).1.1 (fun n => by rw [nameM_keys]; exact hk n)
  simp only [g_born_r1, k1, hx2, Int.natCast_nonneg, decide_true, Bool.and_self, cond_true, born_keys, born_rost, Option.bind_some, bornF, k2, hso, hi2]
theorem bornAt_len (f F i : Int) : (bornAt f F i).length = (F - f).toNat := by unfold bornAt; simp
theorem born_loop (a : List Tree) (ha : a.length ≤ 9000000000000000000) : ∀ (r : List Tree) (i : Nat) (p : Tree) (xs : List Reveal), a.drop i = r → chainB p r = true → (xs.length : Int) + 1 = p.Fresh → p.Fresh ≤ 32768 →
    lfp g_born_r1 ((xs, nameM p, a, (a.length : Int), (i : Int), ()), (), ()) = some ((xs ++ bornGo p.Fresh i r, ()), (), ())
  | [], i, p, xs, hd, _, _, _ => by
    have hl : a.length ≤ i := List.drop_eq_nil_iff.1 hd
    refine lfp_inr ?_
    have k1 : decide ((i : Int) < (a.length : Int)) = false := decide_eq_false (by omega)
    simp only [g_born_r1, k1, cond_false, bornGo, List.append_nil]
  | t :: r, i, p, xs, hd, hc, hx, hf => by
    simp only [chainB, Bool.and_eq_true] at hc
    obtain ⟨hst, hc⟩ := hc
    unfold stepB at hst
    simp only [Bool.and_eq_true, decide_eq_true_eq] at hst
    obtain ⟨he, ht⟩ := hst
    have hroom := nx_room he
    have hfr := nx_fresh he
    have hcn := cntTo_le (replaced (nextT p (cameB p t)).left) 21
    rw [ht] at hroom hfr
    have hn := hasN_next he
    rw [ht] at hn
    rw [lfp_inl (born_step ha hd hx hf (fun n => by rw [nameM_zero]; exact hn n)), born_loop a ha r (i + 1) t _ (lat_drop hd).2.2 hc (by rw [List.length_append, bornAt_len]; omega) hroom.1, bornGo_cons, List.append_assoc]
    rfl
theorem eq_history_Born : Eqs c_history_Born g_history_Born := Eqs.tot fun (a, _) hf => by
  change List Tree at a
  have ha : a.length * 1888 ≤ 140737488355328 := (Fine.list.1 hf.1).1
  show g_history_Born (a, ()) = some (bornR a, ())
  unfold bornR
  cases hr : rightR a with
  | false => simp only [g_history_Born, hr, Bool.not_false, cond_true, cond_false]
  | true =>
    simp only [g_history_Born, hr, Bool.not_true, cond_true, cond_false]
    cases a with
    | nil => cases hr
    | cons t r =>
      have hr2 : (decide (t = startT) && chainB t r) = true := hr
      rw [Bool.and_eq_true, decide_eq_true_eq] at hr2
      obtain ⟨rfl, hc⟩ := hr2
      have hl : (startT :: r).length ≤ 9000000000000000000 := by omega
      have s1 := born_step (a := startT :: r) (i := 0) (xs := []) (lw := []) (f := 1) hl rfl rfl (by decide) (fun n => by rw [hasN_start]; exact ⟨fun h => h.1, fun h => ⟨h, rfl⟩⟩)
      rw [show lfp g_born_r1 (([], [], startT :: r, ((startT :: r).length : Int), 0, ()), (), ()) = _ from (lfp_inl s1).trans (born_loop (startT :: r) hl r 1 startT _ rfl hc (by decide) (by decide))]
      rfl
end Go.Co.N
end

section
namespace Go.Co.N
open Go Go.Co
abbrev c_law22_lives : Con := c_True []
abbrev c_law22_HistoryNames : Con := c_True [.list (.st .batch)]
abbrev c_law22_HistoryFronts : Con := c_True [.list (.st .batch)]
abbrev c_law22_HistoryOneWay : Con := c_True [.list (.st .batch)]
end Go.Co.N
end

section
set_option maxRecDepth 100000
noncomputable section
namespace Go.Co.N
open Go Go.Co
/-- coterie/coterielaw22.lives -/
def g_law22_lives : Unit → Option (Bool × Unit)
  | _ => some (true, ())
def g_law22_HistoryNames_r2 : (List Reveal × Int × Int × Int × Unit × List Tree × Int × Int × Unit) × (Tree × Unit) × Unit → Option (((List Reveal × Int × Int × Int × Unit × List Tree × Int × Int × Unit) × (Tree × Unit) × Unit) ⊕ ((Bool × Unit) × Unit × Unit ⊕ (List Reveal × Int × Int × List Tree × Int × Int × Unit) × Unit × Unit))
  | ((a, b, c, d, _, e, f, g, _), (h, _), _) => bif decide (c < h.Fresh) then bif decide ((↑(List.length a) : Int) ≤ b) then some (Sum.inr (Sum.inl ((false, ()), (), ()))) else bif decide (0 ≤ b) && decide (b < (↑(List.length a) : Int)) then bif !decide (lat a b = Reveal.mk c d) then some (Sum.inr (Sum.inl ((false, ()), (), ()))) else some (Sum.inl ((a, IntKind.wrap IntKind.i64 (b + 1), IntKind.wrap IntKind.i64 (c + 1), d, (), e, f, g, ()), (h, ()), ())) else none else some (Sum.inr (Sum.inr ((a, b, c, e, f, g, ()), (), ())))
def g_law22_HistoryNames_r1 : (List Reveal × Int × Int × List Tree × Int × Int × Unit) × Unit × Unit → Option (((List Reveal × Int × Int × List Tree × Int × Int × Unit) × Unit × Unit) ⊕ ((Bool × Unit) × Unit × Unit ⊕ (List Reveal × Int × Unit) × Unit × Unit))
  | ((a, b, c, d, e, f, _), _, _) => bif decide (f < e) then bif decide (0 ≤ f) && decide (f < (↑(List.length d) : Int)) then Option.bind (lfp g_law22_HistoryNames_r2 ((a, b, c, f, (), d, e, f, ()), (lat d f, ()), ())) fun z => Sum.elim (fun x => some (Sum.inr (Sum.inl ((x.fst.fst, ()), (), ())))) (fun z => some (Sum.inl ((z.fst.fst, z.fst.snd.fst, z.fst.snd.snd.fst, z.fst.snd.snd.snd.fst, z.fst.snd.snd.snd.snd.fst, IntKind.wrap IntKind.i64 (z.fst.snd.snd.snd.snd.snd.fst + 1), ()), (), ()))) z else none else some (Sum.inr (Sum.inr ((a, b, ()), (), ())))
/-- coterie/coterielaw22.HistoryNames -/
def g_law22_HistoryNames : List Batch × Unit → Option (Bool × Unit)
  | (a, _) => Option.bind (lfp g_law22_HistoryNames_r1 ((bornR (rowOfS a), 0, 1, rowOfS a, (↑(List.length (rowOfS a)) : Int), 0, ()), (), ())) fun z => Sum.elim (fun x => some (x.fst.fst, ())) (fun z => some (decide (z.fst.snd.fst = (↑(List.length z.fst.fst) : Int)), ())) z
def g_law22_HistoryFronts_r1 : (List Tree × Int × Unit) × Unit × Unit → Option (((List Tree × Int × Unit) × Unit × Unit) ⊕ ((Bool × Unit) × Unit × Unit ⊕ (List Tree × Unit) × Unit × Unit))
  | ((a, b, _), _, _) => bif decide (b ≤ (↑(List.length a) : Int)) then bif decide (b ≤ 12) then bif decide (0 ≤ b) && decide (b ≤ (↑(List.length a) : Int)) then bif !rightR (List.drop 0 (List.take (Int.toNat b) a)) then some (Sum.inr (Sum.inl ((false, ()), (), ()))) else bif decide (0 ≤ IntKind.wrap IntKind.i64 (b - 1)) && decide (IntKind.wrap IntKind.i64 (b - 1) < (↑(List.length a) : Int)) then bif !decide ((lat a (IntKind.wrap IntKind.i64 (b - 1))).Epoch = IntKind.wrap IntKind.i64 (b - 1)) then some (Sum.inr (Sum.inl ((false, ()), (), ()))) else some (Sum.inl ((a, IntKind.wrap IntKind.i64 (b + 1), ()), (), ())) else none else none else some (Sum.inr (Sum.inr ((a, ()), (), ()))) else some (Sum.inr (Sum.inr ((a, ()), (), ())))
def g_law22_HistoryFronts_r2 : (List Tree × Int × Unit) × Unit × Unit → Option (((List Tree × Int × Unit) × Unit × Unit) ⊕ ((Bool × Unit) × Unit × Unit ⊕ Unit × Unit × Unit))
  | ((a, b, _), _, _) => bif decide (b < (↑(List.length a) : Int)) then bif decide (b ≤ 12) then bif decide (0 ≤ b) && decide (b ≤ (↑(List.length a) : Int)) && decide ((↑(List.length a) : Int) ≤ (↑(List.length a) : Int)) then bif rightR (List.drop (Int.toNat b) (List.take (Int.toNat (↑(List.length a) : Int)) a)) then some (Sum.inr (Sum.inl ((false, ()), (), ()))) else some (Sum.inl ((a, IntKind.wrap IntKind.i64 (b + 1), ()), (), ())) else none else some (Sum.inr (Sum.inr ((), (), ()))) else some (Sum.inr (Sum.inr ((), (), ())))
/-- coterie/coterielaw22.HistoryFronts -/
def g_law22_HistoryFronts : List Batch × Unit → Option (Bool × Unit)
  | (a, _) => bif decide (201 < (↑(List.length (rowOfS a)) : Int)) then some (false, ()) else bif !decide ((↑(List.length (errsOfS a)) : Int) = (↑(List.length a) : Int)) then some (false, ()) else Option.bind (lfp g_law22_HistoryFronts_r1 ((rowOfS a, 1, ()), (), ())) fun z => Sum.elim (fun x => some (x.fst.fst, ())) (fun z => Option.bind (lfp g_law22_HistoryFronts_r2 ((z.fst.fst, 1, ()), (), ())) fun z => Sum.elim (fun x => some (x.fst.fst, ())) (fun _ => some (true, ())) z) z
def g_law22_HistoryOneWay_r2 : (List Tree × Unit × Int × Unit × Int × List Tree × Int × Int × Unit) × (Tree × Unit) × List (Int × Int) × Unit → Option (((List Tree × Unit × Int × Unit × Int × List Tree × Int × Int × Unit) × (Tree × Unit) × List (Int × Int) × Unit) ⊕ ((Bool × Unit) × Unit × Unit ⊕ (List Tree × Unit × List Tree × Int × Int × Unit) × Unit × List (Int × Int) × Unit))
  | ((a, _, b, _, c, d, e, f, _), (g, _), h, _) => bif decide (c < 85) then bif !decide ((ofT g c).snd = 0) then some (Sum.inl ((a, (), b, (), IntKind.wrap IntKind.i64 (c + 1), d, e, f, ()), (g, ()), h, ())) else bif Option.isSome (mget h (ofT g c).fst.Base) then bif decide ((ofT g c).fst.Step ≤ Option.getD (mget h (ofT g c).fst.Base) 0) then some (Sum.inr (Sum.inl ((false, ()), (), ()))) else bif decide (0 < b) then bif decide (c < 21) then bif decide (0 ≤ IntKind.wrap IntKind.i64 (b - 1)) && decide (IntKind.wrap IntKind.i64 (b - 1) < (↑(List.length a) : Int)) then bif decide (0 ≤ c) && decide (c < 21) then bif gives (ofT g c).fst (Arr.get (lat a (IntKind.wrap IntKind.i64 (b - 1))).Keys c) then some (Sum.inr (Sum.inl ((false, ()), (), ()))) else some (Sum.inl ((a, (), b, (), IntKind.wrap IntKind.i64 (c + 1), d, e, f, ()), (g, ()), mput h (ofT g c).fst.Base (ofT g c).fst.Step, ())) else none else none else some (Sum.inl ((a, (), b, (), IntKind.wrap IntKind.i64 (c + 1), d, e, f, ()), (g, ()), mput h (ofT g c).fst.Base (ofT g c).fst.Step, ())) else some (Sum.inl ((a, (), b, (), IntKind.wrap IntKind.i64 (c + 1), d, e, f, ()), (g, ()), mput h (ofT g c).fst.Base (ofT g c).fst.Step, ())) else bif decide (0 < b) then bif decide (c < 21) then bif decide (0 ≤ IntKind.wrap IntKind.i64 (b - 1)) && decide (IntKind.wrap IntKind.i64 (b - 1) < (↑(List.length a) : Int)) then bif decide (0 ≤ c) && decide (c < 21) then bif gives (ofT g c).fst (Arr.get (lat a (IntKind.wrap IntKind.i64 (b - 1))).Keys c) then some (Sum.inr (Sum.inl ((false, ()), (), ()))) else some (Sum.inl ((a, (), b, (), IntKind.wrap IntKind.i64 (c + 1), d, e, f, ()), (g, ()), mput h (ofT g c).fst.Base (ofT g c).fst.Step, ())) else none else none else some (Sum.inl ((a, (), b, (), IntKind.wrap IntKind.i64 (c + 1), d, e, f, ()), (g, ()), mput h (ofT g c).fst.Base (ofT g c).fst.Step, ())) else some (Sum.inl ((a, (), b, (), IntKind.wrap IntKind.i64 (c + 1), d, e, f, ()), (g, ()), mput h (ofT g c).fst.Base (ofT g c).fst.Step, ())) else some (Sum.inr (Sum.inr ((a, (), d, e, f, ()), (), h, ())))
def g_law22_HistoryOneWay_r1 : (List Tree × Unit × List Tree × Int × Int × Unit) × Unit × List (Int × Int) × Unit → Option (((List Tree × Unit × List Tree × Int × Int × Unit) × Unit × List (Int × Int) × Unit) ⊕ ((Bool × Unit) × Unit × Unit ⊕ Unit × Unit × Unit))
  | ((a, _, b, c, d, _), _, e, _) => bif decide (d < c) then bif decide (0 ≤ d) && decide (d < (↑(List.length b) : Int)) then Option.bind (lfp g_law22_HistoryOneWay_r2 ((a, (), d, (), 0, b, c, d, ()), (lat b d, ()), e, ())) fun z => Sum.elim (fun x => some (Sum.inr (Sum.inl ((x.fst.fst, ()), (), ())))) (fun z => some (Sum.inl ((z.fst.fst, (), z.fst.snd.snd.fst, z.fst.snd.snd.snd.fst, IntKind.wrap IntKind.i64 (z.fst.snd.snd.snd.snd.fst + 1), ()), (), z.snd.snd.fst, ()))) z else none else some (Sum.inr (Sum.inr ((), (), ())))
/-- coterie/coterielaw22.HistoryOneWay -/
def g_law22_HistoryOneWay : List Batch × Unit → Option (Bool × Unit)
  | (a, _) => Option.bind (lfp g_law22_HistoryOneWay_r1 ((rowOfS a, (), rowOfS a, (↑(List.length (rowOfS a)) : Int), 0, ()), (), [], ())) fun z => Sum.elim (fun x => some (x.fst.fst, ())) (fun _ => some (true, ())) z
end Go.Co.N
end
end

section
namespace Go.Co.N
open Go Go.Co Go.Proofs Go.Sort

theorem eq_law22_lives : Eqs c_law22_lives g_law22_lives := Eqs.tot fun _ _ => rfl
theorem good_start22 : goodTree startT = true := by decide +kernel

/-! ### Rows -/
theorem step_leads {p : Tree} {b : Batch} (h : (nextT p b).e = 0) : stepB p (nextT p b).t = true := by
  obtain ⟨h1, h2⟩ := came_leads h (B := cameB p (nextT p b).t) (l := sortL cfE (cameL p.Roster (nextT p b).t.Roster)) rfl rfl (perm_sortL swo_cfE _) ((sorted_sortL swo_cfE _).imp fun h => by rw [lt_cfE] at h; simpa using h)
  unfold stepB
  rw [h1, h2]
  simp
theorem step_of {p t : Tree} (h : stepB p t = true) : (nextT p (cameB p t)).e = 0 ∧ (nextT p (cameB p t)).t = t := by
  unfold stepB at h
  simpa using h
theorem chain_play : ∀ (s : List Batch) (p : Tree), chainB p (playT p s).1 = true
  | [], p => rfl
  | b :: s, p => by
    by_cases h : (nextT p b).e = 0
    · simp only [playT, h, decide_true, cond_true, chainB, step_leads h, Bool.true_and]
      exact chain_play s _
    · simp only [playT, decide_eq_false h, cond_false]
      exact chain_play s p
theorem right_play (s : List Batch) : rightR (rowOfS s) = true := by
  show (decide (startT = startT) && chainB startT (playT startT s).1) = true
  rw [chain_play, decide_eq_true rfl]; rfl
theorem errs_len : ∀ (s : List Batch) (p : Tree), (playT p s).2.length = s.length
  | [], p => rfl
  | b :: s, p => by
    by_cases h : (nextT p b).e = 0
    · simp only [playT, h, decide_true, cond_true, List.length_cons, errs_len s]
    · simp only [playT, decide_eq_false h, cond_false, List.length_cons, errs_len s]
theorem chain_epoch : ∀ (r : List Tree) (p : Tree), chainB p r = true → 0 ≤ p.Epoch → p.Epoch ≤ 200 → p.Epoch + (r.length : Int) ≤ 200 ∧ ∀ (i : Nat) (x : Tree), r[i]? = some x → x.Epoch = p.Epoch + 1 + i
  | [], p, _, _, h2 => ⟨by simp only [List.length_nil]; omega, fun i x h => by simp at h⟩
  | t :: r, p, h, h1, h2 => by
    simp only [chainB, Bool.and_eq_true] at h
    obtain ⟨he, ht⟩ := step_of h.1
    have hep := nx_epoch he
    rw [ht] at hep
    obtain ⟨i1, i2⟩ := chain_epoch r t h.2 (by omega) (by omega)
    refine ⟨by simp only [List.length_cons]; omega, fun i x hx => ?_⟩
    cases i with
    | zero =>
      simp only [List.getElem?_cons_zero, Option.some.injEq] at hx
      subst hx
      simp only [Int.natCast_zero]; omega
    | succ i =>
      rw [List.getElem?_cons_succ] at hx
      have := i2 i x hx
      omega
theorem row_len (s : List Batch) : (rowOfS s).length ≤ 201 := by
  have := (chain_epoch _ _ (chain_play s startT) (by decide) (by decide)).1
  show ((playT startT s).1).length + 1 ≤ 201
  have h0 : startT.Epoch = 0 := rfl
  omega
theorem row_epoch (s : List Batch) (i : Nat) (x : Tree) (h : (rowOfS s)[i]? = some x) : x.Epoch = i := by
  cases i with
  | zero =>
    have : startT = x := Option.some.inj h
    rw [← this]; rfl
  | succ i =>
    have := (chain_epoch _ _ (chain_play s startT) (by decide) (by decide)).2 i x h
    have h0 : startT.Epoch = 0 := rfl
    omega
theorem chain_take : ∀ (r : List Tree) (p : Tree) (n : Nat), chainB p r = true → chainB p (r.take n) = true
  | [], p, n, _ => by rw [List.take_nil]; rfl
  | t :: r, p, 0, _ => rfl
  | t :: r, p, n + 1, h => by
    simp only [chainB, Bool.and_eq_true, List.take_succ_cons] at h ⊢
    exact ⟨h.1, chain_take r t n h.2⟩
theorem right_take {row : List Tree} (h : rightR row = true) (n : Nat) (hn : 1 ≤ n) : rightR (row.take n) = true := by
  cases row with
  | nil => cases h
  | cons t r =>
    obtain ⟨m, rfl⟩ : ∃ m, n = m + 1 := ⟨n - 1, by omega⟩
    have h : (decide (t = startT) && chainB t r) = true := h
    show (decide (t = startT) && chainB t (r.take m)) = true
    rw [Bool.and_eq_true] at h ⊢
    exact ⟨h.1, chain_take r t m h.2⟩

/-! ### HistoryFronts -/
theorem eq_law22_HistoryFronts : Eqs c_law22_HistoryFronts g_law22_HistoryFronts := Eqs.tot fun (s, _) _ => by
  change List Batch at s
  show g_law22_HistoryFronts (s, ()) = some (true, ())
  have hl := row_len s
  have h1l : 1 ≤ (rowOfS s).length := by show 1 ≤ ((playT startT s).1).length + 1; omega
  have k1 : decide ((201 : Int) < ((rowOfS s).length : Int)) = false := decide_eq_false (by omega)
  have k2 : decide (((errsOfS s).length : Int) = (s.length : Int)) = true := decide_eq_true (by unfold errsOfS; rw [errs_len])
  simp only [g_law22_HistoryFronts, k1, k2, cond_false, Bool.not_true]
  have l1 : lfp g_law22_HistoryFronts_r1 ((rowOfS s, 1, ()), (), ()) = some (Sum.inr ((rowOfS s, ()), (), ())) := by
    rw [lfp_run' (fun i => ((rowOfS s, ((i + 1 : Nat) : Int), ()), (), ())) (min (rowOfS s).length 12) (by rfl) fun i hi => by
      have d1 : decide (((i + 1 : Nat) : Int) ≤ ((rowOfS s).length : Int)) = true := decide_eq_true (by omega)
      have d2 : decide (((i + 1 : Nat) : Int) ≤ 12) = true := decide_eq_true (by omega)
      have d3 : IntKind.wrap IntKind.i64 (((i + 1 : Nat) : Int) - 1) = (i : Int) := by rw [i64_in _ (by omega)]; omega
      have d4 : decide ((i : Int) < ((rowOfS s).length : Int)) = true := decide_eq_true (by omega)
      have d5 : decide ((lat (rowOfS s) (i : Int)).Epoch = (i : Int)) = true := decide_eq_true (by
        rw [lat_nat _ i (by omega)]
        exact row_epoch s i _ (List.getElem?_eq_getElem (by omega)))
      have d6 : rightR (List.drop 0 (List.take (i + 1) (rowOfS s))) = true := right_take (right_play s) (i + 1) (by omega)
      simp only [g_law22_HistoryFronts_r1, d1, d2, d3, d4, d5, d6, Int.natCast_nonneg, decide_true, Bool.and_self, cond_true, Bool.not_true, cond_false, Int.toNat_natCast, wrap1 (i + 1) (by omega)]]
    refine lfp_inr ?_
    by_cases hc : (rowOfS s).length ≤ 11
    · have d1 : decide (((min (rowOfS s).length 12 + 1 : Nat) : Int) ≤ ((rowOfS s).length : Int)) = false := decide_eq_false (by omega)
      simp only [g_law22_HistoryFronts_r1, d1, cond_false]
    · have d2 : decide (((min (rowOfS s).length 12 + 1 : Nat) : Int) ≤ 12) = false := decide_eq_false (by omega)
      simp only [g_law22_HistoryFronts_r1, d2, cond_false]
      cases decide (((min (rowOfS s).length 12 + 1 : Nat) : Int) ≤ ((rowOfS s).length : Int)) <;> rfl
  have l2 : lfp g_law22_HistoryFronts_r2 ((rowOfS s, 1, ()), (), ()) = some (Sum.inr ((), (), ())) := by
    rw [lfp_run' (fun i => ((rowOfS s, ((i + 1 : Nat) : Int), ()), (), ())) (min ((rowOfS s).length - 1) 12) (by rfl) fun i hi => by
      have d1 : decide (((i + 1 : Nat) : Int) < ((rowOfS s).length : Int)) = true := decide_eq_true (by omega)
      have d2 : decide (((i + 1 : Nat) : Int) ≤ 12) = true := decide_eq_true (by omega)
      have d3 : decide (((i + 1 : Nat) : Int) ≤ ((rowOfS s).length : Int)) = true := decide_eq_true (by omega)
      have d6 : rightR (List.drop (i + 1) (List.take (rowOfS s).length (rowOfS s))) = false := by
        rw [List.take_length, List.drop_eq_getElem_cons (by omega)]
        have he := row_epoch s (i + 1) _ (List.getElem?_eq_getElem (by omega))
        show (decide ((rowOfS s)[i + 1] = startT) && _) = false
        rw [decide_eq_false, Bool.false_and]
        intro h
        rw [h] at he
        have : (0 : Int) = ((i + 1 : Nat) : Int) := he
        omega
      simp only [g_law22_HistoryFronts_r2, d1, d2, d3, d6, Int.natCast_nonneg, decide_true, Bool.and_self, cond_true, cond_false, Int.toNat_natCast, Int.le_refl, wrap1 (i + 1) (by omega)]]
    refine lfp_inr ?_
    by_cases hc : (rowOfS s).length ≤ 12
    · have d1 : decide (((min ((rowOfS s).length - 1) 12 + 1 : Nat) : Int) < ((rowOfS s).length : Int)) = false := decide_eq_false (by omega)
      simp only [g_law22_HistoryFronts_r2, d1, cond_false]
    · have d2 : decide (((min ((rowOfS s).length - 1) 12 + 1 : Nat) : Int) ≤ 12) = false := decide_eq_false (by omega)
      simp only [g_law22_HistoryFronts_r2, d2, cond_false]
      cases decide (((min ((rowOfS s).length - 1) 12 + 1 : Nat) : Int) < ((rowOfS s).length : Int)) <;> rfl
  rw [l1]
  show (lfp g_law22_HistoryFronts_r2 ((rowOfS s, 1, ()), (), ())).bind _ = _
  rw [l2]
  rfl

/-! ### HistoryNames -/
theorem bornAt_get {f F i : Int} {k : Nat} (h : f + k < F) : (bornAt f F i)[k]? = some ⟨f + k, i⟩ := by
  unfold bornAt
  rw [List.getElem?_map, List.getElem?_range (by omega)]
  rfl
theorem names_inner (l : List Reveal) (d : Nat) (f F : Int) (i : Int) (e : List Tree) (ln idx : Int) (t : Tree) (rest : List Reveal) (hl : l.drop d = bornAt f F i ++ rest) (hF : t.Fresh = F) (h1 : 1 ≤ f) (hf : f ≤ F) (hb : F ≤ 32768) (hd : d ≤ l.length) (hd2 : l.length ≤ 1000000) :
    lfp g_law22_HistoryNames_r2 ((l, (d : Int), f, i, (), e, ln, idx, ()), (t, ()), ()) = some (Sum.inr ((l, ((d + (F - f).toNat : Nat) : Int), F, e, ln, idx, ()), (), ())) ∧ d + (F - f).toNat ≤ l.length ∧ l.drop (d + (F - f).toNat) = rest := by
  have hlen : d + (F - f).toNat ≤ l.length := by
    have := congrArg List.length hl
    rw [List.length_drop, List.length_append, bornAt_len] at this
    omega
  refine ⟨?_, hlen, ?_⟩
  · rw [lfp_run' (fun k => ((l, ((d + k : Nat) : Int), f + (k : Int), i, (), e, ln, idx, ()), (t, ()), ())) (F - f).toNat (by simp) fun k hk => by
      have g1 : decide (f + (k : Int) < t.Fresh) = true := decide_eq_true (by omega)
      have g2 : decide ((l.length : Int) ≤ ((d + k : Nat) : Int)) = false := decide_eq_false (by omega)
      have g3 : decide (((d + k : Nat) : Int) < (l.length : Int)) = true := decide_eq_true (by omega)
      have g4 : lat l ((d + k : Nat) : Int) = ⟨f + k, i⟩ := by
        have hk2 : (l.drop d)[k]? = some ⟨f + k, i⟩ := by
          rw [hl, List.getElem?_append_left (by rw [bornAt_len]; exact hk)]
          exact bornAt_get (by omega)
        rw [List.getElem?_drop] at hk2
        obtain ⟨a1, a2⟩ := List.getElem?_eq_some_iff.1 hk2
        rw [lat_nat l (d + k) a1, a2]
      have g5 : IntKind.wrap IntKind.i64 (f + (k : Int) + 1) = f + ((k + 1 : Nat) : Int) := by rw [i64_in _ (by omega)]; omega
      simp only [g_law22_HistoryNames_r2, g1, g2, g3, g4, g5, Int.natCast_nonneg, decide_true, Bool.and_self, cond_true, cond_false, Bool.not_true, wrap1 (d + k) (by omega)]
      rfl]
    refine lfp_inr ?_
    have e1 : f + ((F - f).toNat : Int) = F := by omega
    have g1 : decide (F < t.Fresh) = false := decide_eq_false (by omega)
    simp only [g_law22_HistoryNames_r2, e1, g1, cond_false]
  · have : l.drop (d + (F - f).toNat) = (l.drop d).drop (F - f).toNat := by rw [List.drop_drop]
    rw [this, hl, List.drop_left' (bornAt_len f F i)]
theorem names_round (l : List Reveal) (row : List Tree) (d i : Nat) (f : Int) (t : Tree) (r : List Tree) (hi : row.drop i = t :: r) (hl : l.drop d = bornAt f t.Fresh i ++ bornGo t.Fresh (i + 1) r) (h1 : 1 ≤ f) (hf : f ≤ t.Fresh) (hb : t.Fresh ≤ 32768) (hd : d ≤ l.length) (hd2 : l.length ≤ 1000000) (hr : row.length ≤ 201) :
    ∃ d' : Nat, g_law22_HistoryNames_r1 ((l, (d : Int), f, row, (row.length : Int), (i : Int), ()), (), ()) = some (Sum.inl ((l, (d' : Int), t.Fresh, row, (row.length : Int), ((i + 1 : Nat) : Int), ()), (), ())) ∧ d' ≤ l.length ∧ l.drop d' = bornGo t.Fresh (i + 1) r := by
  obtain ⟨a1, a2, a3⟩ := names_inner l d f t.Fresh i row (row.length : Int) (i : Int) t (bornGo t.Fresh (i + 1) r) hl rfl h1 hf hb hd hd2
  obtain ⟨hil, hx, _⟩ := lat_drop hi
  refine ⟨d + (t.Fresh - f).toNat, ?_, a2, a3⟩
  have k1 : decide ((i : Int) < (row.length : Int)) = true := decide_eq_true (by omega)
  simp only [g_law22_HistoryNames_r1, k1, hx, Int.natCast_nonneg, decide_true, Bool.and_self, cond_true, a1, Option.bind_some, Sum.elim_inr, wrap1 i (by omega)]
theorem names_loop (l : List Reveal) (row : List Tree) (hd2 : l.length ≤ 1000000) (hr : row.length ≤ 201) : ∀ (r : List Tree) (i d : Nat) (p : Tree), row.drop i = r → chainB p r = true → l.drop d = bornGo p.Fresh i r → d ≤ l.length → 1 ≤ p.Fresh →
    ∃ _ : Int, lfp g_law22_HistoryNames_r1 ((l, (d : Int), p.Fresh, row, (row.length : Int), (i : Int), ()), (), ()) = some (Sum.inr ((l, (l.length : Int), ()), (), ()))
  | [], i, d, p, hi, _, hl, hd, _ => by
    have hlr : row.length ≤ i := List.drop_eq_nil_iff.1 hi
    have hld : l.length ≤ d := List.drop_eq_nil_iff.1 hl
    refine ⟨0, lfp_inr ?_⟩
    have k1 : decide ((i : Int) < (row.length : Int)) = false := decide_eq_false (by omega)
    have e : d = l.length := by omega
    simp only [g_law22_HistoryNames_r1, k1, cond_false, e]
  | t :: r, i, d, p, hi, hc, hl, hd, hp => by
    simp only [chainB, Bool.and_eq_true] at hc
    obtain ⟨he, ht⟩ := step_of hc.1
    have hro := nx_room he
    have hfr := nx_fresh he
    rw [ht] at hro hfr
    rw [ht] at *
    have hcn := cntTo_le (replaced (nextT p (cameB p t)).left) 21
    obtain ⟨d', b1, b2, b3⟩ := names_round l row d i p.Fresh t r hi hl hp (by omega) hro.1 hd hd2 hr
    obtain ⟨n, hn⟩ := names_loop l row hd2 hr r (i + 1) d' t (lat_drop hi).2.2 hc.2 (by rw [b3]; rfl) b2 (by omega)
    exact ⟨n, (lfp_inl b1).trans hn⟩
theorem bornGo_len : ∀ (r : List Tree) (p : Tree) (i : Int), chainB p r = true → p.Fresh ≤ 32768 → ((bornGo p.Fresh i r).length : Int) + p.Fresh ≤ 32768
  | [], p, i, _, h => by simpa [bornGo] using h
  | t :: r, p, i, hc, h => by
    simp only [chainB, Bool.and_eq_true] at hc
    obtain ⟨he, ht⟩ := step_of hc.1
    have hro := nx_room he
    have hfr := nx_fresh he
    have hcn := cntTo_le (replaced (nextT p (cameB p t)).left) 21
    rw [ht] at hro hfr
    have := bornGo_len r t (i + 1) hc.2 hro.1
    rw [bornGo_cons, List.length_append, bornAt_len]
    omega
theorem eq_law22_HistoryNames : Eqs c_law22_HistoryNames g_law22_HistoryNames := Eqs.tot fun (s, _) _ => by
  change List Batch at s
  show g_law22_HistoryNames (s, ()) = some (true, ())
  have hl := row_len s
  have hch := chain_play s startT
  have hb : bornR (rowOfS s) = bornAt 1 22 0 ++ bornGo startT.Fresh 1 (playT startT s).1 := by
    unfold bornR
    rw [right_play]
    rfl
  have hbl := bornGo_len _ startT 1 hch (by decide)
  have hs22 : startT.Fresh = 22 := rfl
  have hlen : (bornR (rowOfS s)).length ≤ 1000000 := by rw [hb, List.length_append, bornAt_len]; omega
  obtain ⟨d', b1, b2, b3⟩ := names_round (bornR (rowOfS s)) (rowOfS s) 0 0 1 startT (playT startT s).1 rfl (by rw [hb]; rfl) (by decide) (by decide) (by decide) (by omega) hlen hl
  obtain ⟨n, hn⟩ := names_loop (bornR (rowOfS s)) (rowOfS s) hlen hl (playT startT s).1 1 d' startT rfl hch (by rw [b3]; rfl) b2 (by decide)
  simp only [g_law22_HistoryNames]
  rw [show lfp g_law22_HistoryNames_r1 ((bornR (rowOfS s), 0, 1, rowOfS s, ((rowOfS s).length : Int), 0, ()), (), ()) = _ from (lfp_inl b1).trans hn]
  simp

/-! ### HistoryOneWay -/
/-- What was seen up to a tree: no step below what a node of it has. -/
def SeenT (p : Tree) (h : List (Int × Int)) : Prop := ∀ n s, mget h n = some s → n < p.Fresh ∧ ∀ w : Nat, w < 85 → (ofT p w).2 = 0 → (ofT p w).1.Base = n → s ≤ (ofT p w).1.Step
/-- The same, in the midst of the next tree t. -/
def SeenV (p t : Tree) (v : Nat) (h : List (Int × Int)) : Prop := ∀ n s, mget h n = some s → (∃ w : Nat, w < v ∧ w < 85 ∧ (ofT t w).2 = 0 ∧ (ofT t w).1.Base = n ∧ (ofT t w).1.Step = s) ∨
  (n < p.Fresh ∧ ∀ w : Nat, w < 85 → (ofT t w).2 = 0 → (ofT t w).1.Base = n → s < (ofT t w).1.Step)
theorem SeenV.put {p t : Tree} {v : Nat} {h : List (Int × Int)} (hs : SeenV p t v h) (hv : v < 85) (h0 : (ofT t v).2 = 0) : SeenV p t (v + 1) (mput h (ofT t v).1.Base (ofT t v).1.Step) := by
  intro n s hm
  rw [mget_mput] at hm
  by_cases he : (ofT t v).1.Base = n
  · rw [if_pos he] at hm
    exact .inl ⟨v, by omega, hv, h0, he, Option.some.inj hm⟩
  · rw [if_neg he] at hm
    rcases hs n s hm with ⟨w, a1, a2⟩ | a
    · exact .inl ⟨w, by omega, a2⟩
    · exact .inr a
theorem SeenV.skip {p t : Tree} {v : Nat} {h : List (Int × Int)} (hs : SeenV p t v h) : SeenV p t (v + 1) h := fun n s hm => by
  rcases hs n s hm with ⟨w, a1, a2⟩ | a
  · exact .inl ⟨w, by omega, a2⟩
  · exact .inr a
theorem SeenV.less {p t : Tree} {v : Nat} {h : List (Int × Int)} (hg : goodTree t = true) (hs : SeenV p t v h) (hv : v < 85) (h0 : (ofT t v).2 = 0) {s : Int} (hm : mget h (ofT t v).1.Base = some s) : s < (ofT t v).1.Step := by
  rcases hs _ s hm with ⟨w, a1, a2, a3, a4, a5⟩ | a
  · exact absurd a4 (ofT_names hg hv a1 h0 a3)
  · exact a.2 v hv h0 rfl
theorem SeenV.done {p t : Tree} {h : List (Int × Int)} (hg : goodTree t = true) (hf : p.Fresh ≤ t.Fresh) (hs : SeenV p t 85 h) : SeenT t h := fun n s hm => by
  rcases hs n s hm with ⟨w, a1, a2, a3, a4, a5⟩ | a
  · refine ⟨by have := (ofT_ok hg a2 a3).2.1; omega, fun x hx h1 h2 => ?_⟩
    rcases Nat.lt_trichotomy w x with hl | rfl | hl
    · exact absurd (a4.trans h2.symm) (ofT_names hg hx hl h1 a3)
    · omega
    · exact absurd (h2.trans a4.symm) (ofT_names hg a2 hl a3 h1)
  · exact ⟨by omega, fun x hx h1 h2 => by have := a.2 x hx h1 h2; omega⟩
theorem SeenT.next {p : Tree} {b : Batch} (h : (nextT p b).e = 0) {m : List (Int × Int)} (hs : SeenT p m) : SeenV p (nextT p b).t 0 m := fun n s hm => by
  obtain ⟨h1, h2⟩ := hs n s hm
  refine .inr ⟨h1, fun w hw h0 hb => ?_⟩
  rcases st_of h hw h0 with hf | ⟨a1, a2, _⟩
  · omega
  · rw [a2] at hb ⊢
    have := h2 w hw a1 hb
    show s < (ofT p w).1.Step + 1
    omega
theorem one_gives {p : Tree} {b : Batch} (h : (nextT p b).e = 0) {v : Nat} (hv : v < 21) : gives (ofT (nextT p b).t v).1 (Arr.get p.Keys (v : Int)) = false := by
  cases hgv : gives (ofT (nextT p b).t v).1 (Arr.get p.Keys (v : Int)) with
  | false => rfl
  | true =>
    exfalso
    obtain ⟨_, _, e1, e2⟩ := gives_iff.1 hgv
    have hg := (nextT_ok h).1
    have hi : (ofT p v) = (Arr.get p.Keys (v : Int), 0) := ofT_inner p hv
    have hlt := (ofT_ok hg (show v < 85 by omega) (by rw [hi])).2.1
    rw [hi] at hlt
    rcases st_of h (show v < 85 by omega) (by rw [ofT_inner _ hv]) with g1 | ⟨_, g2, _⟩
    · rw [e1] at g1
      simp only at hlt
      omega
    · rw [g2, hi] at e2
      simp only at e2
      omega
theorem one_round (row : List Tree) (i : Nat) (t p : Tree) (e : List Tree) (ln idx : Int) (hi : i ≤ 201) (hg : goodTree t = true) (hi0 : i = 0 ∨ (row.length > i - 1 ∧ lat row ((i - 1 : Nat) : Int) = p ∧ ∃ b, (nextT p b).e = 0 ∧ (nextT p b).t = t)) (h : List (Int × Int)) (hs : SeenV p t 0 h) :
    ∃ h', SeenV p t 85 h' ∧ lfp g_law22_HistoryOneWay_r2 ((row, (), (i : Int), (), 0, e, ln, idx, ()), (t, ()), h, ()) = some (Sum.inr ((row, (), e, ln, idx, ()), (), h', ())) := by
  have main : ∀ (d v : Nat) (h : List (Int × Int)), v + d = 85 → SeenV p t v h → ∃ h', SeenV p t 85 h' ∧ lfp g_law22_HistoryOneWay_r2 ((row, (), (i : Int), (), (v : Int), e, ln, idx, ()), (t, ()), h, ()) = some (Sum.inr ((row, (), e, ln, idx, ()), (), h', ())) := by
    intro d
    induction d with
    | zero =>
      intro v h hv hs
      have : v = 85 := by omega
      subst this
      exact ⟨h, hs, lfp_inr (by simp only [g_law22_HistoryOneWay_r2]; rfl)⟩
    | succ d ih =>
      intro v h hv hs
      have k1 : decide ((v : Int) < 85) = true := decide_eq_true (by omega)
      by_cases h0 : (ofT t v).2 = 0
      · have hv85 : v < 85 := by omega
        obtain ⟨h', p1, p2⟩ := ih (v + 1) _ (by omega) (hs.put hv85 h0)
        refine ⟨h', p1, Eq.trans (lfp_inl ?_) p2⟩
        have hless : (decide ((ofT t v).1.Step ≤ Option.getD (mget h (ofT t v).1.Base) 0) && (mget h (ofT t v).1.Base).isSome) = false := by
          cases hm : mget h (ofT t v).1.Base with
          | none => simp
          | some s =>
            have := hs.less hg hv85 h0 hm
            simp only [Option.getD_some, Option.isSome_some, Bool.and_true]
            exact decide_eq_false (by omega)
        have tail : (bif decide ((0 : Int) < (i : Int)) then bif decide ((v : Int) < 21) then bif decide (0 ≤ IntKind.wrap IntKind.i64 ((i : Int) - 1)) && decide (IntKind.wrap IntKind.i64 ((i : Int) - 1) < (row.length : Int)) then bif decide (0 ≤ (v : Int)) && decide ((v : Int) < 21) then bif gives (ofT t v).fst (Arr.get (lat row (IntKind.wrap IntKind.i64 ((i : Int) - 1))).Keys (v : Int)) then (some (Sum.inr (Sum.inl ((false, ()), (), ()))) : Option (((List Tree × Unit × Int × Unit × Int × List Tree × Int × Int × Unit) × (Tree × Unit) × List (Int × Int) × Unit) ⊕ ((Bool × Unit) × Unit × Unit ⊕ (List Tree × Unit × List Tree × Int × Int × Unit) × Unit × List (Int × Int) × Unit))) else some (Sum.inl ((row, (), (i : Int), (), IntKind.wrap IntKind.i64 ((v : Int) + 1), e, ln, idx, ()), (t, ()), mput h (ofT t v).fst.Base (ofT t v).fst.Step, ())) else none else none else some (Sum.inl ((row, (), (i : Int), (), IntKind.wrap IntKind.i64 ((v : Int) + 1), e, ln, idx, ()), (t, ()), mput h (ofT t v).fst.Base (ofT t v).fst.Step, ())) else some (Sum.inl ((row, (), (i : Int), (), IntKind.wrap IntKind.i64 ((v : Int) + 1), e, ln, idx, ()), (t, ()), mput h (ofT t v).fst.Base (ofT t v).fst.Step, ())))
            = some (Sum.inl ((row, (), (i : Int), (), ((v + 1 : Nat) : Int), e, ln, idx, ()), (t, ()), mput h (ofT t v).fst.Base (ofT t v).fst.Step, ())) := by
          rw [wrap1 v (by omega)]
          rcases hi0 with rfl | ⟨hl, hp, b, hb, rfl⟩
          · rfl
          · by_cases hi1 : 0 < i
            · have d1 : decide ((0 : Int) < (i : Int)) = true := decide_eq_true (by omega)
              have w1 : IntKind.wrap IntKind.i64 ((i : Int) - 1) = ((i - 1 : Nat) : Int) := by rw [i64_in _ (by omega)]; omega
              have d2 : decide (((i - 1 : Nat) : Int) < (row.length : Int)) = true := decide_eq_true (by omega)
              rw [d1, w1, d2, hp]
              by_cases hv21 : v < 21
              · have d3 : decide ((v : Int) < 21) = true := decide_eq_true (by omega)
                rw [d3, one_gives hb hv21]
                simp only [Int.natCast_nonneg, decide_true, Bool.and_self, cond_true, cond_false]
              · have d3 : decide ((v : Int) < 21) = false := decide_eq_false (by omega)
                rw [d3]; rfl
            · have d1 : decide ((0 : Int) < (i : Int)) = false := decide_eq_false (by omega)
              rw [d1]; rfl
        simp only [g_law22_HistoryOneWay_r2, k1, h0, decide_true, Bool.not_true, cond_true, cond_false, tail]
        cases hm : (mget h (ofT t v).1.Base).isSome with
        | false => rfl
        | true =>
          rw [hm, Bool.and_true] at hless
          rw [hless]; rfl
      · obtain ⟨h', p1, p2⟩ := ih (v + 1) h (by omega) hs.skip
        refine ⟨h', p1, Eq.trans (lfp_inl ?_) p2⟩
        simp only [g_law22_HistoryOneWay_r2, k1, decide_eq_false h0, Bool.not_false, cond_true, wrap1 v (by omega)]
  exact main 85 0 h rfl hs
theorem one_step (row : List Tree) (hl : row.length ≤ 201) (i : Nat) (t p : Tree) (r : List Tree) (hd : row.drop i = t :: r) (hg : goodTree t = true) (hf : p.Fresh ≤ t.Fresh) (hi0 : i = 0 ∨ (row.length > i - 1 ∧ lat row ((i - 1 : Nat) : Int) = p ∧ ∃ b, (nextT p b).e = 0 ∧ (nextT p b).t = t)) (h : List (Int × Int)) (hs : SeenV p t 0 h) :
    ∃ h', SeenT t h' ∧ g_law22_HistoryOneWay_r1 ((row, (), row, (row.length : Int), (i : Int), ()), (), h, ()) = some (Sum.inl ((row, (), row, (row.length : Int), ((i + 1 : Nat) : Int), ()), (), h', ())) := by
  obtain ⟨hil, hx, _⟩ := lat_drop hd
  obtain ⟨h', p1, p2⟩ := one_round row i t p row (row.length : Int) (i : Int) (by omega) hg hi0 h hs
  refine ⟨h', p1.done hg hf, ?_⟩
  have k1 : decide ((i : Int) < (row.length : Int)) = true := decide_eq_true (by omega)
  simp only [g_law22_HistoryOneWay_r1, k1, hx, Int.natCast_nonneg, decide_true, Bool.and_self, cond_true, p2, Option.bind_some, Sum.elim_inr, wrap1 i (by omega)]
theorem one_loop (row : List Tree) (hl : row.length ≤ 201) : ∀ (r : List Tree) (i : Nat) (p : Tree) (h : List (Int × Int)), row.drop (i + 1) = r → i < row.length → lat row (i : Int) = p → chainB p r = true → SeenT p h →
    lfp g_law22_HistoryOneWay_r1 ((row, (), row, (row.length : Int), ((i + 1 : Nat) : Int), ()), (), h, ()) = some (Sum.inr ((), (), ()))
  | [], i, p, h, hd, _, _, _, _ => by
    have hlr : row.length ≤ i + 1 := List.drop_eq_nil_iff.1 hd
    refine lfp_inr ?_
    have k1 : decide (((i + 1 : Nat) : Int) < (row.length : Int)) = false := decide_eq_false (by omega)
    simp only [g_law22_HistoryOneWay_r1, k1, cond_false]
  | t :: r, i, p, h, hd, hi, hp, hc, hs => by
    simp only [chainB, Bool.and_eq_true] at hc
    obtain ⟨he, ht⟩ := step_of hc.1
    have hro := nx_room he
    have hfr := nx_fresh he
    have hcn := cntTo_le (replaced (nextT p (cameB p t)).left) 21
    have hgt := nx_good he
    have hsn := hs.next he
    rw [ht] at hro hfr hgt hsn
    obtain ⟨a1, a2, a3⟩ := lat_drop hd
    obtain ⟨h', p1, p2⟩ := one_step row hl (i + 1) t p r hd hgt (by omega) (.inr ⟨by simpa using hi, by simpa using hp, _, he, ht⟩) h hsn
    exact (lfp_inl p2).trans (one_loop row hl r (i + 1) t h' a3 a1 a2 hc.2 p1)
theorem eq_law22_HistoryOneWay : Eqs c_law22_HistoryOneWay g_law22_HistoryOneWay := Eqs.tot fun (s, _) _ => by
  change List Batch at s
  show g_law22_HistoryOneWay (s, ()) = some (true, ())
  have hl := row_len s
  obtain ⟨h', p1, p2⟩ := one_step (rowOfS s) hl 0 startT startT (playT startT s).1 rfl good_start22 (Int.le_refl _) (.inl rfl) [] (fun n s hm => by simp [mget] at hm)
  simp only [g_law22_HistoryOneWay]
  rw [show lfp g_law22_HistoryOneWay_r1 ((rowOfS s, (), rowOfS s, ((rowOfS s).length : Int), 0, ()), (), [], ()) = _ from (lfp_inl p2).trans (one_loop (rowOfS s) hl (playT startT s).1 0 startT h' rfl (by show 0 < ((playT startT s).1).length + 1; omega) rfl (chain_play s startT) p1)]
  rfl
end Go.Co.N
end

section
namespace Go.Proofs.YtghlolinkmlkeaaDoor
open Go Go.Co Go.Co.N Go.Proofs

/-! ### The piece -/
noncomputable def bornLs : List (Nat × List (Nat × LD)) := [(16, [(8, ⟨⟨[(3, .mp 5), (21, .hole (.arr 64 (.st .entry))), (22, .hole .i)], [], [(5, .i, .i)]⟩, [(.exit 2, ⟨[(3, .mp 5)], [], [(5, .i, .i)]⟩)], 11, [1000000, 5]⟩), (3, ⟨⟨[(1, .ptr 4 []), (3, .mp 5), (10, .hole (.arr 21 (.st .key))), (11, .hole .i)], [(4, (.st .tree), .hole (.st .tree))], [(5, .i, .i)]⟩, [(.exit 0, ⟨[(1, .ptr 4 []), (3, .mp 5)], [(4, (.st .tree), .hole (.st .tree))], [(5, .i, .i)]⟩)], 11, [1000000, 4, 5]⟩)])]
noncomputable def bornL : List (Nat × LD) := [(6, ⟨⟨[(3, .row (.st .reveal)), (4, .omp .i .i), (14, .hole (.list (.st .tree))), (15, .hole .i), (16, .hole .i)], [], []⟩, [(.exit 0, ⟨[(3, .row (.st .reveal))], [], []⟩)], 80, []⟩)]
noncomputable def bornB : Bodies := [bodyLine 16 Tryd.f16]
noncomputable abbrev bornE0 : EE := EF [(9, c_history_Right)] [] bornLs bornB 4 bornL
noncomputable def bornE : EE := { bornE0 with sp := fun i => match Nat.beq i 10 with | true => some bornH | false => Option.none }
noncomputable def pieceB : Code := (hits 10 (body Tryd.f8)).headD .skip
noncomputable def rB (i : Nat) : Array Oper := regOps i pieceB
noncomputable def oB (i j : Nat) : Oper := (rB i).getD j default
noncomputable def restB : Code := .seq (.region 13 (rB 13) false) (.cond (.tmp 34) (.region 14 (rB 14) false) .skip)
noncomputable def endB : Code := .seq (.region 15 (rB 15) false) (.region 16 (rB 16) false)
noncomputable def loopB : Code := .seq (.region 10 (rB 10) false) (.block 2 (.loop (.seq (.region 11 (rB 11) false) (.seq (.cond (.tmp 28) .skip (.exit 2)) (.block 3 (.seq (.region 12 (rB 12) false) restB))))))
theorem piece_eq : hits 10 (body Tryd.f8) = [.seq loopB endB] := by kernel_rfl
theorem ops10 : (rB 10).toList = [oB 10 0, oB 10 1] := by kernel_rfl
theorem ops11 : (rB 11).toList = [oB 11 0, oB 11 1] := by kernel_rfl
theorem ops12 : (rB 12).toList = [oB 12 0, oB 12 1, oB 12 2] := by kernel_rfl
theorem hgsB : ∀ o ∈ [oB 10 0, oB 10 1, oB 11 0, oB 11 1, oB 12 0, oB 12 1, oB 12 2], o.guard = Option.none := by
  have h : [oB 10 0, oB 10 1, oB 11 0, oB 11 1, oB 12 0, oB 12 1, oB 12 2].all (fun o => o.guard.isNone) = true := by kernel_rfl
  intro o ho
  have := List.all_eq_true.1 h o ho
  simpa using this
theorem round_run (lw : List (Int × Int)) (i fr : Int) (ts : List Co.Tree) (len idx : Int) (xs : List Co.Reveal) (x : Int × Int) :
    evC bornE0 48 restB bornD.den ⟨putD (putD (mkD bornD 30 31 ((xs, (), i, (), fr, ts, len, idx, (), ()), (), lw, ())).slots (some 30) (.val .i x.1)) (some 9) (.val .i x.1), (mkD bornD 30 31 ((xs, (), i, (), fr, ts, len, idx, (), ()), (), lw, ())).mem, 31⟩ (rngK bornD 30 29) = born_round lw i fr ts len idx xs x := by kernel_rfl
theorem end_run (ln lw : List (Int × Int)) (i fr : Int) (ts : List Co.Tree) (len idx : Int) (xs : List Co.Reveal) (xs0 : List Co.Reveal) :
    evC bornE0 48 endB bornO.den (keepS (fun x => Nat.beq x 5) (mkD bornI 28 29 ((xs0, (), i, (), fr, ts, len, idx, ()), (), lw, ln, ())).mem (mkD bornD 30 31 ((xs, (), i, (), fr, ts, len, idx, (), ()), (), lw, ()))) (rngO 60) = born_end ln fr ts len idx xs := by kernel_rfl
theorem start_run (ln lw : List (Int × Int)) (i fr : Int) (ts : List Co.Tree) (len idx : Int) (xs : List Co.Reveal) :
    rdD bornD 30 ⟨putD (putD (mkD bornI 28 29 ((xs, (), i, (), fr, ts, len, idx, ()), (), lw, ln, ())).slots (some 25) (.mp 5)) (some 26) (.ptr 29 []), (dropS (fun x => Nat.beq x 5) (mkD bornI 28 29 ((xs, (), i, (), fr, ts, len, idx, ()), (), lw, ln, ()))).mem, 30⟩ = some ((xs, (), i, (), fr, ts, len, idx, (), ()), (), lw, ()) := by kernel_rfl
theorem piece_ok {C : Ctx} (hP : C.P = Tryd.prog) (hc : ConOK Tryd.prog 9 c_history_Right) : ∀ p ∈ hits 10 (body Tryd.f8), ∀ R s K y, bornH R s K = some y → ∃ s', Tri Tryd.prog C 48 p s .normal s' ∧ K s' = some y := by
  intro p hp R s K y hs
  rw [piece_eq, List.mem_singleton] at hp
  subst hp
  obtain ⟨hnx, xs, i, fr, ts, len, idx, lw, ln, hrd, hfr, hb1, hk⟩ := bornH_some hs
  have hE : EOK Tryd.prog C bornE0 := EF_ok (ConsOK.cons hc ConsOK.nil) bornLs (BodiesOK.cons Tryd.func16 rfl BodiesOK.nil) C hP 4 bornL
  have hlp : LpOK Tryd.prog C 48 bornE0 := lpM_ok (EF_lp bornLs bornB 4 bornL)
  have h0 : ∀ q, bornE0.sp q = Option.none := EF_sp bornLs bornB 4 bornL
  refine ⟨_, ⟨by rw [hnx]; show 28 ≤ 60; omega, fun U e a Q hu hf hq => ?_⟩, hk⟩
  rw [hnx] at hu
  have hu : free U 28 60 := hu
  obtain ⟨e1, hw1, hx1, hfr1, hf1⟩ := refit hf (U0 := U) (fun x h => .inl h) hf.mem.nx (fun x h1 h2 => hu x h1 (by have : bornI.rows = 1 := rfl; omega)) (Ext.refl e) (Frm.refl e _) hrd 29
  rw [← hw1]
  have hrI : bornI.rows = 1 := rfl
  have hrD : bornD.rows = 1 := rfl
  refine wp_seq (range_wp (P := Tryd.prog) (C := C) (n := 48) (r10 := rB 10) (r11 := rB 11) (r12 := rB 12) (i10 := 10) (i11 := 11) (i12 := 12) (j := 2) (k := 3) (dm := 7) (d25 := 25) (d26 := 26) (d27 := 27) (d28 := 28) (d29 := 29) (d30 := 30) (d9 := 9) (tm := 44) (rest := restB) (kid := 3) (eid := 3)
    ops10 ops11 ops12 hgsB (by kernel_rfl) (by kernel_rfl) (by kernel_rfl) (by kernel_rfl) (by kernel_rfl) (by kernel_rfl) (by kernel_rfl) (by kernel_rfl) (by kernel_rfl) (by kernel_rfl) (by kernel_rfl) (by kernel_rfl) (by kernel_rfl) (by kernel_rfl)
    ⟨by omega, by omega, by omega, by omega, by omega, by omega, by omega⟩ ⟨by omega, by omega⟩ Tryd.underlying44
    (D := bornD) (s := mkD bornI 28 29 ((xs, (), i, (), fr, ts, len, idx, ()), (), lw, ln, ())) (b := 5) (room := 29) (kt := .i) (vt := .i) (l := ln) (fun done => ((xs ++ pickB22 lw i done, (), i, (), fr, ts, len, idx, (), ()), (), lw, ()))
    rfl rfl ((start_run ln lw i fr ts len idx xs).trans (by simp [pickB22]; rfl)) (evC_ok hE rfl hlp h0 restB) ?_ (fun y => ⟨rfl, rfl, rfl⟩) (fun y => rfl) (by rw [hrD]; omega) (U := taken U 28 (28 + bornI.rows)) (e := e1) (a := a) ?_ hf1 ?_)
  · intro done x hperm
    exact (round_run lw i fr ts len idx (xs ++ pickB22 lw i done) x).trans (born_round_ok hperm hb1)
  · intro x h1 h2 h3
    have h1 : 29 ≤ x := h1
    have h2 : x < 59 := h2
    rcases h3 with h3 | h3
    · exact hu x (by omega) (by omega) h3
    · rw [hrI] at h3; omega
  · intro π e2 a2 hπ hf2 hx2 hfr2
    have hend := end_run ln lw i fr ts len idx (xs ++ pickB22 lw i π) xs
    rw [born_end_ok hπ hfr] at hend
    obtain ⟨r, s2, ht, hk⟩ := evC_ok hE rfl hlp h0 endB _ _ _ _ hend
    obtain ⟨rfl, hnx2, hrd2⟩ := rngO_some hk
    have hle2 : 31 ≤ s2.nx := ht.1
    refine ht.2 _ e2 a2 _ (fun x h1 h2 h3 => ?_) hf2 fun e3 a3 q1 q2 q3 => ?_
    · have h1 : 31 ≤ x := h1
      rcases h3 with (h3 | h3) | h3
      · exact hu x (by omega) (by omega) h3
      · rw [hrI] at h3; omega
      · have : x < 29 + 1 + 1 := h3.2
        omega
    · obtain ⟨e4, p1, p2, p3, p4⟩ := refit q1 (U0 := U) (fun x hx => by
        rcases hx with ((hx | hx) | hx) | hx
        · exact .inl hx
        · exact .inr hx.1
        · have : 29 ≤ x := hx.1
          exact .inr (by omega)
        · have : 31 ≤ x := hx.1
          exact .inr (by omega)) hf.mem.nx (fun x h1 h2 => hu x h1 (by have : bornO.rows = 2 := rfl; omega)) (hx1.trans (hx2.trans q2)) (hfr1.trans (hfr2.trans q3)) hrd2 60
      have hw := hq e4 a3 (p4.widen fun x hx => by
        rcases hx with hx | hx
        · exact .inl hx
        · refine .inr ⟨by rw [hnx]; exact hx.1, ?_⟩
          have : bornO.rows = 2 := rfl
          show x < 60
          omega) p2 p3
      rw [p1] at hw
      exact hw
end Go.Proofs.YtghlolinkmlkeaaDoor
end

section
namespace Go.Proofs.YtghlolinkmlkeaaDoor
open Go Go.Co Go.Co.N Go.Proofs
noncomputable def L_key_Good : List (Nat × LD) := []
noncomputable def Ls_key_Good : List (Nat × List (Nat × LD)) := []
noncomputable def B_key_Good : Bodies := []
theorem run_key_Good (x : denL [(.st .key)]) : run [] L_key_Good Ls_key_Good B_key_Good Tryd.f76 [(.st .key)] [.bool] x = g_key_Good x := by kernel_rfl
theorem ok_key_Good : ConOK Tryd.prog 76 c_key_Good := con_ok (ConsOK.nil) L_key_Good Ls_key_Good (B := B_key_Good) (BodiesOK.nil) Tryd.func76 rfl fun x y hf h => (run_key_Good x).trans (eq_key_Good x y hf h)
noncomputable def L_ref02_Good : List (Nat × LD) := []
noncomputable def Ls_ref02_Good : List (Nat × List (Nat × LD)) := []
noncomputable def B_ref02_Good : Bodies := []
theorem run_ref02_Good (x : denL [(.st .key)]) : run [] L_ref02_Good Ls_ref02_Good B_ref02_Good Tryd.f23 [(.st .key)] [.bool] x = g_ref02_Good x := by kernel_rfl
theorem ok_ref02_Good : ConOK Tryd.prog 23 c_ref02_Good := con_ok (ConsOK.nil) L_ref02_Good Ls_ref02_Good (B := B_ref02_Good) (BodiesOK.nil) Tryd.func23 rfl fun x y hf h => (run_ref02_Good x).trans (eq_ref02_Good x y hf h)
noncomputable def L_key_Ahead : List (Nat × LD) := []
noncomputable def Ls_key_Ahead : List (Nat × List (Nat × LD)) := []
noncomputable def B_key_Ahead : Bodies := []
theorem run_key_Ahead (x : denL [(.st .key), .i]) : run [(76, c_key_Good)] L_key_Ahead Ls_key_Ahead B_key_Ahead Tryd.f73 [(.st .key), .i] [(.st .key), .i] x = g_key_Ahead x := by kernel_rfl
theorem ok_key_Ahead : ConOK Tryd.prog 73 c_key_Ahead := con_ok (ConsOK.cons ok_key_Good (ConsOK.nil)) L_key_Ahead Ls_key_Ahead (B := B_key_Ahead) (BodiesOK.nil) Tryd.func73 rfl fun x y hf h => (run_key_Ahead x).trans (eq_key_Ahead x y hf h)
noncomputable def L_key_Seal : List (Nat × LD) := []
noncomputable def Ls_key_Seal : List (Nat × List (Nat × LD)) := []
noncomputable def B_key_Seal : Bodies := []
theorem run_key_Seal (x : denL [(.st .key), (.st .key)]) : run [(76, c_key_Good)] L_key_Seal Ls_key_Seal B_key_Seal Tryd.f49 [(.st .key), (.st .key)] [(.st .box), .i] x = g_key_Seal x := by kernel_rfl
theorem ok_key_Seal : ConOK Tryd.prog 49 c_key_Seal := con_ok (ConsOK.cons ok_key_Good (ConsOK.nil)) L_key_Seal Ls_key_Seal (B := B_key_Seal) (BodiesOK.nil) Tryd.func49 rfl fun x y hf h => (run_key_Seal x).trans (eq_key_Seal x y hf h)
noncomputable def L_ratchet_Check : List (Nat × LD) := [(3, ⟨⟨[(3, .mp 1), (7, .hole (.arr 21 (.st .key))), (8, .hole .i)], [], [(1, .i, .i)]⟩, [(.ret, ⟨[(2, .hole .i)], [], []⟩), (.exit 0, ⟨[], [], []⟩)], 11, []⟩)]
noncomputable def Ls_ratchet_Check : List (Nat × List (Nat × LD)) := []
noncomputable def B_ratchet_Check : Bodies := []
theorem run_ratchet_Check (x : denL [(.arr 21 (.st .key))]) : run [(76, c_key_Good)] L_ratchet_Check Ls_ratchet_Check B_ratchet_Check Tryd.f67 [(.arr 21 (.st .key))] [.i] x = g_ratchet_Check x := by kernel_rfl
theorem ok_ratchet_Check : ConOK Tryd.prog 67 c_ratchet_Check := con_ok (ConsOK.cons ok_key_Good (ConsOK.nil)) L_ratchet_Check Ls_ratchet_Check (B := B_ratchet_Check) (BodiesOK.nil) Tryd.func67 rfl fun x y hf h => (run_ratchet_Check x).trans (eq_ratchet_Check x y hf h)
noncomputable def L_ratchet_free : List (Nat × LD) := [(6, ⟨⟨[(1, .hole .i), (2, .hole .i), (19, .hole (.arr 21 (.st .key))), (20, .hole .i)], [], []⟩, [(.ret, ⟨[(6, .hole .bool)], [], []⟩), (.exit 0, ⟨[], [], []⟩)], 11, []⟩)]
noncomputable def Ls_ratchet_free : List (Nat × List (Nat × LD)) := []
noncomputable def B_ratchet_free : Bodies := []
theorem run_ratchet_free (x : denL [(.arr 21 (.st .key)), .i, .i]) : run [] L_ratchet_free Ls_ratchet_free B_ratchet_free Tryd.f72 [(.arr 21 (.st .key)), .i, .i] [.bool] x = g_ratchet_free x := by kernel_rfl
theorem ok_ratchet_free : ConOK Tryd.prog 72 c_ratchet_free := con_ok (ConsOK.nil) L_ratchet_free Ls_ratchet_free (B := B_ratchet_free) (BodiesOK.nil) Tryd.func72 rfl fun x y hf h => (run_ratchet_free x).trans (eq_ratchet_free x y hf h)
noncomputable def L_ratchet_LeafAt : List (Nat × LD) := []
noncomputable def Ls_ratchet_LeafAt : List (Nat × List (Nat × LD)) := []
noncomputable def B_ratchet_LeafAt : Bodies := []
theorem run_ratchet_LeafAt (x : denL [(.st .entry), .i]) : run [(73, c_key_Ahead)] L_ratchet_LeafAt Ls_ratchet_LeafAt B_ratchet_LeafAt Tryd.f78 [(.st .entry), .i] [(.st .key), .i] x = g_ratchet_LeafAt x := by kernel_rfl
theorem ok_ratchet_LeafAt : ConOK Tryd.prog 78 c_ratchet_LeafAt := con_ok (ConsOK.cons ok_key_Ahead (ConsOK.nil)) L_ratchet_LeafAt Ls_ratchet_LeafAt (B := B_ratchet_LeafAt) (BodiesOK.nil) Tryd.func78 rfl fun x y hf h => (run_ratchet_LeafAt x).trans (eq_ratchet_LeafAt x y hf h)
noncomputable def L_ref10_LeafAt : List (Nat × LD) := []
noncomputable def Ls_ref10_LeafAt : List (Nat × List (Nat × LD)) := []
noncomputable def B_ref10_LeafAt : Bodies := []
theorem run_ref10_LeafAt (x : denL [(.st .entry), .i]) : run [] L_ref10_LeafAt Ls_ref10_LeafAt B_ref10_LeafAt Tryd.f22 [(.st .entry), .i] [(.st .key), .i] x = g_ref10_LeafAt x := by kernel_rfl
theorem ok_ref10_LeafAt : ConOK Tryd.prog 22 c_ref10_LeafAt := con_ok (ConsOK.nil) L_ref10_LeafAt Ls_ref10_LeafAt (B := B_ref10_LeafAt) (BodiesOK.nil) Tryd.func22 rfl fun x y hf h => (run_ref10_LeafAt x).trans (eq_ref10_LeafAt x y hf h)
noncomputable def L_bits_OnesCount32 : List (Nat × LD) := []
noncomputable def Ls_bits_OnesCount32 : List (Nat × List (Nat × LD)) := []
noncomputable def B_bits_OnesCount32 : Bodies := []
theorem run_bits_OnesCount32 (x : denL [(.int .u32)]) : run [] L_bits_OnesCount32 Ls_bits_OnesCount32 B_bits_OnesCount32 Tryd.f45 [(.int .u32)] [.i] x = g_bits_OnesCount32 x := by kernel_rfl
theorem ok_bits_OnesCount32 : ConOK Tryd.prog 45 c_bits_OnesCount32 := con_ok (ConsOK.nil) L_bits_OnesCount32 Ls_bits_OnesCount32 (B := B_bits_OnesCount32) (BodiesOK.nil) Tryd.func45 rfl fun x y hf h => (run_bits_OnesCount32 x).trans (eq_bits_OnesCount32 x y hf h)
noncomputable def L_ratchet_Turn : List (Nat × LD) := [(8, ⟨⟨[(1, .hole (.int .u32)), (2, .hole .i), (3, .ptr 0 []), (6, .ptr 1 []), (31, .hole .i)], [(0, (.arr 21 (.st .key)), .hole (.arr 21 (.st .key))), (1, (.arr 21 (.st .key)), .hole (.arr 21 (.st .key)))], []⟩, [(.ret, ⟨[(6, .ptr 1 []), (7, .hole .i), (8, .hole .i)], [(1, (.arr 21 (.st .key)), .hole (.arr 21 (.st .key)))], []⟩), (.exit 1, ⟨[(2, .hole .i), (3, .ptr 0 []), (6, .ptr 1 [])], [(0, (.arr 21 (.st .key)), .hole (.arr 21 (.st .key))), (1, (.arr 21 (.st .key)), .hole (.arr 21 (.st .key)))], []⟩)], 11, []⟩)]
noncomputable def Ls_ratchet_Turn : List (Nat × List (Nat × LD)) := []
noncomputable def B_ratchet_Turn : Bodies := []
theorem run_ratchet_Turn (x : denL [(.arr 21 (.st .key)), (.int .u32), .i]) : run [(67, c_ratchet_Check), (45, c_bits_OnesCount32), (72, c_ratchet_free), (73, c_key_Ahead)] L_ratchet_Turn Ls_ratchet_Turn B_ratchet_Turn Tryd.f46 [(.arr 21 (.st .key)), (.int .u32), .i] [(.arr 21 (.st .key)), .i, .i] x = g_ratchet_Turn x := by kernel_rfl
theorem ok_ratchet_Turn : ConOK Tryd.prog 46 c_ratchet_Turn := con_ok (ConsOK.cons ok_ratchet_Check (ConsOK.cons ok_bits_OnesCount32 (ConsOK.cons ok_ratchet_free (ConsOK.cons ok_key_Ahead (ConsOK.nil))))) L_ratchet_Turn Ls_ratchet_Turn (B := B_ratchet_Turn) (BodiesOK.nil) Tryd.func46 rfl fun x y hf h => (run_ratchet_Turn x).trans (eq_ratchet_Turn x y hf h)
noncomputable def L_ref01_Node : List (Nat × LD) := []
noncomputable def Ls_ref01_Node : List (Nat × List (Nat × LD)) := []
noncomputable def B_ref01_Node : Bodies := []
theorem run_ref01_Node (x : denL [.i]) : run [] L_ref01_Node Ls_ref01_Node B_ref01_Node Tryd.f21 [.i] [.bool] x = g_ref01_Node x := by kernel_rfl
theorem ok_ref01_Node : ConOK Tryd.prog 21 c_ref01_Node := con_ok (ConsOK.nil) L_ref01_Node Ls_ref01_Node (B := B_ref01_Node) (BodiesOK.nil) Tryd.func21 rfl fun x y hf h => (run_ref01_Node x).trans (eq_ref01_Node x y hf h)
noncomputable def L_shape_first : List (Nat × LD) := []
noncomputable def Ls_shape_first : List (Nat × List (Nat × LD)) := []
noncomputable def B_shape_first : Bodies := []
theorem run_shape_first (x : denL [.i]) : run [] L_shape_first Ls_shape_first B_shape_first Tryd.f65 [.i] [.i] x = g_shape_first x := by kernel_rfl
theorem ok_shape_first : ConOK Tryd.prog 65 c_shape_first := con_ok (ConsOK.nil) L_shape_first Ls_shape_first (B := B_shape_first) (BodiesOK.nil) Tryd.func65 rfl fun x y hf h => (run_shape_first x).trans (eq_shape_first x y hf h)
noncomputable def L_shape_Level : List (Nat × LD) := [(5, ⟨⟨[(0, .hole .i), (3, .hole .i)], [], []⟩, [(.ret, ⟨[(2, .hole .i)], [], []⟩)], 10, []⟩)]
noncomputable def Ls_shape_Level : List (Nat × List (Nat × LD)) := []
noncomputable def B_shape_Level : Bodies := []
theorem run_shape_Level (x : denL [.i]) : run [(65, c_shape_first)] L_shape_Level Ls_shape_Level B_shape_Level Tryd.f39 [.i] [.i] x = g_shape_Level x := by kernel_rfl
theorem ok_shape_Level : ConOK Tryd.prog 39 c_shape_Level := con_ok (ConsOK.cons ok_shape_first (ConsOK.nil)) L_shape_Level Ls_shape_Level (B := B_shape_Level) (BodiesOK.nil) Tryd.func39 rfl fun x y hf h => (run_shape_Level x).trans (eq_shape_Level x y hf h)
noncomputable def L_shape_span : List (Nat × LD) := []
noncomputable def Ls_shape_span : List (Nat × List (Nat × LD)) := []
noncomputable def B_shape_span : Bodies := []
theorem run_shape_span (x : denL [.i]) : run [(39, c_shape_Level), (65, c_shape_first)] L_shape_span Ls_shape_span B_shape_span Tryd.f66 [.i] [.i, .i] x = g_shape_span x := by kernel_rfl
theorem ok_shape_span : ConOK Tryd.prog 66 c_shape_span := con_ok (ConsOK.cons ok_shape_Level (ConsOK.cons ok_shape_first (ConsOK.nil))) L_shape_span Ls_shape_span (B := B_shape_span) (BodiesOK.nil) Tryd.func66 rfl fun x y hf h => (run_shape_span x).trans (eq_shape_span x y hf h)
noncomputable def L_shape_Mask : List (Nat × LD) := []
noncomputable def Ls_shape_Mask : List (Nat × List (Nat × LD)) := []
noncomputable def B_shape_Mask : Bodies := []
theorem run_shape_Mask (x : denL [.i]) : run [(39, c_shape_Level), (66, c_shape_span)] L_shape_Mask Ls_shape_Mask B_shape_Mask Tryd.f40 [.i] [(.int .u64)] x = g_shape_Mask x := by kernel_rfl
theorem ok_shape_Mask : ConOK Tryd.prog 40 c_shape_Mask := con_ok (ConsOK.cons ok_shape_Level (ConsOK.cons ok_shape_span (ConsOK.nil))) L_shape_Mask Ls_shape_Mask (B := B_shape_Mask) (BodiesOK.nil) Tryd.func40 rfl fun x y hf h => (run_shape_Mask x).trans (eq_shape_Mask x y hf h)
noncomputable def L_shape_Slot : List (Nat × LD) := []
noncomputable def Ls_shape_Slot : List (Nat × List (Nat × LD)) := []
noncomputable def B_shape_Slot : Bodies := []
theorem run_shape_Slot (x : denL [.i]) : run [] L_shape_Slot Ls_shape_Slot B_shape_Slot Tryd.f77 [.i] [.i] x = g_shape_Slot x := by kernel_rfl
theorem ok_shape_Slot : ConOK Tryd.prog 77 c_shape_Slot := con_ok (ConsOK.nil) L_shape_Slot Ls_shape_Slot (B := B_shape_Slot) (BodiesOK.nil) Tryd.func77 rfl fun x y hf h => (run_shape_Slot x).trans (eq_shape_Slot x y hf h)
noncomputable def L_shape_Child : List (Nat × LD) := []
noncomputable def Ls_shape_Child : List (Nat × List (Nat × LD)) := []
noncomputable def B_shape_Child : Bodies := []
theorem run_shape_Child (x : denL [.i, .i]) : run [] L_shape_Child Ls_shape_Child B_shape_Child Tryd.f52 [.i, .i] [.i] x = g_shape_Child x := by kernel_rfl
theorem ok_shape_Child : ConOK Tryd.prog 52 c_shape_Child := con_ok (ConsOK.nil) L_shape_Child Ls_shape_Child (B := B_shape_Child) (BodiesOK.nil) Tryd.func52 rfl fun x y hf h => (run_shape_Child x).trans (eq_shape_Child x y hf h)
noncomputable def L_shape_Leaf : List (Nat × LD) := []
noncomputable def Ls_shape_Leaf : List (Nat × List (Nat × LD)) := []
noncomputable def B_shape_Leaf : Bodies := []
theorem run_shape_Leaf (x : denL [.i]) : run [] L_shape_Leaf Ls_shape_Leaf B_shape_Leaf Tryd.f28 [.i] [.i] x = g_shape_Leaf x := by kernel_rfl
theorem ok_shape_Leaf : ConOK Tryd.prog 28 c_shape_Leaf := con_ok (ConsOK.nil) L_shape_Leaf Ls_shape_Leaf (B := B_shape_Leaf) (BodiesOK.nil) Tryd.func28 rfl fun x y hf h => (run_shape_Leaf x).trans (eq_shape_Leaf x y hf h)
noncomputable def L_shape_Path : List (Nat × LD) := [(5, ⟨⟨[(0, .hole .i), (2, .ptr 0 []), (4, .ptr 1 []), (11, .hole .i)], [(0, (.arr 3 .i), .hole (.arr 3 .i)), (1, (.arr 3 .i), .hole (.arr 3 .i))], []⟩, [(.exit 0, ⟨[(2, .ptr 0 []), (4, .ptr 1 [])], [(0, (.arr 3 .i), .hole (.arr 3 .i)), (1, (.arr 3 .i), .hole (.arr 3 .i))], []⟩)], 10, []⟩)]
noncomputable def Ls_shape_Path : List (Nat × List (Nat × LD)) := []
noncomputable def B_shape_Path : Bodies := []
theorem run_shape_Path (x : denL [.i]) : run [(28, c_shape_Leaf), (65, c_shape_first)] L_shape_Path Ls_shape_Path B_shape_Path Tryd.f53 [.i] [(.arr 3 .i), .bool] x = g_shape_Path x := by kernel_rfl
theorem ok_shape_Path : ConOK Tryd.prog 53 c_shape_Path := con_ok (ConsOK.cons ok_shape_Leaf (ConsOK.cons ok_shape_first (ConsOK.nil))) L_shape_Path Ls_shape_Path (B := B_shape_Path) (BodiesOK.nil) Tryd.func53 rfl fun x y hf h => (run_shape_Path x).trans (eq_shape_Path x y hf h)
noncomputable def L_shape_Above : List (Nat × LD) := [(3, ⟨⟨[(0, .hole (.int .u64)), (3, .hole (.int .u32)), (5, .hole .i)], [], []⟩, [(.exit 0, ⟨[(3, .hole (.int .u32))], [], []⟩)], 10, []⟩)]
noncomputable def Ls_shape_Above : List (Nat × List (Nat × LD)) := []
noncomputable def B_shape_Above : Bodies := []
theorem run_shape_Above (x : denL [(.int .u64)]) : run [(40, c_shape_Mask)] L_shape_Above Ls_shape_Above B_shape_Above Tryd.f71 [(.int .u64)] [(.int .u32)] x = g_shape_Above x := by kernel_rfl
theorem ok_shape_Above : ConOK Tryd.prog 71 c_shape_Above := con_ok (ConsOK.cons ok_shape_Mask (ConsOK.nil)) L_shape_Above Ls_shape_Above (B := B_shape_Above) (BodiesOK.nil) Tryd.func71 rfl fun x y hf h => (run_shape_Above x).trans (eq_shape_Above x y hf h)
noncomputable def L_roster_right : List (Nat × LD) := []
noncomputable def Ls_roster_right : List (Nat × List (Nat × LD)) := []
noncomputable def B_roster_right : Bodies := []
theorem run_roster_right (x : denL [(.st .entry)]) : run [] L_roster_right Ls_roster_right B_roster_right Tryd.f92 [(.st .entry)] [.bool] x = g_roster_right x := by kernel_rfl
theorem ok_roster_right : ConOK Tryd.prog 92 c_roster_right := con_ok (ConsOK.nil) L_roster_right Ls_roster_right (B := B_roster_right) (BodiesOK.nil) Tryd.func92 rfl fun x y hf h => (run_roster_right x).trans (eq_roster_right x y hf h)
noncomputable def L_roster_Check : List (Nat × LD) := [(3, ⟨⟨[(3, .mp 1), (4, .mp 2), (9, .hole (.arr 64 (.st .entry))), (10, .hole .i)], [], [(1, .i, .i), (2, .i, .i)]⟩, [(.ret, ⟨[(2, .hole .i)], [], []⟩), (.exit 0, ⟨[], [], []⟩)], 11, []⟩)]
noncomputable def Ls_roster_Check : List (Nat × List (Nat × LD)) := []
noncomputable def B_roster_Check : Bodies := []
theorem run_roster_Check (x : denL [(.arr 64 (.st .entry))]) : run [(92, c_roster_right)] L_roster_Check Ls_roster_Check B_roster_Check Tryd.f68 [(.arr 64 (.st .entry))] [.i] x = g_roster_Check x := by kernel_rfl
theorem ok_roster_Check : ConOK Tryd.prog 68 c_roster_Check := con_ok (ConsOK.cons ok_roster_right (ConsOK.nil)) L_roster_Check Ls_roster_Check (B := B_roster_Check) (BodiesOK.nil) Tryd.func68 rfl fun x y hf h => (run_roster_Check x).trans (eq_roster_Check x y hf h)
noncomputable def L_roster_Find : List (Nat × LD) := []
noncomputable def Ls_roster_Find : List (Nat × List (Nat × LD)) := [(36, [(2, ⟨⟨[(0, .asl 0 []), (1, .fn 37 [1]), (7, .hole .i), (8, .hole .i)], [(0, (.arr 64 (.st .entry)), .hole (.arr 64 (.st .entry))), (1, .i, .hole .i)], []⟩, [(.ret, ⟨[(4, .hole .i)], [(0, (.arr 64 (.st .entry)), .hole (.arr 64 (.st .entry))), (1, .i, .hole .i)], []⟩), (.exit 0, ⟨[], [(0, (.arr 64 (.st .entry)), .hole (.arr 64 (.st .entry))), (1, .i, .hole .i)], []⟩)], 10, []⟩)])]
noncomputable def B_roster_Find : Bodies := [bodyLine 37 Tryd.f37, bodyLine 36 Tryd.f36]
theorem run_roster_Find (x : denL [(.arr 64 (.st .entry)), .i]) : run [] L_roster_Find Ls_roster_Find B_roster_Find Tryd.f24 [(.arr 64 (.st .entry)), .i] [.i] x = g_roster_Find x := by kernel_rfl
theorem ok_roster_Find : ConOK Tryd.prog 24 c_roster_Find := con_ok (ConsOK.nil) L_roster_Find Ls_roster_Find (B := B_roster_Find) (BodiesOK.cons Tryd.func37 rfl (BodiesOK.cons Tryd.func36 rfl (BodiesOK.nil))) Tryd.func24 rfl fun x y hf h => (run_roster_Find x).trans (eq_roster_Find x y hf h)
noncomputable def L_roster_Taken : List (Nat × LD) := [(3, ⟨⟨[(3, .hole (.int .u64)), (6, .hole (.arr 64 (.st .entry))), (7, .hole .i)], [], []⟩, [(.exit 0, ⟨[(3, .hole (.int .u64))], [], []⟩)], 11, []⟩)]
noncomputable def Ls_roster_Taken : List (Nat × List (Nat × LD)) := []
noncomputable def B_roster_Taken : Bodies := []
theorem run_roster_Taken (x : denL [(.arr 64 (.st .entry))]) : run [] L_roster_Taken Ls_roster_Taken B_roster_Taken Tryd.f51 [(.arr 64 (.st .entry))] [(.int .u64)] x = g_roster_Taken x := by kernel_rfl
theorem ok_roster_Taken : ConOK Tryd.prog 51 c_roster_Taken := con_ok (ConsOK.nil) L_roster_Taken Ls_roster_Taken (B := B_roster_Taken) (BodiesOK.nil) Tryd.func51 rfl fun x y hf h => (run_roster_Taken x).trans (eq_roster_Taken x y hf h)
noncomputable def L_ref11_Of : List (Nat × LD) := []
noncomputable def Ls_ref11_Of : List (Nat × List (Nat × LD)) := []
noncomputable def B_ref11_Of : Bodies := []
theorem run_ref11_Of (x : denL [(.st .tree), .i]) : run [(21, c_ref01_Node), (22, c_ref10_LeafAt)] L_ref11_Of Ls_ref11_Of B_ref11_Of Tryd.f10 [(.st .tree), .i] [(.st .key), .i] x = g_ref11_Of x := by kernel_rfl
theorem ok_ref11_Of : ConOK Tryd.prog 10 c_ref11_Of := con_ok (ConsOK.cons ok_ref01_Node (ConsOK.cons ok_ref10_LeafAt (ConsOK.nil))) L_ref11_Of Ls_ref11_Of (B := B_ref11_Of) (BodiesOK.nil) Tryd.func10 rfl fun x y hf h => (run_ref11_Of x).trans (eq_ref11_Of x y hf h)
noncomputable def L_keytree_Check : List (Nat × LD) := [(7, ⟨⟨[(1, .ptr 0 []), (3, .mp 1), (38, .hole (.arr 21 (.st .key))), (39, .hole .i)], [(0, (.st .tree), .hole (.st .tree))], [(1, .i, .i)]⟩, [(.ret, ⟨[(2, .hole .i)], [], []⟩), (.exit 0, ⟨[(1, .ptr 0 []), (3, .mp 1)], [(0, (.st .tree), .hole (.st .tree))], [(1, .i, .i)]⟩)], 11, []⟩), (14, ⟨⟨[(1, .ptr 0 []), (3, .mp 1), (61, .hole (.arr 64 (.st .entry))), (62, .hole .i)], [(0, (.st .tree), .hole (.st .tree))], [(1, .i, .i)]⟩, [(.ret, ⟨[(2, .hole .i)], [], []⟩), (.exit 2, ⟨[], [], []⟩)], 11, []⟩)]
noncomputable def Ls_keytree_Check : List (Nat × List (Nat × LD)) := []
noncomputable def B_keytree_Check : Bodies := []
theorem run_keytree_Check (x : denL [(.st .tree)]) : run [(67, c_ratchet_Check), (68, c_roster_Check)] L_keytree_Check Ls_keytree_Check B_keytree_Check Tryd.f41 [(.st .tree)] [.i] x = g_keytree_Check x := by kernel_rfl
theorem ok_keytree_Check : ConOK Tryd.prog 41 c_keytree_Check := con_ok (ConsOK.cons ok_ratchet_Check (ConsOK.cons ok_roster_Check (ConsOK.nil))) L_keytree_Check Ls_keytree_Check (B := B_keytree_Check) (BodiesOK.nil) Tryd.func41 rfl fun x y hf h => (run_keytree_Check x).trans (eq_keytree_Check x y hf h)
noncomputable def L_plan_Replaced : List (Nat × LD) := [(3, ⟨⟨[(3, .hole (.int .u64)), (6, .hole (.list (.st .seat))), (7, .hole .i), (8, .hole .i)], [], []⟩, [(.exit 0, ⟨[(3, .hole (.int .u64))], [], []⟩)], 11, []⟩)]
noncomputable def Ls_plan_Replaced : List (Nat × List (Nat × LD)) := []
noncomputable def B_plan_Replaced : Bodies := []
theorem run_plan_Replaced (x : denL [(.list (.st .seat))]) : run [(28, c_shape_Leaf), (40, c_shape_Mask), (71, c_shape_Above)] L_plan_Replaced Ls_plan_Replaced B_plan_Replaced Tryd.f43 [(.list (.st .seat))] [(.int .u32)] x = g_plan_Replaced x := by kernel_rfl
theorem ok_plan_Replaced : ConOK Tryd.prog 43 c_plan_Replaced := con_ok (ConsOK.cons ok_shape_Leaf (ConsOK.cons ok_shape_Mask (ConsOK.cons ok_shape_Above (ConsOK.nil)))) L_plan_Replaced Ls_plan_Replaced (B := B_plan_Replaced) (BodiesOK.nil) Tryd.func43 rfl fun x y hf h => (run_plan_Replaced x).trans (eq_plan_Replaced x y hf h)
noncomputable def L_bits_OnesCount64 : List (Nat × LD) := []
noncomputable def Ls_bits_OnesCount64 : List (Nat × List (Nat × LD)) := []
noncomputable def B_bits_OnesCount64 : Bodies := []
theorem run_bits_OnesCount64 (x : denL [(.int .u64)]) : run [] L_bits_OnesCount64 Ls_bits_OnesCount64 B_bits_OnesCount64 Tryd.f93 [(.int .u64)] [.i] x = g_bits_OnesCount64 x := by kernel_rfl
theorem ok_bits_OnesCount64 : ConOK Tryd.prog 93 c_bits_OnesCount64 := con_ok (ConsOK.nil) L_bits_OnesCount64 Ls_bits_OnesCount64 (B := B_bits_OnesCount64) (BodiesOK.nil) Tryd.func93 rfl fun x y hf h => (run_bits_OnesCount64 x).trans (eq_bits_OnesCount64 x y hf h)
noncomputable def L_seats_Count : List (Nat × LD) := []
noncomputable def Ls_seats_Count : List (Nat × List (Nat × LD)) := []
noncomputable def B_seats_Count : Bodies := []
theorem run_seats_Count (x : denL [(.int .u64)]) : run [(93, c_bits_OnesCount64)] L_seats_Count Ls_seats_Count B_seats_Count Tryd.f70 [(.int .u64)] [.i] x = g_seats_Count x := by kernel_rfl
theorem ok_seats_Count : ConOK Tryd.prog 70 c_seats_Count := con_ok (ConsOK.cons ok_bits_OnesCount64 (ConsOK.nil)) L_seats_Count Ls_seats_Count (B := B_seats_Count) (BodiesOK.nil) Tryd.func70 rfl fun x y hf h => (run_seats_Count x).trans (eq_seats_Count x y hf h)
noncomputable def L_seats_bit : List (Nat × LD) := []
noncomputable def Ls_seats_bit : List (Nat × List (Nat × LD)) := []
noncomputable def B_seats_bit : Bodies := []
theorem run_seats_bit (x : denL [.i]) : run [] L_seats_bit Ls_seats_bit B_seats_bit Tryd.f97 [.i] [(.int .u64)] x = g_seats_bit x := by kernel_rfl
theorem ok_seats_bit : ConOK Tryd.prog 97 c_seats_bit := con_ok (ConsOK.nil) L_seats_bit Ls_seats_bit (B := B_seats_bit) (BodiesOK.nil) Tryd.func97 rfl fun x y hf h => (run_seats_bit x).trans (eq_seats_bit x y hf h)
noncomputable def L_plan_nodeKey : List (Nat × LD) := []
noncomputable def Ls_plan_nodeKey : List (Nat × List (Nat × LD)) := []
noncomputable def B_plan_nodeKey : Bodies := []
theorem run_plan_nodeKey (x : denL [(.st .tree), .i]) : run [(77, c_shape_Slot), (78, c_ratchet_LeafAt)] L_plan_nodeKey Ls_plan_nodeKey B_plan_nodeKey Tryd.f50 [(.st .tree), .i] [(.st .key)] x = g_plan_nodeKey x := by kernel_rfl
theorem ok_plan_nodeKey : ConOK Tryd.prog 50 c_plan_nodeKey := con_ok (ConsOK.cons ok_shape_Slot (ConsOK.cons ok_ratchet_LeafAt (ConsOK.nil))) L_plan_nodeKey Ls_plan_nodeKey (B := B_plan_nodeKey) (BodiesOK.nil) Tryd.func50 rfl fun x y hf h => (run_plan_nodeKey x).trans (eq_plan_nodeKey x y hf h)
noncomputable def L_plan_leavers : List (Nat × LD) := [(3, ⟨⟨[(2, .ptr 0 []), (5, .row (.st .seat)), (8, .hole (.list .i)), (9, .hole .i), (10, .hole .i)], [(0, (.arr 64 (.st .entry)), .hole (.arr 64 (.st .entry)))], []⟩, [(.exit 0, ⟨[(5, .row (.st .seat))], [], []⟩)], 13, []⟩)]
noncomputable def Ls_plan_leavers : List (Nat × List (Nat × LD)) := []
noncomputable def B_plan_leavers : Bodies := []
theorem run_plan_leavers (x : denL [(.arr 64 (.st .entry)), (.list .i)]) : run [(24, c_roster_Find)] L_plan_leavers Ls_plan_leavers B_plan_leavers Tryd.f44 [(.arr 64 (.st .entry)), (.list .i)] [(.list (.st .seat))] x = g_plan_leavers x := by kernel_rfl
theorem ok_plan_leavers : ConOK Tryd.prog 44 c_plan_leavers := con_ok (ConsOK.cons ok_roster_Find (ConsOK.nil)) L_plan_leavers Ls_plan_leavers (B := B_plan_leavers) (BodiesOK.nil) Tryd.func44 rfl fun x y hf h => (run_plan_leavers x).trans (eq_plan_leavers x y hf h)
noncomputable def L_roster_names : List (Nat × LD) := []
noncomputable def Ls_roster_names : List (Nat × List (Nat × LD)) := [(36, [(2, ⟨⟨[(0, .asl 0 []), (1, .fn 95 [1, 2]), (7, .hole .i), (8, .hole .i)], [(0, (.arr 64 (.st .entry)), .hole (.arr 64 (.st .entry))), (1, .i, .hole .i), (2, .i, .hole .i)], []⟩, [(.ret, ⟨[(4, .hole .i)], [(0, (.arr 64 (.st .entry)), .hole (.arr 64 (.st .entry))), (1, .i, .hole .i), (2, .i, .hole .i)], []⟩), (.exit 0, ⟨[], [(0, (.arr 64 (.st .entry)), .hole (.arr 64 (.st .entry))), (1, .i, .hole .i), (2, .i, .hole .i)], []⟩)], 10, []⟩)])]
noncomputable def B_roster_names : Bodies := [bodyLine 95 Tryd.f95, bodyLine 94 Tryd.f94, bodyLine 36 Tryd.f36]
theorem run_roster_names (x : denL [(.arr 64 (.st .entry)), .i, .i]) : run [] L_roster_names Ls_roster_names B_roster_names Tryd.f74 [(.arr 64 (.st .entry)), .i, .i] [.bool] x = g_roster_names x := by kernel_rfl
theorem ok_roster_names : ConOK Tryd.prog 74 c_roster_names := con_ok (ConsOK.nil) L_roster_names Ls_roster_names (B := B_roster_names) (BodiesOK.cons Tryd.func95 rfl (BodiesOK.cons Tryd.func94 rfl (BodiesOK.cons Tryd.func36 rfl (BodiesOK.nil)))) Tryd.func74 rfl fun x y hf h => (run_roster_names x).trans (eq_roster_names x y hf h)
noncomputable def L_roster_Fits : List (Nat × LD) := []
noncomputable def Ls_roster_Fits : List (Nat × List (Nat × LD)) := [(69, [(2, ⟨⟨[(1, .hole .bool), (2, .hole .i), (3, .ptr 3 []), (4, .ptr 0 []), (11, .hole (.list .i)), (12, .hole .i), (13, .hole .i)], [(0, (.arr 64 (.st .entry)), .hole (.arr 64 (.st .entry))), (1, (.st .batch), .hole (.st .batch)), (3, .bool, .mp 2)], [(2, .i, .i)]⟩, [(.ret, ⟨[(8, .hole .i)], [(0, (.arr 64 (.st .entry)), .hole (.arr 64 (.st .entry))), (1, (.st .batch), .hole (.st .batch)), (3, .bool, .mp 2)], [(2, .i, .i)]⟩), (.exit 0, ⟨[], [(0, (.arr 64 (.st .entry)), .hole (.arr 64 (.st .entry))), (1, (.st .batch), .hole (.st .batch)), (3, .bool, .mp 2)], [(2, .i, .i)]⟩)], 10, []⟩)])]
noncomputable def B_roster_Fits : Bodies := [bodyLine 69 Tryd.f69]
theorem run_roster_Fits (x : denL [(.arr 64 (.st .entry)), (.st .batch)]) : run [(68, c_roster_Check), (24, c_roster_Find), (51, c_roster_Taken), (70, c_seats_Count)] L_roster_Fits Ls_roster_Fits B_roster_Fits Tryd.f42 [(.arr 64 (.st .entry)), (.st .batch)] [.i] x = g_roster_Fits x := by kernel_rfl
theorem ok_roster_Fits : ConOK Tryd.prog 42 c_roster_Fits := con_ok (ConsOK.cons ok_roster_Check (ConsOK.cons ok_roster_Find (ConsOK.cons ok_roster_Taken (ConsOK.cons ok_seats_Count (ConsOK.nil))))) L_roster_Fits Ls_roster_Fits (B := B_roster_Fits) (BodiesOK.cons Tryd.func69 rfl (BodiesOK.nil)) Tryd.func42 rfl fun x y hf h => (run_roster_Fits x).trans (eq_roster_Fits x y hf h)
end Go.Proofs.YtghlolinkmlkeaaDoor
end

section
namespace Go.Co
open Go Go.RowKit

/-- It speaks of cells alone. -/
structure Cl {α : Type} (n0 : Nat) (I : List α → World → Prop) : Prop where
  alloc : ∀ s A o, o.isCells = false → I s A → I s (A.alloc o)
  putObj : ∀ s A l o o', n0 ≤ l → I s A → A.heap[l]? = some o → o.isCells = false → o'.isCells = false → I s (A.putObj l o')
/-- What a round must achieve. -/
def roundPost {α : Type} (Be : Nat) (I : List α → World → Prop) (Ix : Code → List α → World → Prop) (xs : List α) (W : World) : Exit → Act → World → Prop
  | .normal, _, W' => KeepsOthers W W' ∧ W'.heap[Be]? = W.heap[Be]? ∧ I xs W'
  | .ret, _, W' => KeepsOthers W W' ∧ Ix .ret xs W'
  | .exit id, _, W' => KeepsOthers W W' ∧ Ix (.exit id) xs W'
  | _, _, _ => False
theorem rangeFunc_box {F : Fence} {n : Nat} {P : Program} {α : Type} {g : Operand} {ps : Array Tmp} {assign body : Code} {Q : Exit → Act → World → Prop} {a : Act} {w : World}
    (hro : F.round = none) (h1 : 1 ≤ n) {gf : Nat} {lb : Array Value} (hg : a.eval g = .func (.func gf) #[] lb) (hFg : F.fn gf) (eg : ∀ args w, (callFunc gf args).run P w = .ok (.enter gf args) w)
    {encs : α → Array Value} {Be : Nat} {tB : TypeId} {xB : Value} {G : World → Prop} {xs : List α} (hps : ∀ x, (encs x).size = ps.size)
    (hseq : ∀ (l : Nat) (J Jx : List α → World → Prop) (W : World), (∀ pre A x v, J pre A → Boxed A Be tB x → J pre (A.setCell ⟨Be, 0, none⟩ v)) → (∀ pre A, J pre A → G A) →
      (∀ pre x W, J pre W → pre ++ [x] <+: xs → YieldAt F (n - 1 - 1) P l (encs x) W fun e W' => (e = .returned (.bool true) ∧ J (pre ++ [x]) W' ∧ W'.heap[Be]? = W.heap[Be]?) ∨ (e = .returned (.bool false) ∧ Jx (pre ++ [x]) W')) →
      Boxed W Be tB xB → J [] W → CallsIn F (n - 1) P gf (#[.func (.yield l) #[] #[]] ++ lb) W fun e W' => (∃ v, e = .returned v) ∧ (J xs W' ∨ ∃ pre, pre <+: xs ∧ Jx pre W'))
    (hB : Boxed w Be tB xB) (I : List α → World → Prop) (Ix : Code → List α → World → Prop) (hI : Cl w.heap.size I) (hIx : ∀ c, Cl w.heap.size (Ix c)) (hset : ∀ pre A x v, I pre A → Boxed A Be tB x → I pre (A.setCell ⟨Be, 0, none⟩ v)) (hG : ∀ pre A, I pre A → G A) (h0 : I [] w) (a₁ : α → Act)
    (hassign : ∀ (l : Nat) (x : α) (W : World) (K : Act → World → Prop), K (a₁ x) W →
      assign.wpIn (F.inRound l) (n - 1 - 1) P (Exit.then K (fun _ _ _ => False)) { tmps := (ps.zip (encs x)).foldl (fun t (p, v) => t.setIfInBounds p v) a.tmps, defers := [] } W)
    (hbody : ∀ (l : Nat) (pre : List α) (x : α) (W : World), I pre W → pre ++ [x] <+: xs → body.wpIn (F.inRound l) (n - 1 - 1) P (roundPost Be I Ix (pre ++ [x]) W) (a₁ x) W)
    (hdone : ∀ (D : Nat) (W : World), I xs W → W.heap[D]? = some (.deferred (some [])) → w.heap.size ≤ D → Q .normal { a with defers := { target := .collected D, args := #[] } :: a.defers } W)
    (hstop : ∀ (D : Nat) (c : Code) (pre : List α) (W : World), pre <+: xs → Ix c pre W → W.heap[D]? = some (.deferred (some [])) → w.heap.size ≤ D → c.wpIn F n P Q { a with defers := { target := .collected D, args := #[] } :: a.defers } W) :
    (Code.rangeFunc g ps assign body).wpIn F n P Q a w := by
  refine wpIn_rangeFunc ?_
  intro fn hfn
  rw [hro]
  obtain ⟨rec, hrec⟩ : ∃ rec : LoopState → Option Code → Loop, rec = fun st pe => { state := st, pending := pe, fn, tmps := a.tmps, params := ps, assign, body, defers := w.heap.size } := ⟨_, rfl⟩
  obtain ⟨W1, hW1⟩ : ∃ W1, (w.alloc (.deferred (some []))).alloc (.loop (rec .ready none)) = W1 := ⟨_, rfl⟩
  have hL1 : W1.heap[w.heap.size + 1]? = some (.loop (rec .ready none)) := by
    rw [← hW1]; have := World.alloc_heap_new (w.alloc (.deferred (some []))) (.loop (rec .ready none)); rwa [World.size_alloc] at this
  have hK1 : W1.heap[w.heap.size]? = some (.deferred (some [])) := by
    rw [← hW1]; exact (Below.heap_alloc _ _ _ (by simp)).trans (World.alloc_heap_new w _)
  have hI1 : I [] W1 := by rw [← hW1]; exact hI.alloc _ _ _ rfl (hI.alloc _ _ _ rfl h0)
  have hB1 : Boxed W1 Be tB xB := by rw [← hW1]; exact (hB.alloc _).alloc _
  have hBlt : Be < w.heap.size := hB.lt
  refine ⟨w.heap.size + 1, [{ target := .collected w.heap.size, args := #[] }], W1, { target := .fn (.func gf) lb, args := #[.func (.yield (w.heap.size + 1)) #[] #[]] }, W1, gf,
    #[.func (.yield (w.heap.size + 1)) #[] #[]] ++ lb, W1, ?_, ?_, ?_, ?_, fun _ => h1, ?_⟩
  · rw [← hW1, hrec]; exact run_enterLoop_outer _ _ _ _ _
  · simp only [resolve, hg]
    simp [go_sem]
  · intro f' hf'; simp [Target.leads] at hf'; subst hf'; exact hFg
  · simp [invoke, go_sem, eg]
  · refine (hseq (w.heap.size + 1)
      (fun pre W => I pre W ∧ W.heap[w.heap.size + 1]? = some (.loop (rec .ready none)) ∧ W.heap[w.heap.size]? = some (.deferred (some [])))
      (fun pre W => ∃ c, Ix c pre W ∧ W.heap[w.heap.size + 1]? = some (.loop (rec .done (some c))) ∧ W.heap[w.heap.size]? = some (.deferred (some [])))
      W1 ?_ (fun pre A h => hG pre A h.1) ?_ hB1 ⟨hI1, hL1, hK1⟩).mono ?_
    · rintro pre A x v ⟨hi, hl, hk⟩ hb
      exact ⟨hset _ _ _ _ hi hb, (KeepsOthers.setCell A _ v).same _ _ hl rfl, (KeepsOthers.setCell A _ v).same _ _ hk rfl⟩
    · -- one round
      rintro pre x W ⟨hi, hl, hk⟩ hpre
      have hlt : w.heap.size + 1 < W.heap.size := (Array.getElem?_eq_some_iff.1 hl).1
      have hy := run_yield (P := P) (args := encs x) hl (by rw [hrec]; exact hps x)
      rw [hrec] at hy
      refine ⟨fn, _, assign, body, hy, roundIn_of_wpIn hfn (hassign _ x W _ ⟨_, run_beginRound hl (by rw [hrec]), ?_⟩)⟩
      have hl2 : (W.putObj (w.heap.size + 1) (.loop { rec .ready none with state := .busy })).heap[w.heap.size + 1]? = some (.loop { rec .ready none with state := .busy }) := World.putObj_heap_same hlt
      have hk2 : (W.putObj (w.heap.size + 1) (.loop { rec .ready none with state := .busy })).heap[w.heap.size]? = some (.deferred (some [])) := (World.putObj_heap_other (by omega)).trans hk
      have hb2 : (W.putObj (w.heap.size + 1) (.loop { rec .ready none with state := .busy })).heap[Be]? = W.heap[Be]? := World.putObj_heap_other (by omega)
      refine wpIn_mono (hbody _ pre x _ (hI.putObj _ _ _ _ _ (by omega) hi hl rfl rfl) hpre) ?_
      have fin : ∀ (jump : Option Code) (W3 : World), KeepsOthers (W.putObj (w.heap.size + 1) (.loop { rec .ready none with state := .busy })) W3 →
          (Instr.endRound (w.heap.size + 1) jump).run P W3 = .ok (.bool jump.isNone) (W3.putObj (w.heap.size + 1) (.loop (rec (if jump.isNone then .ready else .done) jump))) ∧
          W3.heap[w.heap.size + 1]? = some (.loop { rec .ready none with state := .busy }) ∧
          (W3.putObj (w.heap.size + 1) (.loop (rec (if jump.isNone then .ready else .done) jump))).heap[w.heap.size + 1]? = some (.loop (rec (if jump.isNone then .ready else .done) jump)) ∧
          (W3.putObj (w.heap.size + 1) (.loop (rec (if jump.isNone then .ready else .done) jump))).heap[w.heap.size]? = some (.deferred (some [])) := fun jump W3 hk3 => by
        have hl3 := hk3.same _ _ hl2 rfl
        have := run_endRound (P := P) jump hl3
        rw [hrec] at this ⊢
        exact ⟨this, by rw [hrec] at hl3; exact hl3, World.putObj_heap_same (Array.getElem?_eq_some_iff.1 hl3).1, (World.putObj_heap_other (by omega)).trans (hk3.same _ _ hk2 rfl)⟩
      rintro e a3 W3 hp
      cases e with
      | normal =>
        obtain ⟨hk3, hb3, hi3⟩ := hp
        obtain ⟨hr, hl3, hl4, hk4⟩ := fin none W3 hk3
        exact ⟨_, _, hr, .inl ⟨rfl, ⟨hI.putObj _ _ _ _ _ (by omega) hi3 hl3 rfl rfl, hl4, hk4⟩, ((World.putObj_heap_other (by omega)).trans hb3).trans hb2⟩⟩
      | ret =>
        obtain ⟨hk3, hi3⟩ := hp
        obtain ⟨hr, hl3, hl4, hk4⟩ := fin (some .ret) W3 hk3
        exact ⟨_, _, hr, .inr ⟨rfl, .ret, (hIx _).putObj _ _ _ _ _ (by omega) hi3 hl3 rfl rfl, hl4, hk4⟩⟩
      | exit id =>
        obtain ⟨hk3, hi3⟩ := hp
        obtain ⟨hr, hl3, hl4, hk4⟩ := fin (some (.exit id)) W3 hk3
        exact ⟨_, _, hr, .inr ⟨rfl, .exit id, (hIx _).putObj _ _ _ _ _ (by omega) hi3 hl3 rfl rfl, hl4, hk4⟩⟩
      | goto t => exact hp.elim
      | panic ch => exact hp.elim
      | outgrown => exact hp.elim
    · -- behind the iterator
      rintro e W2 ⟨⟨v, rfl⟩, (⟨hi, hl, hk⟩ | ⟨pre, hpre, c, hi, hl, hk⟩)⟩
      · exact ⟨none, _, by have := run_endLoop (P := P) hl (by rw [hrec]; simp); rw [hrec] at this; exact this, hdone _ _ (hI.putObj _ _ _ _ _ (by omega) hi hl rfl rfl) ((World.putObj_heap_other (by omega)).trans hk) (Nat.le_refl _)⟩
      · exact ⟨some c, _, by have := run_endLoop (P := P) hl (by rw [hrec]; simp); rw [hrec] at this; exact this, hstop _ c pre _ hpre ((hIx c).putObj _ _ _ _ _ (by omega) hi hl rfl rfl) ((World.putObj_heap_other (by omega)).trans hk) (Nat.le_refl _)⟩

/-! ### Nothing is frozen by an append -/
theorem fz_alloc (w : World) (o : Obj) (ho : ∀ cs e f, o = .cells cs e f → f = (0, 0)) (a : Addr) : (w.alloc o).frozen? a = w.frozen? a := by
  by_cases h : a.block = w.heap.size
  · have h1 : (w.alloc o).heap[a.block]? = some o := by rw [h]; exact World.alloc_heap_new w o
    have h2 : w.heap[a.block]? = none := by rw [h]; simp
    unfold World.frozen?
    rw [h1, h2]
    cases o with
    | cells cs e f => have := ho cs e f rfl; subst this; simp
    | _ => rfl
  · by_cases hlt : a.block < w.heap.size
    · exact frozen_same (Below.heap_alloc _ _ _ hlt)
    · have h1 : (w.alloc o).heap[a.block]? = none := Array.getElem?_eq_none (by have := World.size_alloc w o; omega)
      have h2 : w.heap[a.block]? = none := Array.getElem?_eq_none (by omega)
      exact frozen_same (h1.trans h2.symm)
theorem fz_append {P : Program} {w : World} {base : Nat} {t ty e : TypeId} {i : TypeInfo} {z : Value} (ht : P.underlying t = some (.slice e)) (hi : P.info? e = some i) (hz : i.zero = some z)
    {v : Value} {n : Nat} {xs : List Value} (hown : w.ownsRow base e i.size v n xs) {a : Addr} {m c : Nat} {news : List Value} (hl : news.length = m * i.size) (hnews : ∀ j u, news[j]? = some u → w.cell? (a.add j) = some u) (h1 : ∀ u ∈ news, u.oneCell' = true)
    (hm : 0 < m) (h63 : n + m ≤ maxLen) (hbytes : (n + m) * i.bytes ≤ 140737488355328) {v' : Value} {w' : World} (hrun : (Builtin.append_ #[t, t] ty #[v, .slice (some a) m c]).run P w = .ok v' w') (b : Addr) : w'.frozen? b = w.frozen? b := by
  have hsmall : n + m ≤ 9223372036854775807 := by simp only [maxLen] at h63; omega
  have new : ∀ cs : Array Value, (w.drew.alloc (.cells cs e)).frozen? b = w.frozen? b := fun cs => (fz_alloc w.drew _ (fun _ _ _ h => by cases h; rfl) b).trans rfl
  rcases hown.2 with ⟨rfl, rfl⟩ | ⟨g, cap, cur, rfl, _, hg, _, _, hcs, _⟩
  · rw [run_append_nil (P := P) w t ty e i z ht hi hz a m c news hl hnews hm (by omega) (by simp only [Nat.zero_add] at hbytes; omega)] at hrun
    cases hrun; exact new _
  · by_cases hroom : n + m ≤ cap
    · have hfit : n * i.size + news.length ≤ cur.size := by rw [hl, hcs, ← Nat.add_mul]; exact Nat.mul_le_mul_right _ hroom
      rw [run_append_room (P := P) w t ty e i ht hi g n cap cur hg a m c news hl hnews h1 hroom hfit] at hrun
      cases hrun
      by_cases hb : b.block = g
      · have := setRow_heap w g cur (cur.toList.take (n * i.size) ++ news ++ cur.toList.drop (n * i.size + news.length)).toArray e (0, 0) hg
        unfold World.frozen?
        rw [hb, this, hg]
      · exact frozen_same (setRow_other w g b.block _ hb)
    · have holds : ∀ j u, xs[j]? = some u → w.cell? ((⟨g, 0, none⟩ : Addr).add j) = some u := hown.cells (g := g) rfl
      rw [run_append_grow (P := P) w t ty e i z ht hi hz ⟨g, 0, none⟩ n cap xs hown.1 holds a m c news hl hnews (by omega) (by omega) (growslice_fits (by omega) hbytes)] at hrun
      cases hrun; exact new _
/-- An append to a row of one's own, in a walk; nothing is frozen by it. -/
theorem wpListIn_append_fz {F : Fence} {k : Nat} {P : Program} (w : World) {ops : Array Oper} {rest : List Oper} {o : Oper} {a : Act} {Q : Exit → Act → World → Prop}
    (hg : o.guard = none) (s x : Operand) (t : TypeId) (hop : o.op = Op.call { callee := Callee.builtin Builtin.append, args := #[s, x], argTypes := #[t, t] })
    (base : Nat) (e : TypeId) (i : TypeInfo) (z : Value) (size bytes : Nat) (h1 : P.underlying t = some (.slice e)) (h2 : P.info? e = some i) (h3 : i.zero = some z) (h4 : i.size = size) (h5 : i.bytes = bytes) (h6 : z.cells.size = size) (h7 : 0 < size)
    (v : Value) (n : Nat) (xs : List Value) (hs : a.eval s = v) (hown : w.ownsRow base e size v n xs) (ad : Addr) (m c : Nat) (news : List Value) (hx : a.eval x = .slice (some ad) m c) (hn : news.length = m * size)
    (hc : ∀ j u, news[j]? = some u → w.cell? (ad.add j) = some u) (h1c : ∀ u ∈ news, u.oneCell' = true) (hm : 0 < m) (b1 : n + m ≤ maxLen) (b2 : (n + m) * bytes ≤ 140737488355328) (b3 : base ≤ w.heap.size)
    (hK : ∀ v' w', w'.ownsRow base e size v' (n + m) (xs ++ news) → w.grownBy w' v.ownBlock → (v' = .slice none 0 0 ↔ v = .slice none 0 0 ∧ m = 0) → (∀ b, w'.frozen? b = w.frozen? b) → wpListIn F k P ops Q rest (a.put o.dst v') w') :
    wpListIn F k P ops Q (o :: rest) a w := by
  refine wpListIn_plain hg fun K hK' => ?_
  obtain ⟨v', w', hrun, r1, r2, r3⟩ := run_append_own (P := P) w base t o.type e i z size bytes h1 h2 h3 h4 h5 h6 h7 v n xs hown ad m c news hn hc h1c b1 b2 b3
  subst h4; subst h5
  have hz := fun b => fz_append h1 h2 h3 hown hn hc h1c hm b1 b2 hrun b
  unfold Oper.wpIn
  refine ⟨?_, ?_⟩
  · simp [Oper.about, hop, resolve, Target.leads, Sem.run_pure]
  · rw [Oper.semAt_plain F _ _ (by rw [hop]; intro c hc'; cases hc')]
    simp [execOp, hop, resolve, invoke, builtin, hs, hx, hrun, Result.andThen]
    exact hK' _ _ (hK v' w' r1 r2 r3 hz)
end Go.Co
end
