/-
  For every input of bulk at most 1048576 the law RecordBytes returns true, and each argument reads afterwards as it read before; the library's table is tied to the program's text.
  Own text, for the claims about coterie.
-/
import Derived.Test.YtmjobjaajnjgjaaDoorRows
import Derived.Test.YtmjobjaajnjgjaaDoorCards
import Derived.Test.YtmjobjaajnjgjaaDoorTie
import Derived.Deep.DeepHandedRow
import Derived.Test.YtmjobjaajnjgjaaDoorPartF

namespace Go.Proofs.YtmjobjaajnjgjaaDoor
open Go.ChangeShapes Go.WideShapes Go.ChangeAt Go.RowKit Go.Co Go.Co.N

theorem Tryd.own : ownKnob Tryd.prog.godebug = none := by kernel_rfl
theorem Tryd.laidOut : laidOutB Tryd.prog = true := by kernel_rfl
theorem T_pos : posB T = true := by kernel_rfl
abbrev laidT : List (String × DataW Unit) := [("math/bits.deBruijn64tab", Rows.laid_math_bits_deBruijn64tab)]
theorem gok_laid {W : World} (h : laidMetH Tryd.prog laidT W) : GOK Tryd.prog W :=
  gok_of_laid (t := 169) (e := 5) (by kernel_rfl) (by kernel_rfl) (by kernel_rfl) (by kernel_rfl) (by kernel_rfl) (by kernel_rfl) (by kernel_rfl) (by rfl) h
noncomputable def laidWorld (os : Os) : World :=
  let w0 := World.holding Tryd.prog os ⟨#[], #[], []⟩
  { w0 with heap := w0.heap.modify 0 fun
      | .cells _ t frozen => .cells (tab64.map fun (v : Nat) => Value.int .u8 (v : Int)).toArray t frozen
      | o => o }
theorem laidWorld_met (os : Os) (args : Array Value) : laidMetH Tryd.prog laidT ((laidWorld os).forCall (fun _ _ => 0) ⟨#[], args, []⟩).memory :=
  laidMetH_of_parts3 (fuel := 8) (laidMet_of_run' 8 (by kernel_rfl) (by kernel_rfl)) (by kernel_rfl) (by kernel_rfl)
/-- What the bound gives of the text. -/
theorem short {H : Type} {d0 : DataW H} {s : ByteArray} {gs : List (DataW H)} (hk : Rows.uptoSmall H ([d0, .lit (.string s.data.toList)] ++ gs) = true) : s.size ≤ 1048576 := by
  have h : Rows.uptoBulkAll ([d0, DataW.lit (H := H) (.string s.data.toList)] ++ gs) ≤ 1048576 := of_decide_eq_true hk
  simp only [List.cons_append, List.nil_append, Rows.uptoBulkAll, Rows.uptoBulk] at h
  have e : s.data.toList.length = s.size := by rw [Array.length_toList]; rfl
  omega
set_option maxRecDepth 100000 in
theorem recordBytes_reads (os : Os) {H : Type} (enc : TypeId × Value → H) : ∃ places, DataW.whole enc Tryd.prog ((laidWorld os).forCall (fun _ _ => 0) ⟨#[], #[pk true (zcells (.st .record)), .string ByteArray.empty], []⟩).memory Tryd.f5.params.toList Rows.recordBytesSpec.vars false #[pk true (zcells (.st .record)), .string ByteArray.empty].toList 8 = some ([.agg [.lit (.int .i64 0), .lit (.int .i64 0), .nil, .nil], .lit (.string [])], [], places) :=
  ⟨[], by kernel_rfl⟩
set_option maxRecDepth 100000 in
theorem recordBytes_lifted (os : Os) (started : os.Started) (H : Type) (enc : TypeId × Value → H) (F : Stop.Interp) :
    ReturnsInHanded {} Tryd.checked os 5 .any ((Rows.OpenSpec.upto Rows.recordBytesSpec).preRow enc Tryd.prog Tryd.f5 Rows.recordBytesUptoRow.domain false Rows.recordBytesUptoRow.laid) (((Rows.OpenSpec.upto Rows.recordBytesSpec).at F).post enc Tryd.prog Tryd.f5 false true false false) := by
  obtain ⟨places, hx⟩ := recordBytes_reads os enc
  refine returnsInHanded_of_row (C := Tryd.checked) (s := Rows.OpenSpec.upto Rows.recordBytesSpec) Tryd.own started (by kernel_rfl) Tryd.func5
    (witness_row_at (enc := enc) (C := Tryd.checked) false (laidWorld os) #[pk true (zcells (.st .record)), .string ByteArray.empty] rfl (by kernel_rfl) (by kernel_rfl) (by kernel_rfl)
      (OpenSpec.preRow_of_cond 8 hx (by kernel_rfl) (fun k hk => by cases hk; kernel_rfl) (by kernel_rfl) (laidWorld_met os _))) ?_
  intro W base args ds gs before hval hW _ hcond hwt hL _ _
  refine law_callsH T_ok T_pos (gok_laid hL) ok_law13_RecordBytes ?_ (by kernel_rfl) rfl Tryd.underlying4 rfl (fun ds h => match ds, h with | [_, _], _ => rfl) Tryd.laidOut (by kernel_rfl) hval hW hwt
  intro x _ hx
  obtain ⟨p, q, hA0, hV, rfl, hfz, hnd⟩ := hW
  have hA : DataW.TrodAll enc Tryd.prog W 0 (fun _ => true) true Tryd.f5.params.toList args.toList ds p := hA0
  rw [Tryd.params5] at hA hval
  obtain ⟨v0, vs0, d0, ds0, p0, q0, hargs, rfl, rfl, h0, r0⟩ := trodAll_cons hA
  obtain ⟨v1, vs1, d1, ds1, p1, q1, hargs1, rfl, rfl, h1, r1⟩ := trodAll_cons r0
  obtain ⟨rfl, rfl, rfl⟩ := trodAll_nil r1
  subst hargs1
  obtain rfl : args = #[v0, v1] := by cases args; simp_all
  obtain ⟨s, rfl, rfl, _, _⟩ := Go.ChangeMaps.open_string Tryd.underlying9 (hval 1 9 v1 rfl rfl) h1
  obtain ⟨r, b, u⟩ := x
  obtain ⟨_, ⟨cs, hcs, hb⟩, _⟩ := hx
  have hb2 := Rd.str.1 hb
  obtain ⟨rfl, _⟩ := hb2
  have hsb : s = b := by
    have : Value.string s = Value.string b := hcs
    exact Value.string.inj this
  subst hsb
  have := short (hcond _ rfl)
  show guardK (decide (ByteArray.size s ≤ 1048576)) (some (true, ())) = _
  rw [decide_eq_true this]; rfl
theorem recordBytes_upto : Rows.RecordBytesUptoSaid :=
  OpenClaim.holds_of_cond 5 Tryd.f5 rfl rfl rfl rfl rfl rfl rfl ⟨rfl, rfl, rfl, rfl, rfl⟩ rfl rfl rfl rfl rfl (by kernel_rfl) Tryd.func5 (by kernel_rfl)
    (of_decide_eq_true (by kernel_rfl)) (by unfold Func.isWrapper; first | (rw [if_pos (by decide +kernel)]; kernel_rfl) | (rw [if_neg (by decide +kernel)]; exact ⟨rfl, rfl⟩))
    (fun os started H enc _ F => by rw [OpenClaim.pre_eq_preRow]; exact recordBytes_lifted os started H enc F)
theorem recordBytesUpto_card_holds : Rows.RecordBytesUptoCardSaid :=
  Claim7.holds_tied_plain_at .later [] _ _ _ _
    recordBytes_upto (fun _ h => by cases h) (by kernel_rfl) (fun _ h => by cases h) recordBytesUpto_row_tie rfl ⟨rfl, rfl⟩ (by kernel_rfl) rfl
    (fun f fn hf hfn => by
      obtain rfl : f = 5 := Option.some.inj ((show Tryd.prog.funcNamed "coterie/coterielaw13.RecordBytes" = some 5 by kernel_rfl).symm.trans hf) |>.symm
      obtain rfl : fn = Tryd.f5 := (Option.some.inj (Tryd.func5.symm.trans hfn)).symm
      exact ⟨by kernel_rfl, fun j t ht => by
        rw [Tryd.params5] at ht
        have hm : t ∈ [38, 9] := by simpa using Array.mem_of_getElem? ht
        have hall : ([38, 9].all fun u => !Tryd.prog.wantsStandIn u) = true := by kernel_rfl
        exact (show Tryd.prog.wantsStandIn t = false by simpa using List.all_eq_true.1 hall t hm)⟩)
    (by kernel_rfl)
end Go.Proofs.YtmjobjaajnjgjaaDoor
