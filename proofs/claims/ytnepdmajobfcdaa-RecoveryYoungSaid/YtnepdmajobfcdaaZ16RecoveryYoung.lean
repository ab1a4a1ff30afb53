/-
  For every input the law RecoveryYoung returns true, and each argument reads afterwards as it read before. No condition but those of the row itself.
  Own text, for the claims about coterie.
-/
import Derived.Test.YtnepdmajobfcdaaRows
import Derived.HandedShaped
import Derived.Test.YtnepdmajobfcdaaPartE

namespace Go.Proofs.Ytnepdmajobfcdaa
open Go.ChangeShapes Go.WideShapes Go.ChangeAt Go.RowKit Go.Co Go.Co.N

theorem Try.own : ownKnob Try.prog.godebug = none := by kernel_rfl
theorem Try.laidOut : laidOutB Try.prog = true := by kernel_rfl
theorem T_pos : posB T = true := by kernel_rfl
set_option maxRecDepth 100000 in
theorem recoveryYoung_lifted (os : Os) (started : os.Started) (H : Type) (enc : TypeId × Value → H) :
    ReturnsInHanded {} Try.checked os 6 .any (Rows.recoveryYoungSpec.pre6 enc Try.prog Try.f6 Rows.recoveryYoungRow.domain false) (Rows.recoveryYoungSpec.post enc Try.prog Try.f6 false true false false) := by
  refine returnsInHanded_of_change_shaped (C := Try.checked) Try.own started (by kernel_rfl) Try.func6
    (ChangeSpec.witness6 (enc := enc) (C := Try.checked) false ⟨#[], #[pk true (zcells (.st .lag))], []⟩ 8 (by kernel_rfl) (by kernel_rfl) (by kernel_rfl) (by kernel_rfl)) ?_
  intro W base args ds gs before hval hW _ hwt _ _
  exact law_calls T_ok T_pos (GOK.none (by kernel_rfl) W) ok_law16_RecoveryYoung (by kernel_rfl) rfl Try.underlying4 rfl (fun ds h => match ds, h with | [_], _ => rfl) Try.laidOut (by kernel_rfl) hval hW hwt
theorem recoveryYoung_holds : Rows.RecoveryYoungSaid :=
  OpenClaim.holds_of_wide 6 Try.f6 rfl rfl rfl rfl rfl rfl rfl ⟨rfl, rfl, rfl, rfl, rfl⟩ rfl rfl rfl rfl rfl (by kernel_rfl) Try.func6 (by kernel_rfl)
    (of_decide_eq_true (by kernel_rfl)) (by unfold Func.isWrapper; first | (rw [if_pos (by decide +kernel)]; kernel_rfl) | (rw [if_neg (by decide +kernel)]; exact ⟨rfl, rfl⟩))
    (fun os started H enc _ => recoveryYoung_lifted os started H enc)
end Go.Proofs.Ytnepdmajobfcdaa
