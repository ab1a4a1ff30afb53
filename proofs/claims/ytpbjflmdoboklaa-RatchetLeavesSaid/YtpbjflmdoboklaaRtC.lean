/-
  The law's own example.
  Own text, for the claims about coterie.
-/
import Derived.Test.YtpbjflmdoboklaaRtA
namespace Go.Proofs.Ytpbjflmdoboklaa
open Go Go.Co Go.Proofs

noncomputable def livesB : Bodies := [bodyLine 12 Try.f12, bodyLine 19 Try.f19, bodyLine 10 Try.f10, bodyLine 22 Try.f22, bodyLine 23 Try.f23, bodyLine 24 Try.f24, bodyLine 20 Try.f20]
theorem livesB_ok : BodiesOK Try.prog livesB :=
  BodiesOK.cons Try.func12 rfl (BodiesOK.cons Try.func19 rfl (BodiesOK.cons Try.func10 rfl (BodiesOK.cons Try.func22 rfl (BodiesOK.cons Try.func23 rfl (BodiesOK.cons Try.func24 rfl (BodiesOK.cons Try.func20 rfl BodiesOK.nil))))))
theorem f9_run : evF (EU [] 40 4 livesB) Try.f9 (body Try.f9) [] () (retK T Try.f9.results.toList [.bool]) = some (true, ()) := by kernel_rfl
theorem f9_ok : ConOK Try.prog 9 ⟨[], [.bool], fun _ => some (true, ())⟩ :=
  con_okE (fun C => EU_ok ConsOK.nil 40 livesB_ok C 4) (fun _ _ => lpU_ok rfl) Try.func9 rfl fun x y _ h => by rw [← h]; exact f9_run
end Go.Proofs.Ytpbjflmdoboklaa
