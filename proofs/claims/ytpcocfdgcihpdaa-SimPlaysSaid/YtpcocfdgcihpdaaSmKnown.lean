/-
  The closed run of carafelaw20.known: true.
-/
import Derived.Test.YtpcocfdgcihpdaaProg
import Derived.Test.YtpcocfdgcihpdaaEngW
import Derived.KernelRfl
set_option maxHeartbeats 64000000
set_option maxRecDepth 1000000
set_option linter.unusedVariables false
set_option linter.unusedSimpArgs false
namespace Go.Proofs.Ytpcocfdgcihpdaa.rdw
open Go Go.RowKit
open Go.Proofs.Ytpcocfdgcihpdaa
theorem known_run : Eng.fcallOf (β := Eng.AV) Try.prog (Eng.fexec Try.prog 1000000) 14 [] Eng.f5 Eng.b0 (fun v _ _ => some v) = some (.bool true) := by kernel_rfl
theorem known_call (w : World) : Calls Try.prog 14 #[] w fun e w' => e = .returned (.bool true) ∧ Below w.heap.size w w' := by
  refine (Eng.calledF 1000000 14 [] _ _ known_run w #[] (by simp [Eng.VRels])).mono fun e w' h => ?_
  obtain ⟨⟨v, h', x', cv, μ', h1, rfl, h2, _⟩, hb⟩ := h
  have h1' : v = .bool true := Option.some.inj h1
  rw [h1'] at h2
  simp only [Eng.VRel] at h2
  exact ⟨by rw [h2], hb⟩
end Go.Proofs.Ytpcocfdgcihpdaa.rdw
