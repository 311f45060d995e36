/-
  carafelaw22's known: the evaluator runs it once.
-/
import Derived.Test.YtkejnhmhbmbhcaaProg
import Derived.Test.YtkejnhmhbmbhcaaEngT
import Derived.Test.YtkejnhmhbmbhcaaEngU
import Derived.KernelRfl
import Derived.WalkKit
set_option maxHeartbeats 64000000
set_option maxRecDepth 1000000
set_option linter.unusedVariables false
set_option linter.unusedSimpArgs false
namespace Go.Proofs.Ytkejnhmhbmbhcaa.al
open Go Go.RowKit Go.BigFrame
open Go.Proofs.Ytkejnhmhbmbhcaa
theorem ran10 : Eng.callOf (β := Eng.AV) Try.prog (Eng.exec Try.prog 1000000) 10 [] Eng.f5 Eng.b0 (fun v _ _ => some v) = some (.bool true) := by kernel_rfl
theorem known10 (w : World) : Calls Try.prog 10 #[] w fun e w' => e = .returned (.bool true) ∧ Below w.heap.size w w' := by
  refine (Eng.closed 1000000 10 _ ran10 w (fun n l h => by simp [Eng.globStr] at h)).mono fun e w' h => ?_
  obtain ⟨⟨cv, μ', rfl, hv⟩, hb⟩ := h
  simp only [Eng.VRel] at hv
  subst hv
  exact ⟨rfl, hb⟩
end Go.Proofs.Ytkejnhmhbmbhcaa.al
