/-
  AllocFewer: the walk.
-/
import Derived.Test.YtkejnhmhbmbhcaaAlW
import Derived.Test.YtkejnhmhbmbhcaaAlK0
import Derived.Test.YtkejnhmhbmbhcaaAlRuns
set_option maxHeartbeats 64000000
set_option maxRecDepth 1000000
set_option linter.unusedVariables false
set_option linter.unusedSimpArgs false
namespace Go.Proofs.Ytkejnhmhbmbhcaa.al
open Go Go.RowKit Go.BigFrame
open Go.Proofs.Ytkejnhmhbmbhcaa
theorem Srt.uniq {s : AlScan.Sps} {N : Nat} {E E' : Nat → Nat} (h : Srt s N E) (h' : Srt s N E') : E = E' := by
  -- both are the sorted row of the same things
  have hs : AlSo.Same E E' 0 N := by
    refine ⟨fun i hi => ?_, fun i h1 h2 => ?_, fun j h1 h2 => ?_⟩
    · rw [h.same.out i hi, h'.same.out i hi]
    · obtain ⟨i', _, hi', e⟩ := h.same.fro i h1 h2
      obtain ⟨j, j1, j2, e'⟩ := h'.same.to i' (by omega) hi'
      exact ⟨j, j1, j2, by rw [e', e]⟩
    · obtain ⟨i', _, hi', e⟩ := h'.same.fro j h1 h2
      obtain ⟨i, i1, i2, e'⟩ := h.same.to i' (by omega) hi'
      exact ⟨i, i1, i2, by rw [e, e']⟩
  funext i
  exact (AlSo.sorted_unique (AlSo.ord_ok s.F) hs h.sorted h'.sorted i).symm
theorem PlM.below {w w' : World} {ob N : Nat} {V reg spill : Nat → Int} (h : PlM w ob N V reg spill) (hl : ob < w.heap.size) (ho : Below w.heap.size w w') : PlM w' ob N V reg spill :=
  h.keep hl (S := []) ⟨ho.os, ho.tape, ho.output, ho.size, fun c hc _ => ho.block c hc⟩ (by simp)
end Go.Proofs.Ytkejnhmhbmbhcaa.al
