/-
  What comes in: numbers, spans.
-/
import Derived.Test.YtkejnhmhbmbhcaaAlW
import Derived.WalkKit
import Derived.ProofKit
import Derived.OpenShut
import Derived.Deep.SlicePairs
import Derived.Deep.Slices
set_option maxHeartbeats 64000000
set_option maxRecDepth 1000000
set_option linter.unusedVariables false
set_option linter.unusedSimpArgs false
namespace Go.Proofs.Ytkejnhmhbmbhcaa.al
open Go Go.ChangeShapes Go.WideShapes Go.ChangeAt Go.RowKit Go.Deep
open Go.Proofs.Ytkejnhmhbmbhcaa
theorem cells3 : Try.prog.cellsOf 3 = 1 := by kernel_rfl
theorem ints_arg {H : Type} {enc : TypeId × Value → H} {W : World} {k : Nat} {v : Value} {y : DataW H × List MemPlace} (h : DataW.trod enc Try.prog W 0 (fun _ => true) true k 37 [v] = some y) :
    ∃ (o : Option Addr) (len cap : Nat) (X : Nat → Int), v = .slice o len cap ∧ (0 < len → ∃ g off, o = some ⟨g, off, none⟩ ∧ ∀ i, i < len → W.cell? ⟨g, off + i, none⟩ = some (.int .i64 (X i))) := by
  rcases open_slice1 Try.underlying37 cells3 h with ⟨hcs, hx⟩ | ⟨ad, len, cap, m, n, V, D, Pl, hcs, _, hl, hm, hmm, _, hx⟩
  · injection hcs with hv _
    exact ⟨none, 0, 0, fun _ => 0, hv, fun h => absurd h (by omega)⟩
  · injection hcs with hv _
    simp only [if_true] at hmm
    subst hmm
    have each : ∀ i, i < m → ∃ q : Int, W.cell? (ad.add i) = some (.int .i64 q) := by
      intro i hi
      obtain ⟨h1, h2⟩ := hx i hi
      obtain ⟨q, e, _⟩ := DataW.trod_int Try.underlying3 h2
      injection e with e _
      exact ⟨q, by rw [h1, e]⟩
    obtain ⟨q, hq⟩ := choose_lt each
    obtain ⟨cb, off, spot⟩ := ad
    refine ⟨_, len, m, q, hv, fun h0 => ?_⟩
    have hspot : spot = none := by simpa [Addr.add] using World.cell?_spot (hq 0 (by omega))
    subst hspot
    refine ⟨cb, off, rfl, fun i hi => ?_⟩
    have hc := hq i (by omega)
    rw [add_plain] at hc
    exact hc
end Go.Proofs.Ytkejnhmhbmbhcaa.al
