/-
  AllocFewer: the walk.
-/
import Derived.Test.YtkejnhmhbmbhcaaAlW
import Derived.Test.YtkejnhmhbmbhcaaAlK0
import Derived.Test.YtkejnhmhbmbhcaaAlRuns
set_option maxHeartbeats 64000000
set_option maxRecDepth 1000000
set_option linter.unusedVariables false
set_option linter.unusedSimpArgs false
namespace Go.Proofs.Ytkejnhmhbmbhcaa.al
open Go Go.RowKit Go.BigFrame
open Go.Proofs.Ytkejnhmhbmbhcaa
theorem scanF {lv : Value} {N R : Nat} {s : AlScan.Sps} {w : World} (h : SpV w lv N s) (hf : Fine s N) (hN : N ≤ 40) (hR : R ≤ 16) : Calls Try.prog 7 #[lv, .int .i64 (R : Int)] w fun e w' => Below w.heap.size w w' ∧ ScanG w R N s e w' :=
  (scan7_ok lv N R s w h (by omega) hR).mono fun e w' ⟨h1, h2⟩ => ⟨h1, (h2.resolve_left (fun h => h.1 hf.good)).2⟩
theorem PlM.below {w w' : World} {ob N : Nat} {V reg spill : Nat → Int} (h : PlM w ob N V reg spill) (hl : ob < w.heap.size) (ho : Below w.heap.size w w') : PlM w' ob N V reg spill :=
  h.keep hl (S := []) ⟨ho.os, ho.tape, ho.output, ho.size, fun c hc _ => ho.block c hc⟩ (by simp)
theorem cs_le (f : Nat → Int) : ∀ n, AlScan.cs f n ≤ n
  | 0 => Nat.le_refl _
  | n + 1 => by have := cs_le f n; simp only [AlScan.cs]; split <;> omega
end Go.Proofs.Ytkejnhmhbmbhcaa.al
