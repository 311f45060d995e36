/-
  AllocWrong: the walk.
-/
import Derived.Test.YtkejnhmhbmbhcaaAlWr
import Derived.Deep.RegionLaw
set_option maxHeartbeats 64000000
set_option maxRecDepth 1000000
set_option linter.unusedVariables false
set_option linter.unusedSimpArgs false
namespace Go.Proofs.Ytkejnhmhbmbhcaa.al
open Go Go.RowKit Go.BigFrame Go.Maps
open Go.Proofs.Ytkejnhmhbmbhcaa
theorem cnt_le {s : AlScan.Sps} {R n : Nat} {E : Nat → Nat} {a : AlScan.St} (o : AlScan.Ordr s n E) (hF : ∀ g, g < n → s.F g ≤ s.T g) (h0 : ∀ g, g < n → 0 ≤ s.F g) (h : AlScan.At s R n n E a) : a.cnt ≤ n := by
  rw [← AlScan.cs_all o hF h0 n (Nat.le_refl _) a h.st]; exact cs_le _ _
theorem region_below {P : Program} {id : Nat} {Q : Exit → Act → World → Prop} {a : Act} {w : World} {l : List Oper} (w0 : World) (hm : P.follows .mixedOrders = true) (hB : Region.lexB .any l.toArray = true) (hC : Below w0.heap.size w0 w)
    (h : wpQuiet P l.toArray (fun w' => Below w0.heap.size w0 w') (fun a' => ∀ w', Below w0.heap.size w0 w' → Q .normal a' w') l a) : (Code.region id l.toArray true).wp P Q a w :=
  wp_region_quiet (C := fun w' => Below w0.heap.size w0 w') hm hB ⟨hC.os, hC.tape, hC.output, hC.size, hC.block⟩ (by simpa using h)
end Go.Proofs.Ytkejnhmhbmbhcaa.al
