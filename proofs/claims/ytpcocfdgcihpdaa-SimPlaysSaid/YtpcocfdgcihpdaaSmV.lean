/-
  carafelaw20.SimRuns: both machines run alike.
-/
import Derived.Test.YtpcocfdgcihpdaaSmU
import Derived.OwnWalk
set_option maxHeartbeats 64000000
set_option maxRecDepth 1000000
set_option linter.unusedVariables false
set_option linter.unusedSimpArgs false
namespace Go.Proofs.Ytpcocfdgcihpdaa.rdw
open Go Go.RowKit Go.BigFrame
open Go.Proofs.Ytpcocfdgcihpdaa Go.Proofs.Ytpcocfdgcihpdaa.wr Go.Proofs.Ytpcocfdgcihpdaa.x86enc
def rvs (R : Nat → Int) : List Value := [.int .i32 (R 0), .int .i32 (R 1), .int .i32 (R 2), .int .i32 (R 3), .int .i32 (R 4), .int .i32 (R 5), .int .i32 (R 6), .int .i32 (R 7), .int .i32 (R 8), .int .i32 (R 9), .int .i32 (R 10), .int .i32 (R 11), .int .i32 (R 12), .int .i32 (R 13), .int .i32 (R 14), .int .i32 (R 15)]
theorem rvs_get (R : Nat → Int) {r : Nat} (h : r < 16) : (rvs R)[r]? = some (.int .i32 (R r)) := by
  rcases r16 h with e | e | e | e | e | e | e | e | e | e | e | e | e | e | e | e <;> subst e <;> rfl
structure Box42 (w : World) (b : Nat) (R : Nat → Int) : Prop where
  h : w.heap[b]? = some (.cells (rvs R).toArray 42 (0, 0))
theorem Box42.cell {w : World} {b : Nat} {R : Nat → Int} (h : Box42 w b R) {r : Nat} (hr : r < 16) : w.cell? ⟨b, r, none⟩ = some (.int .i32 (R r)) := by
  simp only [World.cell?, h.h]
  have := rvs_get R hr
  simpa using this
theorem Box42.keep {w w' : World} {b : Nat} {R : Nat → Int} {S : List Nat} (h : Box42 w b R) (ho : Only S w w') (hb : b ∉ S) : Box42 w' b R := ⟨(ho.same b (block_lt h.h) hb).trans h.h⟩
structure Two (w : World) (g gr gw gb cb : Nat) (h hk hw hb cc : Nat) (bs : List Int) (m : Mach) (l : Int) : Prop where
  sim : SimQ w g gr gw gb cb bs m
  ref : RefQ w h hk hw hb cc bs m l
structure Apart (br B : Nat) (g gr gw gb : Nat) (h hk hw hb : Nat) (bs : List Int) : Prop where
  box : br < g ∧ br < gr ∧ br < gw ∧ br < gb
  lo : g < B ∧ gr < B ∧ gw < B ∧ gb < B
  hi : B ≤ h ∧ B ≤ hk ∧ B ≤ hw ∧ B ≤ hb
  ek : bs = [] → hk = h
theorem Apart.sim {br B g gr gw gb h hk hw hb : Nat} {bs : List Int} (a : Apart br B g gr gw gb h hk hw hb bs) : h ∉ [g, gr, gw] ∧ hk ∉ [g, gr, gw] ∧ hw ∉ [g, gr, gw] ∧ hb ∉ [g, gr, gw] ∧ br ∉ [g, gr, gw] := by
  obtain ⟨h1, h2, h3, h4⟩ := a
  simp; omega
theorem Apart.ref {br B g gr gw gb h hk hw hb : Nat} {bs : List Int} (a : Apart br B g gr gw gb h hk hw hb bs) : g ∉ [h, hk, hw] ∧ gr ∉ [h, hk, hw] ∧ gw ∉ [h, hk, hw] ∧ gb ∉ [h, hk, hw] ∧ br ∉ [h, hk, hw] := by
  obtain ⟨h1, h2, h3, h4⟩ := a
  simp; omega
end Go.Proofs.Ytpcocfdgcihpdaa.rdw
