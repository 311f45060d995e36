/-
  known of chapter 11 answers true in every world; Same of two rows of the same numbers is true.
-/
import Derived.Test.YtnjoljlffcocoaaRtParts
import Derived.Test.YtnjoljlffcocoaaEngY
namespace Go.Proofs.Ytnjoljlffcocoaa.rt
open Go Go.RowKit
open Go.Proofs.Ytnjoljlffcocoaa
set_option linter.unusedVariables false
set_option linter.unusedSimpArgs false
set_option maxRecDepth 1000000
theorem known_run : Eng.fcallOf (β := Eng.AV) Try.prog (Eng.fexec Try.prog 1000000) 7 [] Eng.f5 Eng.b0 (fun v _ _ => some v) = some (.bool true) := by kernel_rfl
theorem known_call (w : World) : Calls Try.prog 7 #[] w fun e w' => e = .returned (.bool true) ∧ Below w.heap.size w w' := by
  refine (Eng.calledF 1000000 7 [] _ _ known_run w #[] (by simp [Eng.VRels])).mono fun e w' h => ?_
  obtain ⟨⟨v, h', x', cv, μ', h1, rfl, h2, _⟩, hb⟩ := h
  have h1' : v = .bool true := Option.some.inj h1
  rw [h1'] at h2
  simp only [Eng.VRel] at h2
  exact ⟨by rw [h2], hb⟩
/-- a row of numbers -/
def Row (w : World) (v : Value) (n : Nat) (Z : Nat → Int) : Prop :=
  ∃ ad cap, v = .slice ad n cap ∧ ∀ i, i < n → ∃ b, ad = some ⟨b, 0, none⟩ ∧ b < w.heap.size ∧ w.cell? ⟨b, i, none⟩ = some (.int .i64 (Z i))
theorem Row.below {w w' : World} {v : Value} {n : Nat} {Z : Nat → Int} (h : Row w v n Z) (hb : Below w.heap.size w w') : Row w' v n Z := by
  obtain ⟨ad, cap, h1, h2⟩ := h
  refine ⟨ad, cap, h1, fun i hi => ?_⟩
  obtain ⟨b, h3, h4, h5⟩ := h2 i hi
  exact ⟨b, h3, Nat.lt_of_lt_of_le h4 hb.size, (hb.cell h4).trans h5⟩
theorem Row.of_own {w : World} {base : Nat} {v : Value} {xs : List Nat} (h : w.ownsRow base 3 1 v xs.length (ints xs)) : Row w v xs.length fun i => ((xs.getD i 0 : Nat) : Int) := by
  have hlt := h.lt
  have h0 := h
  obtain ⟨_, hc⟩ := h
  rcases hc with ⟨rfl, hn⟩ | ⟨g, cap, cur, rfl, hg, hh, hn, hcap, hsz, htake⟩
  · rw [hn]
    exact ⟨none, 0, rfl, fun i hi => by omega⟩
  · refine ⟨_, cap, rfl, fun i hi => ⟨g, rfl, (hlt g rfl).2, ?_⟩⟩
    rw [h0.cellAt i (by omega)]
    simp [ints, List.getD, hi]
set_option maxHeartbeats 1600000 in
theorem same5 (va vb : Value) (n : Nat) (Z : Nat → Int) (w : World) (hn : n ≤ 4194304) (ha : Row w va n Z) (hb : Row w vb n Z) :
    Calls Try.prog 5 #[va, vb] w fun e w' => e = .returned (.bool true) ∧ Below w.heap.size w w' := by
  obtain ⟨ada, ca, rfl, ha⟩ := ha
  obtain ⟨adb, cb, rfl, hb⟩ := hb
  go_enter Try.func5, Try.ntmps5
  go_wp2
  go_loopw [5] (fun i wr => ∃ k : Nat, k ≤ n ∧ i = .int .i64 k ∧ Below w.heap.size w wr) (fun i _ => n - (intOf i).toNat)
  case atStart => exact ⟨0, Nat.zero_le _, rfl, Below.refl _ _⟩
  case round =>
    obtain ⟨k, hk, rfl, hbel⟩ := hrel
    by_cases hk1 : k < n
    · obtain ⟨b1, rfl, hb1, hc1⟩ := ha k hk1
      obtain ⟨b2, rfl, hb2, hc2⟩ := hb k hk1
      have hd1 : wr.cell? ⟨b1, k, none⟩ = some (.int .i64 (Z k)) := (hbel.cell hb1).trans hc1
      have hd2 : wr.cell? ⟨b2, k, none⟩ = some (.int .i64 (Z k)) := (hbel.cell hb2).trans hc2
      go_wp2
      go_region
      go_wp2
      go_roundw
      case rel => exact ⟨k + 1, by omega, by go_num, hbel.drew⟩
      case measure => simp [intOf]; omega
    · have hkl : k = n := by omega
      subst hkl
      go_wp2
      go_ret
      exact ⟨rfl, hbel⟩
end Go.Proofs.Ytnjoljlffcocoaa.rt
