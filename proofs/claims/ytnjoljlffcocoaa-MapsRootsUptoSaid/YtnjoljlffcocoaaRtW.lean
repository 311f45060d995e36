/-
  MapsRoots answers true for every map whose slices have at most 1048576 places.
-/
import Derived.Test.YtnjoljlffcocoaaRtA
import Derived.Test.YtnjoljlffcocoaaRtB
import Derived.Test.YtnjoljlffcocoaaRtK
namespace Go.Proofs.Ytnjoljlffcocoaa.rt
open Go Go.RowKit
open Go.Proofs.Ytnjoljlffcocoaa
set_option linter.unusedVariables false
set_option linter.unusedSimpArgs false
theorem Arg.mono {w w' : World} {B B' : Nat} {ad : Option Addr} {len : Nat} {Z : Nat → Bool} (h : Arg w B ad len Z) (hb : Below B w w') (hB : B ≤ B') : Arg w' B' ad len Z := by
  intro i hi
  obtain ⟨b, off, h1, h2, h3⟩ := h i hi
  exact ⟨b, off, h1, by omega, (hb.cell h2).trans h3⟩
theorem getD_lt {xs : List Nat} (h : xs.Pairwise (· < ·)) (i : Nat) (hi : i + 1 < xs.length) : ((xs.getD i 0 : Nat) : Int) < ((xs.getD (i + 1) 0 : Nat) : Int) := by
  have h1 := List.pairwise_iff_getElem.1 h i (i + 1) (by omega) hi (by omega)
  simp only [List.getD_eq_getElem?_getD, List.getElem?_eq_getElem (show i < xs.length by omega), List.getElem?_eq_getElem hi, Option.getD_some]
  omega
theorem R_le (L V S : Nat → Bool) (nl nv ns : Nat) : (R L V S nl nv ns).length ≤ nl + ns := by
  unfold R
  rw [List.length_append]
  have := R1_le L V nv nl
  have := R2_le S nl ns
  omega
set_option maxHeartbeats 1600000 in
set_option maxRecDepth 1000000 in
theorem law3 (at_ : Int) (a1 a2 a3 : Option Addr) (l1 c1 l2 c2 l3 c3 : Nat) (L S V : Nat → Bool) (w : World) (h1 : l1 ≤ 1048576) (h2 : l2 ≤ 1048576) (h3 : l3 ≤ 1048576)
    (hL : Arg w w.heap.size a1 l1 L) (hS : Arg w w.heap.size a2 l2 S) (hV : Arg w w.heap.size a3 l3 V) :
    Calls Try.prog 3 #[.agg #[.int .i64 at_, .slice a1 l1 c1, .slice a2 l2 c2, .slice a3 l3 c3]] w fun e w' => e = .returned (.bool true) ∧ Below w.heap.size w w' := by
  have hb0 : Below w.heap.size w (w.alloc (.cells #[.int .i64 at_, .slice a1 l1 c1, .slice a2 l2 c2, .slice a3 l3 c3] 24)) := (Below.refl _ _).alloc (Nat.le_refl _) _
  have hsz0 : (w.alloc (.cells #[.int .i64 at_, .slice a1 l1 c1, .slice a2 l2 c2, .slice a3 l3 c3] 24)).heap.size = w.heap.size + 1 := by simp
  have R4 := roots4 at_ a1 a2 a3 l1 c1 l2 c2 l3 c3 L S V (w.alloc (.cells #[.int .i64 at_, .slice a1 l1 c1, .slice a2 l2 c2, .slice a3 l3 c3] 24)) h1 h2 h3 (hL.mono hb0 (by omega)) (hS.mono hb0 (by omega)) (hV.mono hb0 (by omega))
  have hRle := R_le L V S l1 l3 l2
  have hsort := R_sorted L V S l1 l3 l2
  generalize hxs : R L V S l1 l3 l2 = xs at hRle hsort R4
  go_enter Try.func3, Try.ntmps3
  go_wp2_with fail
  refine R4.mono ?_
  rintro e w2 ⟨v, rfl, hown4, hbel4⟩
  have hRow := Row.of_own hown4
  have HR : Hid (Row w2 v xs.length fun i => ((xs.getD i 0 : Nat) : Int)) := hRow
  obtain ⟨ad, cap, rfl, hrow⟩ := hRow
  have HX : Hid (xs.length ≤ l1 + l3 + l2 ∧ R L V S l1 l3 l2 = xs) := ⟨by omega, hxs⟩
  have hbel2 : Below w.heap.size w w2 := hb0.trans (hbel4.mono (by omega))
  have hbox : ∀ j u, (#[Value.int .i64 at_, .slice a1 l1 c1, .slice a2 l2 c2, .slice a3 l3 c3] : Array Value)[j]? = some u → w2.cell? ⟨w.heap.size, j, none⟩ = some u := by
    intro j u hj
    rw [hbel4.cell (by simp)]
    exact (Rel.start w _ 24 [] rfl).cellAt hj
  generalize hn : xs.length = n at hRle hrow HR
  generalize hZZ : (fun i => ((xs.getD i 0 : Nat) : Int)) = Z at hrow HR
  have hZ : ∀ i, i + 1 < n → Z i < Z (i + 1) := fun i hi => by rw [← hZZ]; exact getD_lt hsort i (by omega)
  clear R4 hxs hown4 hsort
  have HN : Hid (xs.length = n ∧ (fun i => ((xs.getD i 0 : Nat) : Int)) = Z) := ⟨hn, hZZ⟩
  clear hn hZZ
  go_wp2
  go_loopw [4] (fun i wr => ∃ k : Nat, k ≤ n ∧ i = .int .i64 ((k : Int) + 1) ∧ Below w2.heap.size w2 wr) (fun i _ => n + 1 - (intOf i).toNat)
  case atStart => exact ⟨0, Nat.zero_le _, rfl, Below.refl _ _⟩
  case round =>
    obtain ⟨k, hk, rfl, hbel⟩ := hrel
    by_cases hk1 : k + 1 < n
    · obtain ⟨b1, rfl, hb1, hc1⟩ := hrow k (by omega)
      obtain ⟨b2, he2, hb2, hc2⟩ := hrow (k + 1) hk1
      injection he2 with he2
      injection he2 with he2
      subst he2
      have hd1 : wr.cell? ⟨b1, k, none⟩ = some (.int .i64 (Z k)) := (hbel.cell hb1).trans hc1
      have hd2 : wr.cell? ⟨b1, k + 1, none⟩ = some (.int .i64 (Z (k + 1))) := (hbel.cell hb1).trans hc2
      have hlt := hZ k hk1
      clear hrow hZ
      go_wp2
      go_region
      go_wp2
      go_roundw
      case rel => exact ⟨k + 1, by omega, by go_num, hbel.drew⟩
      case measure => simp [intOf]; omega
    · have hkn : ¬ ((k : Int) + 1 < (n : Int)) := by omega
      have hlt0 : w.heap.size < w2.heap.size := by have := hbel4.size; simp at this; omega
      have hc0 : wr.cell? ⟨w.heap.size, 0, none⟩ = some (.int .i64 at_) := (hbel.cell hlt0).trans (hbox 0 _ rfl)
      have hc1 : wr.cell? ⟨w.heap.size, 1, none⟩ = some (.slice a1 l1 c1) := (hbel.cell hlt0).trans (hbox 1 _ rfl)
      have hc2 : wr.cell? ⟨w.heap.size, 2, none⟩ = some (.slice a2 l2 c2) := (hbel.cell hlt0).trans (hbox 2 _ rfl)
      have hc3 : wr.cell? ⟨w.heap.size, 3, none⟩ = some (.slice a3 l3 c3) := (hbel.cell hlt0).trans (hbox 3 _ rfl)
      have hbw : Below w.heap.size w wr := hbel2.trans (hbel.mono (by omega))
      have R6 := roots6 at_ a1 a2 a3 l1 c1 l2 c2 l3 c3 L S V wr h1 h2 h3 (hL.mono hbw hbw.size) (hS.mono hbw hbw.size) (hV.mono hbw hbw.size)
      rw [HX.out.2] at R6
      have HB : Hid (Below w.heap.size w wr) := hbw
      have HRr : Hid (Row wr (.slice ad n cap) n Z) := HR.out.below hbel
      clear hrow hZ hbox hbel hbw hbel2 hbel4 hb0
      go_wp2_with (first | (go_at_call 6; refine R6.mono ?_; rintro e w3 ⟨v3, rfl, hown6, hbel6⟩) | (go_at_call 5; refine (same5 _ _ n Z _ (by omega) (HRr.out.below hbel6) (HN.out.1 ▸ HN.out.2 ▸ Row.of_own hown6)).mono ?_; rintro e w4 ⟨rfl, hbel5⟩) | (go_at_call 7; refine (known_call _).mono ?_; rintro e w5 ⟨rfl, hbel7⟩))
      go_ret
      have s6 := hbel6.size
      have s5 := hbel5.size
      have sw := HB.out.size
      exact ⟨rfl, ((HB.out.trans (hbel6.mono sw)).trans (hbel5.mono (by omega))).trans (hbel7.mono (by omega))⟩
end Go.Proofs.Ytnjoljlffcocoaa.rt
