/-
  IrEvals answers true.
-/
import Derived.Test.YtondggcbldnhcaaGreatIrE9
import Derived.Test.YtondggcbldnhcaaGreatIrIn
namespace Go.Proofs.YtondggcbldnhcaaGreat.irx
open Go Go.RowKit
open Go.Proofs.YtondggcbldnhcaaGreat
set_option linter.unusedVariables false
set_option linter.unusedSimpArgs false
set_option maxHeartbeats 6400000 in
set_option maxRecDepth 1000000 in
theorem law3 (P R : Int) (len len0 : Nat) (op ds a b n to : Nat → Int) (cad : Option Addr) (cap : Nat) (aad : Option Addr) (acap : Nat) (args : List Int) (polls : Int) (w : World) (hlen : len ≤ 60)
    (hfew : ∀ w, Calls Tryz.prog 5 #[fval P R cad len0 cap] w fun e w' => e = .returned (fval P R cad len cap) ∧ Below w.heap.size w w')
    (hN : ∀ k, I32 (n k)) (hc : Code_ w w.heap.size cad ⟨P, R, len, op, ds, a, b, n, to⟩) (ha : Args w w.heap.size aad args) (hcap : args.length ≤ acap) (hnone : aad = none → args.length = 0 ∧ acap = 0) (haI : ∀ x ∈ args, I32 x) :
    Calls Tryz.prog 3 #[fval P R cad len0 cap, .slice aad args.length acap, .int .i64 polls] w fun e w' => e = .returned (.bool true) ∧ Below w.heap.size w w' := by
  obtain ⟨pi, hpA, hpB, hpi⟩ : ∃ pi : Int, (300 < polls → pi = 300) ∧ (polls ≤ 300 → pi = polls) ∧ pi ≤ 300 := by
    by_cases h : 300 < polls
    · exact ⟨300, fun _ => rfl, fun h' => by omega, by omega⟩
    · exact ⟨polls, fun h' => by omega, fun _ => rfl, by omega⟩
  have hb0 : Below w.heap.size w (w.alloc (.cells #[.int .i64 P, .int .i64 R, .slice cad len0 cap] 24)) := (Below.refl _ _).alloc (Nat.le_refl _) _
  have hs0 : (w.alloc (.cells #[.int .i64 P, .int .i64 R, .slice cad len0 cap] 24)).heap.size = w.heap.size + 1 := by simp
  have hF0 : (w.alloc (.cells #[.int .i64 P, .int .i64 R, .slice cad len0 cap] 24)).heap[w.heap.size]? = some (.cells #[.int .i64 P, .int .i64 R, .slice cad len0 cap] 24 (0, 0)) := heap_alloc_new w _
  have hNc : Nice ⟨P, R, len, op, ds, a, b, n, to⟩ := fun k => w64 (hN k)
  have hIn := fun (w0 : World) (hb : Below w.heap.size w w0) (hs : w.heap.size ≤ w0.heap.size) => in6 P R len op ds a b n to cad cap w0 hlen (hc.mono hb hs)
  have hE7 := fun (w0 : World) (hb : Below w.heap.size w w0) (hs : w.heap.size ≤ w0.heap.size) => evalI P R len op ds a b n to cad cap aad acap args (pi) w0 hlen (by omega) hNc (hc.mono hb hs) (ha.mono hb hs)
  have hC9 := fun (w0 : World) (hb : Below w.heap.size w w0) (hs : w.heap.size ≤ w0.heap.size) => check9 ⟨P, R, len, op, ds, a, b, n, to⟩ cad cap w0 hlen hNc (hc.mono hb hs)
  have hE8 := fun (cad' : Option Addr) (cap' : Nat) (w0 : World) (hc' : Code_ w0 w0.heap.size cad' ⟨P, R, len, op, ds, a, b, n, to⟩) (hb : Below w.heap.size w w0) (hs : w.heap.size ≤ w0.heap.size) => evalR P R len op ds a b n to cad' cap' aad acap args (pi) w0 hlen (by omega) hN hc' (ha.mono hb hs) hcap hnone haI
  have hC10 := fun (cad' : Option Addr) (cap' : Nat) (w0 : World) (hc' : Code_ w0 w0.heap.size cad' ⟨P, R, len, op, ds, a, b, n, to⟩) => check10 ⟨P, R, len, op, ds, a, b, n, to⟩ cad' cap' w0 hlen hNc hc'
  generalize eval ar ⟨P, R, len, op, ds, a, b, n, to⟩ args (pi).toNat = E at hE7 hE8
  generalize chk ar ⟨P, R, len, op, ds, a, b, n, to⟩ = ce at hC9 hC10
  obtain ⟨k1, n1, m1⟩ := E
  clear hc ha hN hNc hnone haI
  go_enter Tryz.func3, Tryz.ntmps3
  go_upto_if 13 with (first | (go_at_call 5; refine (hfew _).mono ?_; rintro e w1 ⟨rfl, hb1⟩; have hF1 := (hb1.block w.heap.size (by omega)).trans hF0; have hb1' := hb0.trans (hb1.mono (by omega)); have hs1 : w.heap.size + 1 ≤ w1.heap.size := (by have := hb1.size; omega); have hc10 : w1.cell? ⟨w.heap.size, 0, none⟩ = some (.int .i64 P) := (by simp [World.cell?, hF1]); have hc11 : w1.cell? ⟨w.heap.size, 1, none⟩ = some (.int .i64 R) := (by simp [World.cell?, hF1]); have hc12 : w1.cell? ⟨w.heap.size, 2, none⟩ = some (.slice cad len0 cap) := (by simp [World.cell?, hF1]); have hz1 : ∀ j, w1.frozen? ⟨w.heap.size, j, none⟩ = false := (fun j => by simp [World.frozen?, hF1])))
  have hF2 := fin_row' hF1 (.int .i64 P) (.int .i64 R) (.slice cad len cap)
  have hb2 := ((hb1'.setCell (p := ⟨w.heap.size, 0, none⟩) (by simp only; omega) (.int .i64 P)).setCell (p := ⟨w.heap.size, 1, none⟩) (by simp only; omega) (.int .i64 R)).setCell (p := ⟨w.heap.size, 2, none⟩) (by simp only; omega) (.slice cad len cap)
  have hs2 : w.heap.size + 1 ≤ (((w1.setCell ⟨w.heap.size, 0, none⟩ (.int .i64 P)).setCell ⟨w.heap.size, 1, none⟩ (.int .i64 R)).setCell ⟨w.heap.size, 2, none⟩ (.slice cad len cap)).heap.size := by simpa [World.setCell] using hs1
  generalize (((w1.setCell ⟨w.heap.size, 0, none⟩ (.int .i64 P)).setCell ⟨w.heap.size, 1, none⟩ (.int .i64 R)).setCell ⟨w.heap.size, 2, none⟩ (.slice cad len cap)) = w2 at *
  clear hF0 hF1 hb0 hb1 hb1' hs0 hs1 hc10 hc11 hc12 hz1 hfew
  go_cut [2] from 10 (fun v wc => v = .int .i64 pi ∧ wc = w2)
  case first =>
    go_wp2
    all_goals
      go_meet
      case rel => exact ⟨by first | rw [hpA (by omega)] | rw [hpB (by omega)], rfl⟩
  obtain ⟨rfl, rfl⟩ := hcut
  clear hpA hpB
  have c20 : wc.cell? ⟨w.heap.size, 0, none⟩ = some (.int .i64 P) := by simp only [World.cell?, hF2]; rfl
  have c21 : wc.cell? ⟨w.heap.size, 1, none⟩ = some (.int .i64 R) := by simp only [World.cell?, hF2]; rfl
  have c22 : wc.cell? ⟨w.heap.size, 2, none⟩ = some (.slice cad len cap) := by simp only [World.cell?, hF2]; rfl
  go_wp2_with fail
  refine (hIn _ hb2 (by omega)).mono ?_
  rintro e w3 ⟨cad', cap', rfl, hc3, hb3⟩
  clear c20 c21 c22
  have hs3 := hb3.size
  have hF3 := (hb3.block w.heap.size (by omega)).trans hF2
  have hB3 := hb2.trans (hb3.mono (by omega))
  have hWW4 : (w3.alloc (.cells #[.int .i64 P, .int .i64 R, .slice cad' len cap'] 29)).heap[w3.heap.size]? = some (.cells #[.int .i64 P, .int .i64 R, .slice cad' len cap'] 29 (0, 0)) := heap_alloc_new _ _
  have hF4 : (w3.alloc (.cells #[.int .i64 P, .int .i64 R, .slice cad' len cap'] 29)).heap[w.heap.size]? = some (.cells #[.int .i64 P, .int .i64 R, .slice cad len cap] 24 (0, 0)) := by rw [Below.heap_alloc _ _ _ (by omega)]; exact hF3
  have hB4 : Below w.heap.size w (w3.alloc (.cells #[.int .i64 P, .int .i64 R, .slice cad' len cap'] 29)) := hB3.alloc (by omega) _
  have hs4 : (w3.alloc (.cells #[.int .i64 P, .int .i64 R, .slice cad' len cap'] 29)).heap.size = w3.heap.size + 1 := by simp
  have hc4 : Code_ (w3.alloc (.cells #[.int .i64 P, .int .i64 R, .slice cad' len cap'] 29)) (w3.alloc (.cells #[.int .i64 P, .int .i64 R, .slice cad' len cap'] 29)).heap.size cad' ⟨P, R, len, op, ds, a, b, n, to⟩ := hc3.mono ((Below.refl _ _).alloc (Nat.le_refl _) _) (by omega)
  go_upto_region 5 with fail
  clear hc3 hb3 hF3 hB3 hF2 hb2 hIn
  have hs34 : w.heap.size + 1 ≤ w3.heap.size := by omega
  generalize (w3.alloc (.cells #[.int .i64 P, .int .i64 R, .slice cad' len cap'] 29)) = w4 at *
  generalize w3.heap.size = B4 at *
  have f0 : w4.cell? ⟨w.heap.size, 0, none⟩ = some (.int .i64 P) := by simp only [World.cell?, hF4]; rfl
  have f1 : w4.cell? ⟨w.heap.size, 1, none⟩ = some (.int .i64 R) := by simp only [World.cell?, hF4]; rfl
  have f2 : w4.cell? ⟨w.heap.size, 2, none⟩ = some (.slice cad len cap) := by simp only [World.cell?, hF4]; rfl
  go_wp2_with fail
  refine (hE7 _ hB4 (by omega)).mono ?_
  rintro e w5 ⟨rfl, hb5⟩
  have hs5 := hb5.size
  have hF5 := (hb5.block w.heap.size (by omega)).trans hF4
  have hW5 := (hb5.block B4 (by omega)).trans hWW4
  have hB5 := hB4.trans (hb5.mono (by omega))
  have hc5 := hc4.mono hb5 hb5.size
  clear f0 f1 f2 hF4 hWW4 hB4 hc4 hb5 hE7
  have hA6 : (w5.alloc (.cells #[.int .i64 k1, .int .i32 n1, .int .i64 m1] 32)).heap[w5.heap.size]? = some (.cells #[.int .i64 k1, .int .i32 n1, .int .i64 m1] 32 (0, 0)) := heap_alloc_new _ _
  have hF6 : (w5.alloc (.cells #[.int .i64 k1, .int .i32 n1, .int .i64 m1] 32)).heap[w.heap.size]? = some (.cells #[.int .i64 P, .int .i64 R, .slice cad len cap] 24 (0, 0)) := by rw [Below.heap_alloc _ _ _ (by omega)]; exact hF5
  have hWW6 : (w5.alloc (.cells #[.int .i64 k1, .int .i32 n1, .int .i64 m1] 32)).heap[B4]? = some (.cells #[.int .i64 P, .int .i64 R, .slice cad' len cap'] 29 (0, 0)) := by rw [Below.heap_alloc _ _ _ (by omega)]; exact hW5
  have hB6 : Below w.heap.size w (w5.alloc (.cells #[.int .i64 k1, .int .i32 n1, .int .i64 m1] 32)) := hB5.alloc (by omega) _
  have hs6 : (w5.alloc (.cells #[.int .i64 k1, .int .i32 n1, .int .i64 m1] 32)).heap.size = w5.heap.size + 1 := by simp
  have hc6 : Code_ (w5.alloc (.cells #[.int .i64 k1, .int .i32 n1, .int .i64 m1] 32)) (w5.alloc (.cells #[.int .i64 k1, .int .i32 n1, .int .i64 m1] 32)).heap.size cad' ⟨P, R, len, op, ds, a, b, n, to⟩ := hc5.mono ((Below.refl _ _).alloc (Nat.le_refl _) _) (by omega)
  go_upto_region 6 with fail
  clear hF5 hW5 hB5 hc5
  have hs56 : B4 + 1 ≤ w5.heap.size := by omega
  generalize (w5.alloc (.cells #[.int .i64 k1, .int .i32 n1, .int .i64 m1] 32)) = w6 at *
  generalize w5.heap.size = A6 at *
  have f0 : w6.cell? ⟨B4, 0, none⟩ = some (.int .i64 P) := by simp only [World.cell?, hWW6]; rfl
  have f1 : w6.cell? ⟨B4, 1, none⟩ = some (.int .i64 R) := by simp only [World.cell?, hWW6]; rfl
  have f2 : w6.cell? ⟨B4, 2, none⟩ = some (.slice cad' len cap') := by simp only [World.cell?, hWW6]; rfl
  go_wp2_with fail
  refine (hE8 cad' cap' _ hc6 hB6 (by omega)).mono ?_
  rintro e w7 ⟨rfl, hb7⟩
  have hs7 := hb7.size
  have hF7 := (hb7.block w.heap.size (by omega)).trans hF6
  have hW7 := (hb7.block B4 (by omega)).trans hWW6
  have hA7 := (hb7.block A6 (by omega)).trans hA6
  have hB7 := hB6.trans (hb7.mono (by omega))
  have hc7 := hc6.mono hb7 hb7.size
  clear f0 f1 f2 hF6 hWW6 hB6 hc6 hb7 hE8 hA6
  have hC8 : (w7.alloc (.cells #[.int .i64 k1, .int .i32 n1, .int .i64 m1] 34)).heap[w7.heap.size]? = some (.cells #[.int .i64 k1, .int .i32 n1, .int .i64 m1] 34 (0, 0)) := heap_alloc_new _ _
  have hA8 : (w7.alloc (.cells #[.int .i64 k1, .int .i32 n1, .int .i64 m1] 34)).heap[A6]? = some (.cells #[.int .i64 k1, .int .i32 n1, .int .i64 m1] 32 (0, 0)) := by rw [Below.heap_alloc _ _ _ (by omega)]; exact hA7
  have hF8 : (w7.alloc (.cells #[.int .i64 k1, .int .i32 n1, .int .i64 m1] 34)).heap[w.heap.size]? = some (.cells #[.int .i64 P, .int .i64 R, .slice cad len cap] 24 (0, 0)) := by rw [Below.heap_alloc _ _ _ (by omega)]; exact hF7
  have hWW8 : (w7.alloc (.cells #[.int .i64 k1, .int .i32 n1, .int .i64 m1] 34)).heap[B4]? = some (.cells #[.int .i64 P, .int .i64 R, .slice cad' len cap'] 29 (0, 0)) := by rw [Below.heap_alloc _ _ _ (by omega)]; exact hW7
  have hB8 : Below w.heap.size w (w7.alloc (.cells #[.int .i64 k1, .int .i32 n1, .int .i64 m1] 34)) := hB7.alloc (by omega) _
  have hs8 : (w7.alloc (.cells #[.int .i64 k1, .int .i32 n1, .int .i64 m1] 34)).heap.size = w7.heap.size + 1 := by simp
  have hc8 : Code_ (w7.alloc (.cells #[.int .i64 k1, .int .i32 n1, .int .i64 m1] 34)) (w7.alloc (.cells #[.int .i64 k1, .int .i32 n1, .int .i64 m1] 34)).heap.size cad' ⟨P, R, len, op, ds, a, b, n, to⟩ := hc7.mono ((Below.refl _ _).alloc (Nat.le_refl _) _) (by omega)
  go_upto_region 7 with fail
  clear hF7 hW7 hB7 hc7 hA7
  have hs78 : A6 + 1 ≤ w7.heap.size := by omega
  generalize (w7.alloc (.cells #[.int .i64 k1, .int .i32 n1, .int .i64 m1] 34)) = w8 at *
  generalize w7.heap.size = C8 at *
  have cells : ∀ W : World, W.heap[w.heap.size]? = w8.heap[w.heap.size]? → W.heap[B4]? = w8.heap[B4]? → W.heap[A6]? = w8.heap[A6]? → W.heap[C8]? = w8.heap[C8]? →
      (W.cell? ⟨w.heap.size, 0, none⟩ = some (.int .i64 P) ∧ W.cell? ⟨w.heap.size, 1, none⟩ = some (.int .i64 R) ∧ W.cell? ⟨w.heap.size, 2, none⟩ = some (.slice cad len cap)) ∧ (W.cell? ⟨B4, 0, none⟩ = some (.int .i64 P) ∧ W.cell? ⟨B4, 1, none⟩ = some (.int .i64 R) ∧ W.cell? ⟨B4, 2, none⟩ = some (.slice cad' len cap')) ∧
      (W.cell? ⟨A6, 0, none⟩ = some (.int .i64 k1) ∧ W.cell? ⟨A6, 1, none⟩ = some (.int .i32 n1) ∧ W.cell? ⟨A6, 2, none⟩ = some (.int .i64 m1)) ∧ (W.cell? ⟨C8, 0, none⟩ = some (.int .i64 k1) ∧ W.cell? ⟨C8, 1, none⟩ = some (.int .i32 n1) ∧ W.cell? ⟨C8, 2, none⟩ = some (.int .i64 m1)) := by
    intro W h1 h2 h3 h4
    rw [hF8] at h1; rw [hWW8] at h2; rw [hA8] at h3; rw [hC8] at h4
    refine ⟨⟨?_, ?_, ?_⟩, ⟨?_, ?_, ?_⟩, ⟨?_, ?_, ?_⟩, ⟨?_, ?_, ?_⟩⟩
    all_goals first | (simp only [World.cell?, h1]; rfl) | (simp only [World.cell?, h2]; rfl) | (simp only [World.cell?, h3]; rfl) | (simp only [World.cell?, h4]; rfl)
  have cellsH : Hid _ := cells
  obtain ⟨⟨f0, f1, f2⟩, ⟨b0, b1, b2⟩, ⟨a0, a1, a2⟩, ⟨g0, g1, g2⟩⟩ := cells w8 rfl rfl rfl rfl
  clear cells hF8 hWW8 hA8 hC8
  go_cut [6] from 10 (fun v wc => v = .bool true ∧ Below w.heap.size w wc)
  case rest =>
    obtain ⟨rfl, hB⟩ := hcut
    go_wp2
    go_ret
    exact ⟨rfl, hB⟩
  go_wp2_with fail
  go_region_law (first
    | (go_simp; go_at_call 9; refine (hC9 _ hB8.drew (by show _ ≤ w8.heap.size; omega)).mono ?_; rintro e w9 ⟨rfl, hb9⟩; have hb9' : Below w8.heap.size w8 w9 := ⟨hb9.os, hb9.tape, hb9.output, hb9.size, hb9.block⟩; have hs9 : w8.heap.size ≤ w9.heap.size := hb9.size; obtain ⟨⟨p0, p1, p2⟩, ⟨q0, q1, q2⟩, ⟨r0, r1, r2⟩, ⟨t0, t1, t2⟩⟩ := cellsH.out w9 (hb9'.block _ (by omega)) (hb9'.block _ (by omega)) (hb9'.block _ (by omega)) (hb9'.block _ (by omega)))
    | (go_simp; go_at_call 10; refine (hC10 cad' cap' _ (hc8.mono hb9' hs9)).mono ?_; rintro e wa ⟨rfl, hba⟩; have hba' : Below w8.heap.size w8 wa := hb9'.trans (hba.mono hs9); have hsa : w8.heap.size ≤ wa.heap.size := Nat.le_trans hs9 hba.size; obtain ⟨⟨p0, p1, p2⟩, ⟨q0, q1, q2⟩, ⟨r0, r1, r2⟩, ⟨t0, t1, t2⟩⟩ := cellsH.out wa (hba'.block _ (by omega)) (hba'.block _ (by omega)) (hba'.block _ (by omega)) (hba'.block _ (by omega)))
    | (go_simp; go_at_call 11; refine (known_call _).mono ?_; rintro e wb ⟨rfl, hbb⟩; have hBB : Below w.heap.size w wb := hB8.trans ((hba'.trans (hbb.mono hsa)).mono (by omega))))
  all_goals go_wp2
  all_goals go_meet
  all_goals
    case rel => exact ⟨rfl, hBB⟩
end Go.Proofs.YtondggcbldnhcaaGreat.irx
