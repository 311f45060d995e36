/-
  THE CONTRACT of x86.Encode and caraferef19.Encode, for every instruction; it may stand in for both calls (TabOK).
-/
import Derived.Test.YtpcocfdgcihpdaaX86Run
set_option maxHeartbeats 64000000
set_option maxRecDepth 1000000
set_option linter.unusedVariables false
set_option linter.unusedSimpArgs false
namespace Go.Proofs.Ytpcocfdgcihpdaa.x86enc
open Go Go.RowKit
open Go.Proofs.Ytpcocfdgcihpdaa
set_option linter.unusedVariables false
set_option linter.unusedSimpArgs false
theorem rel4 (op a b n : Int) (k : Nat) (h : op = (k : Int)) : Eng.VRels (fun _ => none) [.agg [.int .i64 (.ofNat k), .sint .i64 a 1, .sint .i64 b 2, .sint .i32 n 3]] (#[Value.agg #[.int .i64 op, .int .i64 a, .int .i64 b, .int .i32 n]] : Array Value).toList := by
  subst h
  simp [Eng.VRels, Eng.VRel]
theorem rel4' (op a b n : Int) (g : Nat) : Eng.VRels (fun _ => none) [.agg [.sint .i64 op g, .sint .i64 a 1, .sint .i64 b 2, .sint .i32 n 3]] (#[Value.agg #[.int .i64 op, .int .i64 a, .int .i64 b, .int .i32 n]] : Array Value).toList := by
  simp [Eng.VRels, Eng.VRel]
def Enc (f : Nat) (op a b n : Int) : Prop := ∀ e bs, encO op a b n = some (e, bs) → ∀ w : World, Calls Try.prog f #[.agg #[.int .i64 op, .int .i64 a, .int .i64 b, .int .i32 n]] w fun en w' => (∃ cv, en = .returned cv ∧ Eng.BytesRes w w' e bs cv) ∧ Below w.heap.size w w'
theorem encO_other (op a b n : Int) (h1 : op ≠ 1) (h2 : op ≠ 2) (h3 : op ≠ 3) (h4 : op ≠ 4) (h5 : op ≠ 5) (h6 : op ≠ 6) (h7 : op ≠ 7) (h8 : op ≠ 8) (h9 : op ≠ 9) (h10 : op ≠ 10) (h11 : op ≠ 11) (h12 : op ≠ 12) (h13 : op ≠ 13) (h14 : op ≠ 14) (h15 : op ≠ 15) (h16 : op ≠ 16) (h17 : op ≠ 17) (h18 : op ≠ 18) (h19 : op ≠ 19) (h20 : op ≠ 20) (h21 : op ≠ 21) (h22 : op ≠ 22) (h23 : op ≠ 23) (h24 : op ≠ 24) (h25 : op ≠ 25) (h26 : op ≠ 26) : encO op a b n = some (15, []) := by
  unfold encO
  simp only [decide_eq_false h1, decide_eq_false h2, decide_eq_false h3, decide_eq_false h4, decide_eq_false h5, decide_eq_false h6, decide_eq_false h7, decide_eq_false h8, decide_eq_false h9, decide_eq_false h10, decide_eq_false h11, decide_eq_false h12, decide_eq_false h13, decide_eq_false h14, decide_eq_false h15, decide_eq_false h16, decide_eq_false h17, decide_eq_false h18, decide_eq_false h19, decide_eq_false h20, decide_eq_false h21, decide_eq_false h22, decide_eq_false h23, decide_eq_false h24, decide_eq_false h25, decide_eq_false h26, Eng.nd_false]
theorem enc12_1 (a b n : Int) : Enc 56 1 a b n := by
  intro e bs h w
  have h1 : t13_1 a b n = some (e, bs) := h
  exact Eng.bytes_call (((run12_1 a b n).trans (eq_1 a b n)).trans h1) w _ (rel4 1 a b n 1 rfl)
theorem enc12_2 (a b n : Int) : Enc 56 2 a b n := by
  intro e bs h w
  have h1 : t13_2 a b n = some (e, bs) := h
  exact Eng.bytes_call (((run12_2 a b n).trans (eq_2 a b n)).trans h1) w _ (rel4 2 a b n 2 rfl)
theorem enc12_3 (a b n : Int) : Enc 56 3 a b n := by
  intro e bs h w
  have h1 : t13_3 a b n = some (e, bs) := h
  exact Eng.bytes_call (((run12_3 a b n).trans (eq_3 a b n)).trans h1) w _ (rel4 3 a b n 3 rfl)
theorem enc12_4 (a b n : Int) : Enc 56 4 a b n := by
  intro e bs h w
  have h1 : t13_4 a b n = some (e, bs) := h
  exact Eng.bytes_call (((run12_4 a b n).trans (eq_4 a b n)).trans h1) w _ (rel4 4 a b n 4 rfl)
theorem enc12_5 (a b n : Int) : Enc 56 5 a b n := by
  intro e bs h w
  have h1 : t13_5 a b n = some (e, bs) := h
  exact Eng.bytes_call (((run12_5 a b n).trans (eq_5 a b n)).trans h1) w _ (rel4 5 a b n 5 rfl)
theorem enc12_6 (a b n : Int) : Enc 56 6 a b n := by
  intro e bs h w
  have h1 : t13_6 a b n = some (e, bs) := h
  exact Eng.bytes_call (((run12_6 a b n).trans (eq_6 a b n)).trans h1) w _ (rel4 6 a b n 6 rfl)
theorem enc12_7 (a b n : Int) : Enc 56 7 a b n := by
  intro e bs h w
  have h1 : t13_7 a b n = some (e, bs) := h
  exact Eng.bytes_call (((run12_7 a b n).trans (eq_7 a b n)).trans h1) w _ (rel4 7 a b n 7 rfl)
theorem enc12_8 (a b n : Int) : Enc 56 8 a b n := by
  intro e bs h w
  have h1 : t13_8 a b n = some (e, bs) := h
  exact Eng.bytes_call (((run12_8 a b n).trans (eq_8 a b n)).trans h1) w _ (rel4 8 a b n 8 rfl)
theorem enc12_9 (a b n : Int) : Enc 56 9 a b n := by
  intro e bs h w
  have h1 : t13_9 a b n = some (e, bs) := h
  exact Eng.bytes_call (((run12_9 a b n).trans (eq_9 a b n)).trans h1) w _ (rel4 9 a b n 9 rfl)
theorem enc12_10 (a b n : Int) : Enc 56 10 a b n := by
  intro e bs h w
  have h1 : t13_10 a b n = some (e, bs) := h
  exact Eng.bytes_call (((run12_10 a b n).trans (eq_10 a b n)).trans h1) w _ (rel4 10 a b n 10 rfl)
theorem enc12_11 (a b n : Int) : Enc 56 11 a b n := by
  intro e bs h w
  have h1 : t13_11 a b n = some (e, bs) := h
  exact Eng.bytes_call (((run12_11 a b n).trans (eq_11 a b n)).trans h1) w _ (rel4 11 a b n 11 rfl)
theorem enc12_12 (a b n : Int) : Enc 56 12 a b n := by
  intro e bs h w
  have h1 : t13_12 a b n = some (e, bs) := h
  exact Eng.bytes_call (((run12_12 a b n).trans (eq_12 a b n)).trans h1) w _ (rel4 12 a b n 12 rfl)
theorem enc12_13 (a b n : Int) : Enc 56 13 a b n := by
  intro e bs h w
  have h1 : t13_13 a b n = some (e, bs) := h
  exact Eng.bytes_call (((run12_13 a b n).trans (eq_13 a b n)).trans h1) w _ (rel4 13 a b n 13 rfl)
theorem enc12_14 (a b n : Int) : Enc 56 14 a b n := by
  intro e bs h w
  have h1 : t13_14 a b n = some (e, bs) := h
  exact Eng.bytes_call (((run12_14 a b n).trans (eq_14 a b n)).trans h1) w _ (rel4 14 a b n 14 rfl)
theorem enc12_15 (a b n : Int) : Enc 56 15 a b n := by
  intro e bs h w
  have h1 : t13_15 a b n = some (e, bs) := h
  exact Eng.bytes_call (((run12_15 a b n).trans (eq_15 a b n)).trans h1) w _ (rel4 15 a b n 15 rfl)
theorem enc12_16 (a b n : Int) : Enc 56 16 a b n := by
  intro e bs h w
  have h1 : t13_16 a b n = some (e, bs) := h
  exact Eng.bytes_call (((run12_16 a b n).trans (eq_16 a b n)).trans h1) w _ (rel4 16 a b n 16 rfl)
theorem enc12_17 (a b n : Int) : Enc 56 17 a b n := by
  intro e bs h w
  have h1 : t13_17 a b n = some (e, bs) := h
  exact Eng.bytes_call (((run12_17 a b n).trans (eq_17 a b n)).trans h1) w _ (rel4 17 a b n 17 rfl)
theorem enc12_18 (a b n : Int) : Enc 56 18 a b n := by
  intro e bs h w
  have h1 : t13_18 a b n = some (e, bs) := h
  exact Eng.bytes_call (((run12_18 a b n).trans (eq_18 a b n)).trans h1) w _ (rel4 18 a b n 18 rfl)
theorem enc12_19 (a b n : Int) : Enc 56 19 a b n := by
  intro e bs h w
  have h1 : t13_19 a b n = some (e, bs) := h
  exact Eng.bytes_call (((run12_19 a b n).trans (eq_19 a b n)).trans h1) w _ (rel4 19 a b n 19 rfl)
theorem enc12_20 (a b n : Int) : Enc 56 20 a b n := by
  intro e bs h w
  have h1 : t13_20 a b n = some (e, bs) := h
  exact Eng.bytes_call (((run12_20 a b n).trans (eq_20 a b n)).trans h1) w _ (rel4 20 a b n 20 rfl)
theorem enc12_21 (a b n : Int) : Enc 56 21 a b n := by
  intro e bs h w
  have h1 : t13_21 a b n = some (e, bs) := h
  exact Eng.bytes_call (((run12_21 a b n).trans (eq_21 a b n)).trans h1) w _ (rel4 21 a b n 21 rfl)
theorem enc12_22 (a b n : Int) : Enc 56 22 a b n := by
  intro e bs h w
  have h1 : t13_22 a b n = some (e, bs) := h
  exact Eng.bytes_call (((run12_22 a b n).trans (eq_22 a b n)).trans h1) w _ (rel4 22 a b n 22 rfl)
theorem enc12_23 (a b n : Int) : Enc 56 23 a b n := by
  intro e bs h w
  have h1 : t13_23 a b n = some (e, bs) := h
  exact Eng.bytes_call (((run12_23 a b n).trans (eq_23 a b n)).trans h1) w _ (rel4 23 a b n 23 rfl)
theorem enc12_24 (a b n : Int) : Enc 56 24 a b n := by
  intro e bs h w
  have h1 : t13_24 a b n = some (e, bs) := h
  exact Eng.bytes_call (((run12_24 a b n).trans (eq_24 a b n)).trans h1) w _ (rel4 24 a b n 24 rfl)
theorem enc12_25 (a b n : Int) : Enc 56 25 a b n := by
  intro e bs h w
  have h1 : t13_25 a b n = some (e, bs) := h
  exact Eng.bytes_call (((run12_25 a b n).trans (eq_25 a b n)).trans h1) w _ (rel4 25 a b n 25 rfl)
theorem enc12_26 (a b n : Int) : Enc 56 26 a b n := by
  intro e bs h w
  have h1 : t13_26 a b n = some (e, bs) := h
  exact Eng.bytes_call (((run12_26 a b n).trans (eq_26 a b n)).trans h1) w _ (rel4 26 a b n 26 rfl)
theorem enc12_other (op a b n : Int) (h1 : op ≠ 1) (h2 : op ≠ 2) (h3 : op ≠ 3) (h4 : op ≠ 4) (h5 : op ≠ 5) (h6 : op ≠ 6) (h7 : op ≠ 7) (h8 : op ≠ 8) (h9 : op ≠ 9) (h10 : op ≠ 10) (h11 : op ≠ 11) (h12 : op ≠ 12) (h13 : op ≠ 13) (h14 : op ≠ 14) (h15 : op ≠ 15) (h16 : op ≠ 16) (h17 : op ≠ 17) (h18 : op ≠ 18) (h19 : op ≠ 19) (h20 : op ≠ 20) (h21 : op ≠ 21) (h22 : op ≠ 22) (h23 : op ≠ 23) (h24 : op ≠ 24) (h25 : op ≠ 25) (h26 : op ≠ 26) : Enc 56 op a b n := by
  intro e bs h w
  rw [encO_other op a b n h1 h2 h3 h4 h5 h6 h7 h8 h9 h10 h11 h12 h13 h14 h15 h16 h17 h18 h19 h20 h21 h22 h23 h24 h25 h26] at h
  have hr := (other12_7 op a b n)
  simp only [decide_eq_false h1, decide_eq_false h2, decide_eq_false h3, decide_eq_false h4, decide_eq_false h5, decide_eq_false h6, decide_eq_false h7, decide_eq_false h8, decide_eq_false h9, decide_eq_false h10, decide_eq_false h11, decide_eq_false h12, decide_eq_false h13, decide_eq_false h14, decide_eq_false h15, decide_eq_false h16, decide_eq_false h17, decide_eq_false h18, decide_eq_false h19, decide_eq_false h20, decide_eq_false h21, decide_eq_false h22, decide_eq_false h23, decide_eq_false h24, decide_eq_false h25, decide_eq_false h26, Eng.nd_false] at hr
  exact Eng.bytes_call (hr.trans h) w _ (rel4' op a b n 7)
theorem enc12 (op a b n : Int) : Enc 56 op a b n := by
  by_cases h1 : op = 1
  · rw [h1]; exact enc12_1 a b n
  by_cases h2 : op = 2
  · rw [h2]; exact enc12_2 a b n
  by_cases h3 : op = 3
  · rw [h3]; exact enc12_3 a b n
  by_cases h4 : op = 4
  · rw [h4]; exact enc12_4 a b n
  by_cases h5 : op = 5
  · rw [h5]; exact enc12_5 a b n
  by_cases h6 : op = 6
  · rw [h6]; exact enc12_6 a b n
  by_cases h7 : op = 7
  · rw [h7]; exact enc12_7 a b n
  by_cases h8 : op = 8
  · rw [h8]; exact enc12_8 a b n
  by_cases h9 : op = 9
  · rw [h9]; exact enc12_9 a b n
  by_cases h10 : op = 10
  · rw [h10]; exact enc12_10 a b n
  by_cases h11 : op = 11
  · rw [h11]; exact enc12_11 a b n
  by_cases h12 : op = 12
  · rw [h12]; exact enc12_12 a b n
  by_cases h13 : op = 13
  · rw [h13]; exact enc12_13 a b n
  by_cases h14 : op = 14
  · rw [h14]; exact enc12_14 a b n
  by_cases h15 : op = 15
  · rw [h15]; exact enc12_15 a b n
  by_cases h16 : op = 16
  · rw [h16]; exact enc12_16 a b n
  by_cases h17 : op = 17
  · rw [h17]; exact enc12_17 a b n
  by_cases h18 : op = 18
  · rw [h18]; exact enc12_18 a b n
  by_cases h19 : op = 19
  · rw [h19]; exact enc12_19 a b n
  by_cases h20 : op = 20
  · rw [h20]; exact enc12_20 a b n
  by_cases h21 : op = 21
  · rw [h21]; exact enc12_21 a b n
  by_cases h22 : op = 22
  · rw [h22]; exact enc12_22 a b n
  by_cases h23 : op = 23
  · rw [h23]; exact enc12_23 a b n
  by_cases h24 : op = 24
  · rw [h24]; exact enc12_24 a b n
  by_cases h25 : op = 25
  · rw [h25]; exact enc12_25 a b n
  by_cases h26 : op = 26
  · rw [h26]; exact enc12_26 a b n
  exact enc12_other op a b n h1 h2 h3 h4 h5 h6 h7 h8 h9 h10 h11 h12 h13 h14 h15 h16 h17 h18 h19 h20 h21 h22 h23 h24 h25 h26
theorem enc13_1 (a b n : Int) : Enc 27 1 a b n := by
  intro e bs h w
  have h1 : t13_1 a b n = some (e, bs) := h
  exact Eng.bytes_call ((run13_1 a b n).trans h1) w _ (rel4 1 a b n 1 rfl)
theorem enc13_2 (a b n : Int) : Enc 27 2 a b n := by
  intro e bs h w
  have h1 : t13_2 a b n = some (e, bs) := h
  exact Eng.bytes_call ((run13_2 a b n).trans h1) w _ (rel4 2 a b n 2 rfl)
theorem enc13_3 (a b n : Int) : Enc 27 3 a b n := by
  intro e bs h w
  have h1 : t13_3 a b n = some (e, bs) := h
  exact Eng.bytes_call ((run13_3 a b n).trans h1) w _ (rel4 3 a b n 3 rfl)
theorem enc13_4 (a b n : Int) : Enc 27 4 a b n := by
  intro e bs h w
  have h1 : t13_4 a b n = some (e, bs) := h
  exact Eng.bytes_call ((run13_4 a b n).trans h1) w _ (rel4 4 a b n 4 rfl)
theorem enc13_5 (a b n : Int) : Enc 27 5 a b n := by
  intro e bs h w
  have h1 : t13_5 a b n = some (e, bs) := h
  exact Eng.bytes_call ((run13_5 a b n).trans h1) w _ (rel4 5 a b n 5 rfl)
theorem enc13_6 (a b n : Int) : Enc 27 6 a b n := by
  intro e bs h w
  have h1 : t13_6 a b n = some (e, bs) := h
  exact Eng.bytes_call ((run13_6 a b n).trans h1) w _ (rel4 6 a b n 6 rfl)
theorem enc13_7 (a b n : Int) : Enc 27 7 a b n := by
  intro e bs h w
  have h1 : t13_7 a b n = some (e, bs) := h
  exact Eng.bytes_call ((run13_7 a b n).trans h1) w _ (rel4 7 a b n 7 rfl)
theorem enc13_8 (a b n : Int) : Enc 27 8 a b n := by
  intro e bs h w
  have h1 : t13_8 a b n = some (e, bs) := h
  exact Eng.bytes_call ((run13_8 a b n).trans h1) w _ (rel4 8 a b n 8 rfl)
theorem enc13_9 (a b n : Int) : Enc 27 9 a b n := by
  intro e bs h w
  have h1 : t13_9 a b n = some (e, bs) := h
  exact Eng.bytes_call ((run13_9 a b n).trans h1) w _ (rel4 9 a b n 9 rfl)
theorem enc13_10 (a b n : Int) : Enc 27 10 a b n := by
  intro e bs h w
  have h1 : t13_10 a b n = some (e, bs) := h
  exact Eng.bytes_call ((run13_10 a b n).trans h1) w _ (rel4 10 a b n 10 rfl)
theorem enc13_11 (a b n : Int) : Enc 27 11 a b n := by
  intro e bs h w
  have h1 : t13_11 a b n = some (e, bs) := h
  exact Eng.bytes_call ((run13_11 a b n).trans h1) w _ (rel4 11 a b n 11 rfl)
theorem enc13_12 (a b n : Int) : Enc 27 12 a b n := by
  intro e bs h w
  have h1 : t13_12 a b n = some (e, bs) := h
  exact Eng.bytes_call ((run13_12 a b n).trans h1) w _ (rel4 12 a b n 12 rfl)
theorem enc13_13 (a b n : Int) : Enc 27 13 a b n := by
  intro e bs h w
  have h1 : t13_13 a b n = some (e, bs) := h
  exact Eng.bytes_call ((run13_13 a b n).trans h1) w _ (rel4 13 a b n 13 rfl)
theorem enc13_14 (a b n : Int) : Enc 27 14 a b n := by
  intro e bs h w
  have h1 : t13_14 a b n = some (e, bs) := h
  exact Eng.bytes_call ((run13_14 a b n).trans h1) w _ (rel4 14 a b n 14 rfl)
theorem enc13_15 (a b n : Int) : Enc 27 15 a b n := by
  intro e bs h w
  have h1 : t13_15 a b n = some (e, bs) := h
  exact Eng.bytes_call ((run13_15 a b n).trans h1) w _ (rel4 15 a b n 15 rfl)
theorem enc13_16 (a b n : Int) : Enc 27 16 a b n := by
  intro e bs h w
  have h1 : t13_16 a b n = some (e, bs) := h
  exact Eng.bytes_call ((run13_16 a b n).trans h1) w _ (rel4 16 a b n 16 rfl)
theorem enc13_17 (a b n : Int) : Enc 27 17 a b n := by
  intro e bs h w
  have h1 : t13_17 a b n = some (e, bs) := h
  exact Eng.bytes_call ((run13_17 a b n).trans h1) w _ (rel4 17 a b n 17 rfl)
theorem enc13_18 (a b n : Int) : Enc 27 18 a b n := by
  intro e bs h w
  have h1 : t13_18 a b n = some (e, bs) := h
  exact Eng.bytes_call ((run13_18 a b n).trans h1) w _ (rel4 18 a b n 18 rfl)
theorem enc13_19 (a b n : Int) : Enc 27 19 a b n := by
  intro e bs h w
  have h1 : t13_19 a b n = some (e, bs) := h
  exact Eng.bytes_call ((run13_19 a b n).trans h1) w _ (rel4 19 a b n 19 rfl)
theorem enc13_20 (a b n : Int) : Enc 27 20 a b n := by
  intro e bs h w
  have h1 : t13_20 a b n = some (e, bs) := h
  exact Eng.bytes_call ((run13_20 a b n).trans h1) w _ (rel4 20 a b n 20 rfl)
theorem enc13_21 (a b n : Int) : Enc 27 21 a b n := by
  intro e bs h w
  have h1 : t13_21 a b n = some (e, bs) := h
  exact Eng.bytes_call ((run13_21 a b n).trans h1) w _ (rel4 21 a b n 21 rfl)
theorem enc13_22 (a b n : Int) : Enc 27 22 a b n := by
  intro e bs h w
  have h1 : t13_22 a b n = some (e, bs) := h
  exact Eng.bytes_call ((run13_22 a b n).trans h1) w _ (rel4 22 a b n 22 rfl)
theorem enc13_23 (a b n : Int) : Enc 27 23 a b n := by
  intro e bs h w
  have h1 : t13_23 a b n = some (e, bs) := h
  exact Eng.bytes_call ((run13_23 a b n).trans h1) w _ (rel4 23 a b n 23 rfl)
theorem enc13_24 (a b n : Int) : Enc 27 24 a b n := by
  intro e bs h w
  have h1 : t13_24 a b n = some (e, bs) := h
  exact Eng.bytes_call ((run13_24 a b n).trans h1) w _ (rel4 24 a b n 24 rfl)
theorem enc13_25 (a b n : Int) : Enc 27 25 a b n := by
  intro e bs h w
  have h1 : t13_25 a b n = some (e, bs) := h
  exact Eng.bytes_call ((run13_25 a b n).trans h1) w _ (rel4 25 a b n 25 rfl)
theorem enc13_26 (a b n : Int) : Enc 27 26 a b n := by
  intro e bs h w
  have h1 : t13_26 a b n = some (e, bs) := h
  exact Eng.bytes_call ((run13_26 a b n).trans h1) w _ (rel4 26 a b n 26 rfl)
theorem enc13_other (op a b n : Int) (h1 : op ≠ 1) (h2 : op ≠ 2) (h3 : op ≠ 3) (h4 : op ≠ 4) (h5 : op ≠ 5) (h6 : op ≠ 6) (h7 : op ≠ 7) (h8 : op ≠ 8) (h9 : op ≠ 9) (h10 : op ≠ 10) (h11 : op ≠ 11) (h12 : op ≠ 12) (h13 : op ≠ 13) (h14 : op ≠ 14) (h15 : op ≠ 15) (h16 : op ≠ 16) (h17 : op ≠ 17) (h18 : op ≠ 18) (h19 : op ≠ 19) (h20 : op ≠ 20) (h21 : op ≠ 21) (h22 : op ≠ 22) (h23 : op ≠ 23) (h24 : op ≠ 24) (h25 : op ≠ 25) (h26 : op ≠ 26) : Enc 27 op a b n := by
  intro e bs h w
  rw [encO_other op a b n h1 h2 h3 h4 h5 h6 h7 h8 h9 h10 h11 h12 h13 h14 h15 h16 h17 h18 h19 h20 h21 h22 h23 h24 h25 h26] at h
  by_cases hl : op < 1
  · have hr := (other13_8 op a b n)
    simp only [decide_eq_true hl, Eng.nd_true] at hr
    exact Eng.bytes_call (hr.trans h) w _ (rel4' op a b n 8)
  · have hr := (other13_7 op a b n)
    simp only [decide_eq_false hl, decide_eq_true (show 26 < op by omega), Eng.nd_false, Eng.nd_true] at hr
    exact Eng.bytes_call (hr.trans h) w _ (rel4' op a b n 7)
theorem enc13 (op a b n : Int) : Enc 27 op a b n := by
  by_cases h1 : op = 1
  · rw [h1]; exact enc13_1 a b n
  by_cases h2 : op = 2
  · rw [h2]; exact enc13_2 a b n
  by_cases h3 : op = 3
  · rw [h3]; exact enc13_3 a b n
  by_cases h4 : op = 4
  · rw [h4]; exact enc13_4 a b n
  by_cases h5 : op = 5
  · rw [h5]; exact enc13_5 a b n
  by_cases h6 : op = 6
  · rw [h6]; exact enc13_6 a b n
  by_cases h7 : op = 7
  · rw [h7]; exact enc13_7 a b n
  by_cases h8 : op = 8
  · rw [h8]; exact enc13_8 a b n
  by_cases h9 : op = 9
  · rw [h9]; exact enc13_9 a b n
  by_cases h10 : op = 10
  · rw [h10]; exact enc13_10 a b n
  by_cases h11 : op = 11
  · rw [h11]; exact enc13_11 a b n
  by_cases h12 : op = 12
  · rw [h12]; exact enc13_12 a b n
  by_cases h13 : op = 13
  · rw [h13]; exact enc13_13 a b n
  by_cases h14 : op = 14
  · rw [h14]; exact enc13_14 a b n
  by_cases h15 : op = 15
  · rw [h15]; exact enc13_15 a b n
  by_cases h16 : op = 16
  · rw [h16]; exact enc13_16 a b n
  by_cases h17 : op = 17
  · rw [h17]; exact enc13_17 a b n
  by_cases h18 : op = 18
  · rw [h18]; exact enc13_18 a b n
  by_cases h19 : op = 19
  · rw [h19]; exact enc13_19 a b n
  by_cases h20 : op = 20
  · rw [h20]; exact enc13_20 a b n
  by_cases h21 : op = 21
  · rw [h21]; exact enc13_21 a b n
  by_cases h22 : op = 22
  · rw [h22]; exact enc13_22 a b n
  by_cases h23 : op = 23
  · rw [h23]; exact enc13_23 a b n
  by_cases h24 : op = 24
  · rw [h24]; exact enc13_24 a b n
  by_cases h25 : op = 25
  · rw [h25]; exact enc13_25 a b n
  by_cases h26 : op = 26
  · rw [h26]; exact enc13_26 a b n
  exact enc13_other op a b n h1 h2 h3 h4 h5 h6 h7 h8 h9 h10 h11 h12 h13 h14 h15 h16 h17 h18 h19 h20 h21 h22 h23 h24 h25 h26
end Go.Proofs.Ytpcocfdgcihpdaa.x86enc
