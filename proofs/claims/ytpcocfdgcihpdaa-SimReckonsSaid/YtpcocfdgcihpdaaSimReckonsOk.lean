/-
  EACH TREE OF SimReckons IS TRUE IN ITS CASE.
-/
import Derived.Test.YtpcocfdgcihpdaaSimReckonsLem
import Derived.Test.YtpcocfdgcihpdaaSimReckonsRunA
import Derived.Test.YtpcocfdgcihpdaaSimReckonsRunB
import Derived.Test.YtpcocfdgcihpdaaSimReckonsRunC
namespace Go.Proofs.Ytpcocfdgcihpdaa.simReckons
open Go
open Go.Proofs.YtpcocfdgcihpdaaR
set_option maxRecDepth 100000
set_option linter.unusedVariables false
set_option linter.unusedSimpArgs false
set_option maxHeartbeats 4000000 in
theorem ok5 (a b : Int) (ha : -2147483648 ≤ a ∧ a ≤ 2147483647) (hb : -2147483648 ≤ b ∧ b ≤ 2147483647) (h1 : 0 ≤ a) (h2 : 0 < b) : tree5 a b = some (.bool true) := by
  obtain ⟨⟨q0, q1⟩, r0, r1⟩ := qr a b (by omega) (by omega)
  have hW := word a ha
  have hb0 : IntKind.i64.wrap b = b := ip _ (by omega)
  have ha0 : IntKind.i64.wrap a = a := ip _ (by omega)
  have uA : IntKind.u64.wrap a = a := up _ (by omega)
  have uB : IntKind.u64.wrap b = b := up _ (by omega)
  have q2 : IntKind.u64.wrap (a.tdiv b) = a.tdiv b := up _ (by omega)
  have q3 : IntKind.i64.wrap (a.tdiv b) = a.tdiv b := ip _ (by omega)
  have q4 : IntKind.i64.wrap (-a.tdiv b) = -a.tdiv b := ip _ (by omega)
  have r3 : IntKind.i64.wrap (a.tmod b) = a.tmod b := ip _ (by omega)
  have r4 : IntKind.i64.wrap (-a.tmod b) = -a.tmod b := ip _ (by omega)
  have dA : decide (a < 0) = false := decide_eq_false (by omega)
  have dB : decide (b < 0) = false := decide_eq_false (by omega)
  unfold tree5
  refine ndT (decide_eq_true rfl) ?_
  refine ndT (decide_eq_true rfl) ?_
  refine ndT (decide_eq_true rfl) ?_
  refine ndT (decide_eq_true rfl) ?_
  refine ndT (decide_eq_true rfl) ?_
  refine ndT (decide_eq_true rfl) ?_
  refine ndT (decide_eq_true rfl) ?_
  refine ndT (decide_eq_true rfl) ?_
  refine ndT (decide_eq_true rfl) ?_
  refine ndF (neq_c rfl) ?_
  refine ndF (neq_c rfl) ?_
  refine ndT (decide_eq_true rfl) ?_
  refine ndT (decide_eq_true rfl) ?_
  refine ndT (decide_eq_true rfl) ?_
  refine ndT (decide_eq_true rfl) ?_
  refine ndT (decide_eq_true rfl) ?_
  refine ndT (decide_eq_true rfl) ?_
  refine ndT (decide_eq_true rfl) ?_
  refine ndT (decide_eq_true rfl) ?_
  refine ndT (decide_eq_true rfl) ?_
  refine ndF (neq_c rfl) ?_
  refine ndF (neq_c rfl) ?_
  refine ndT (decide_eq_true rfl) ?_
  refine ndT (decide_eq_true rfl) ?_
  refine ndT (decide_eq_true rfl) ?_
  refine ndT (decide_eq_true rfl) ?_
  refine ndT (decide_eq_true rfl) ?_
  refine ndF (and_c _) ?_
  refine ndF (neq_c rfl) ?_
  refine ndT (decide_eq_true rfl) ?_
  refine ndT (decide_eq_true rfl) ?_
  refine ndT (decide_eq_true rfl) ?_
  refine ndT (decide_eq_true rfl) ?_
  refine ndT (decide_eq_true rfl) ?_
  refine ndF (and_c _) ?_
  refine ndF (neq_c rfl) ?_
  refine ndT (decide_eq_true rfl) ?_
  refine ndT (decide_eq_true rfl) ?_
  refine ndT (decide_eq_true rfl) ?_
  refine ndT (decide_eq_true rfl) ?_
  refine ndT (decide_eq_true rfl) ?_
  refine ndF (and_c _) ?_
  refine ndF (neq_c rfl) ?_
  refine ndT (decide_eq_true rfl) ?_
  refine ndT (decide_eq_true rfl) ?_
  refine ndT (decide_eq_true rfl) ?_
  refine ndF (mul_c _ _ ha hb) ?_
  refine ndF (neq_c rfl) ?_
  refine ndT (decide_eq_true rfl) ?_
  refine ndT (decide_eq_true rfl) ?_
  refine ndT (decide_eq_true rfl) ?_
  refine ndT (decide_eq_true rfl) ?_
  refine ndF (cnt_c _) ?_
  refine ndF (shl_c _ _ ha) ?_
  refine ndT (decide_eq_true rfl) ?_
  refine ndT (decide_eq_true rfl) ?_
  refine ndT (decide_eq_true rfl) ?_
  refine ndT (decide_eq_true rfl) ?_
  refine ndF (cnt_c _) ?_
  refine ndF (sar_c _ _ ha) ?_
  refine ndT (decide_eq_true rfl) ?_
  refine ndT (decide_eq_true rfl) ?_
  refine ndT (decide_eq_true rfl) ?_
  refine ndT (decide_eq_true rfl) ?_
  refine ndF (cnt_c _) ?_
  refine ndF (shr_c _ _ ha) ?_
  refine ndT (decide_eq_true rfl) ?_
  refine ndT (decide_eq_true rfl) ?_
  refine ndT (decide_eq_true rfl) ?_
  refine ndT (decide_eq_true rfl) ?_
  refine ndT (decide_eq_true rfl) ?_
  refine ndT (decide_eq_true rfl) ?_
  refine ndT (decide_eq_true rfl) ?_
  refine ndT (decide_eq_true rfl) ?_
  refine ndT (decide_eq_true rfl) ?_
  refine ndT (decide_eq_true rfl) ?_
  refine ndT (decide_eq_true rfl) ?_
  refine ndF ((by first | (simp only [hW, hb0, ha0, Int.zero_sub, uA, uB, q2, q3, r3]; rw [decide_eq_false_iff_not]; omega) | (rw [decide_eq_false_iff_not]; omega) | (simp only [hW, hb0, ha0, Int.zero_sub, uA, uB, q2, q3, r3, decide_true]; done))) ?_
  refine ndF ((by first | (simp only [hW, hb0, ha0, Int.zero_sub, uA, uB, q2, q3, r3]; rw [decide_eq_false_iff_not]; omega) | (rw [decide_eq_false_iff_not]; omega) | (simp only [hW, hb0, ha0, Int.zero_sub, uA, uB, q2, q3, r3, decide_true]; done))) ?_
  refine ndF ((by first | (simp only [hW, hb0, ha0, Int.zero_sub, uA, uB, q2, q3, r3]; rw [decide_eq_false_iff_not]; omega) | (rw [decide_eq_false_iff_not]; omega) | (simp only [hW, hb0, ha0, Int.zero_sub, uA, uB, q2, q3, r3, decide_true]; done))) ?_
  refine ndF ((by first | (simp only [hW, hb0, ha0, Int.zero_sub, uA, uB, q2, q3, r3]; rw [decide_eq_false_iff_not]; omega) | (rw [decide_eq_false_iff_not]; omega) | (simp only [hW, hb0, ha0, Int.zero_sub, uA, uB, q2, q3, r3, decide_true]; done))) ?_
  refine ndF ((by first | (simp only [hW, hb0, ha0, Int.zero_sub, uA, uB, q2, q3, r3]; rw [decide_eq_false_iff_not]; omega) | (rw [decide_eq_false_iff_not]; omega) | (simp only [hW, hb0, ha0, Int.zero_sub, uA, uB, q2, q3, r3, decide_true]; done))) ?_
  refine ndF ((by first | (simp only [hW, hb0, ha0, Int.zero_sub, uA, uB, q2, q3, r3]; rw [decide_eq_false_iff_not]; omega) | (rw [decide_eq_false_iff_not]; omega) | (simp only [hW, hb0, ha0, Int.zero_sub, uA, uB, q2, q3, r3, decide_true]; done))) ?_
  refine ndT (decide_eq_true rfl) ?_
  refine ndT (decide_eq_true rfl) ?_
  refine ndT (decide_eq_true rfl) ?_
  refine ndT (decide_eq_true rfl) ?_
  refine ndT (decide_eq_true rfl) ?_
  refine ndT (decide_eq_true rfl) ?_
  refine ndT (decide_eq_true rfl) ?_
  refine ndT (decide_eq_true rfl) ?_
  refine ndT (decide_eq_true rfl) ?_
  refine ndF ((by first | (simp only [hW, hb0, ha0, Int.zero_sub, uA, uB, q2, q3, r3]; rw [decide_eq_false_iff_not]; omega) | (rw [decide_eq_false_iff_not]; omega) | (simp only [hW, hb0, ha0, Int.zero_sub, uA, uB, q2, q3, r3, decide_true]; done))) ?_
  refine ndF ((by rw [hW, hb0, dA, dB]; rfl)) ?_
  refine ndF ((by first | (simp only [hW, hb0, ha0, Int.zero_sub, uA, uB, q2, q3, r3]; rw [decide_eq_false_iff_not]; omega) | (rw [decide_eq_false_iff_not]; omega) | (simp only [hW, hb0, ha0, Int.zero_sub, uA, uB, q2, q3, r3, decide_true]; done))) ?_
  refine ndF ((by first | (simp only [hW, hb0, ha0, Int.zero_sub, uA, uB, q2, q3, r3]; rw [decide_eq_false_iff_not]; omega) | (rw [decide_eq_false_iff_not]; omega) | (simp only [hW, hb0, ha0, Int.zero_sub, uA, uB, q2, q3, r3, decide_true]; done))) ?_
  refine ndT (decide_eq_true rfl) ?_
  refine ndT (decide_eq_true rfl) ?_
  refine ndT (decide_eq_true rfl) ?_
  refine ndT (decide_eq_true rfl) ?_
  refine ndT (decide_eq_true rfl) ?_
  refine ndT (decide_eq_true rfl) ?_
  refine ndF ((by first | (simp only [hW, hb0, ha0, Int.zero_sub, uA, uB, q2, q3, r3]; rw [decide_eq_false_iff_not]; omega) | (rw [decide_eq_false_iff_not]; omega) | (simp only [hW, hb0, ha0, Int.zero_sub, uA, uB, q2, q3, r3, decide_true]; done))) ?_
  refine ndF ((by first | (simp only [hW, hb0, ha0, Int.zero_sub, uA, uB, q2, q3, r3]; rw [decide_eq_false_iff_not]; omega) | (rw [decide_eq_false_iff_not]; omega) | (simp only [hW, hb0, ha0, Int.zero_sub, uA, uB, q2, q3, r3, decide_true]; done))) ?_
  refine ndF ((by first | (simp only [hW, hb0, ha0, Int.zero_sub, uA, uB, q2, q3, r3]; rw [decide_eq_false_iff_not]; omega) | (rw [decide_eq_false_iff_not]; omega) | (simp only [hW, hb0, ha0, Int.zero_sub, uA, uB, q2, q3, r3, decide_true]; done))) ?_
  refine ndF ((by first | (simp only [hW, hb0, ha0, Int.zero_sub, uA, uB, q2, q3, r3]; rw [decide_eq_false_iff_not]; omega) | (rw [decide_eq_false_iff_not]; omega) | (simp only [hW, hb0, ha0, Int.zero_sub, uA, uB, q2, q3, r3, decide_true]; done))) ?_
  refine ndF ((by first | (simp only [hW, hb0, ha0, Int.zero_sub, uA, uB, q2, q3, r3]; rw [decide_eq_false_iff_not]; omega) | (rw [decide_eq_false_iff_not]; omega) | (simp only [hW, hb0, ha0, Int.zero_sub, uA, uB, q2, q3, r3, decide_true]; done))) ?_
  refine ndT ((by first | (simp only [hW, hb0, ha0, Int.zero_sub, uA, uB, q2, q3, r3, decide_true]; done) | (simp only [hW, hb0, ha0, Int.zero_sub, uA, uB, q2, q3, r3]; rw [decide_eq_true_eq]; done) | (simp only [hW, hb0, ha0, Int.zero_sub, uA, uB, q2, q3, r3]; rw [decide_eq_true_eq]; omega) | (rw [decide_eq_true_eq]; omega))) ?_
  refine ndT ((by first | (simp only [hW, hb0, ha0, Int.zero_sub, uA, uB, q2, q3, r3, decide_true]; done) | (simp only [hW, hb0, ha0, Int.zero_sub, uA, uB, q2, q3, r3]; rw [decide_eq_true_eq]; done) | (simp only [hW, hb0, ha0, Int.zero_sub, uA, uB, q2, q3, r3]; rw [decide_eq_true_eq]; omega) | (rw [decide_eq_true_eq]; omega))) ?_
  rfl

set_option maxHeartbeats 4000000 in
theorem ok6 (c b : Int) (ha : -2147483648 ≤ (-c) ∧ (-c) ≤ 2147483647) (hb : -2147483648 ≤ b ∧ b ≤ 2147483647) (h1 : 0 < c) (h2 : 0 < b) : tree6 (-c) b = some (.bool true) := by
  obtain ⟨⟨q0, q1⟩, r0, r1⟩ := qr c b (by omega) (by omega)
  have hW := word (-c) ha
  have hb0 : IntKind.i64.wrap b = b := ip _ (by omega)
  have ha0 : IntKind.i64.wrap (-c) = (-c) := ip _ (by omega)
  have uA : IntKind.u64.wrap (-IntKind.u64.wrap (-c)) = c := by rw [← Int.zero_sub (IntKind.u64.wrap (-c))]; exact us c (by omega)
  have uB : IntKind.u64.wrap b = b := up _ (by omega)
  have q2 : IntKind.u64.wrap (c.tdiv b) = c.tdiv b := up _ (by omega)
  have q3 : IntKind.i64.wrap (c.tdiv b) = c.tdiv b := ip _ (by omega)
  have q4 : IntKind.i64.wrap (-c.tdiv b) = -c.tdiv b := ip _ (by omega)
  have r3 : IntKind.i64.wrap (c.tmod b) = c.tmod b := ip _ (by omega)
  have r4 : IntKind.i64.wrap (-c.tmod b) = -c.tmod b := ip _ (by omega)
  have dA : decide ((-c) < 0) = true := decide_eq_true (by omega)
  have dB : decide (b < 0) = false := decide_eq_false (by omega)
  unfold tree6
  refine ndT (decide_eq_true rfl) ?_
  refine ndT (decide_eq_true rfl) ?_
  refine ndT (decide_eq_true rfl) ?_
  refine ndT (decide_eq_true rfl) ?_
  refine ndT (decide_eq_true rfl) ?_
  refine ndT (decide_eq_true rfl) ?_
  refine ndT (decide_eq_true rfl) ?_
  refine ndT (decide_eq_true rfl) ?_
  refine ndT (decide_eq_true rfl) ?_
  refine ndF (neq_c rfl) ?_
  refine ndF (neq_c rfl) ?_
  refine ndT (decide_eq_true rfl) ?_
  refine ndT (decide_eq_true rfl) ?_
  refine ndT (decide_eq_true rfl) ?_
  refine ndT (decide_eq_true rfl) ?_
  refine ndT (decide_eq_true rfl) ?_
  refine ndT (decide_eq_true rfl) ?_
  refine ndT (decide_eq_true rfl) ?_
  refine ndT (decide_eq_true rfl) ?_
  refine ndT (decide_eq_true rfl) ?_
  refine ndF (neq_c rfl) ?_
  refine ndF (neq_c rfl) ?_
  refine ndT (decide_eq_true rfl) ?_
  refine ndT (decide_eq_true rfl) ?_
  refine ndT (decide_eq_true rfl) ?_
  refine ndT (decide_eq_true rfl) ?_
  refine ndT (decide_eq_true rfl) ?_
  refine ndF (and_c _) ?_
  refine ndF (neq_c rfl) ?_
  refine ndT (decide_eq_true rfl) ?_
  refine ndT (decide_eq_true rfl) ?_
  refine ndT (decide_eq_true rfl) ?_
  refine ndT (decide_eq_true rfl) ?_
  refine ndT (decide_eq_true rfl) ?_
  refine ndF (and_c _) ?_
  refine ndF (neq_c rfl) ?_
  refine ndT (decide_eq_true rfl) ?_
  refine ndT (decide_eq_true rfl) ?_
  refine ndT (decide_eq_true rfl) ?_
  refine ndT (decide_eq_true rfl) ?_
  refine ndT (decide_eq_true rfl) ?_
  refine ndF (and_c _) ?_
  refine ndF (neq_c rfl) ?_
  refine ndT (decide_eq_true rfl) ?_
  refine ndT (decide_eq_true rfl) ?_
  refine ndT (decide_eq_true rfl) ?_
  refine ndF (mul_c _ _ ha hb) ?_
  refine ndF (neq_c rfl) ?_
  refine ndT (decide_eq_true rfl) ?_
  refine ndT (decide_eq_true rfl) ?_
  refine ndT (decide_eq_true rfl) ?_
  refine ndT (decide_eq_true rfl) ?_
  refine ndF (cnt_c _) ?_
  refine ndF (shl_c _ _ ha) ?_
  refine ndT (decide_eq_true rfl) ?_
  refine ndT (decide_eq_true rfl) ?_
  refine ndT (decide_eq_true rfl) ?_
  refine ndT (decide_eq_true rfl) ?_
  refine ndF (cnt_c _) ?_
  refine ndF (sar_c _ _ ha) ?_
  refine ndT (decide_eq_true rfl) ?_
  refine ndT (decide_eq_true rfl) ?_
  refine ndT (decide_eq_true rfl) ?_
  refine ndT (decide_eq_true rfl) ?_
  refine ndF (cnt_c _) ?_
  refine ndF (shr_c _ _ ha) ?_
  refine ndT (decide_eq_true rfl) ?_
  refine ndT (decide_eq_true rfl) ?_
  refine ndT (decide_eq_true rfl) ?_
  refine ndT (decide_eq_true rfl) ?_
  refine ndT (decide_eq_true rfl) ?_
  refine ndT (decide_eq_true rfl) ?_
  refine ndT (decide_eq_true rfl) ?_
  refine ndT (decide_eq_true rfl) ?_
  refine ndT (decide_eq_true rfl) ?_
  refine ndT (decide_eq_true rfl) ?_
  refine ndT (decide_eq_true rfl) ?_
  refine ndF ((by first | (simp only [hW, hb0, ha0, Int.zero_sub, uA, uB, q2, q3, q4, r3, r4, Int.neg_tdiv, Int.neg_tmod]; rw [decide_eq_false_iff_not]; omega) | (rw [decide_eq_false_iff_not]; omega) | (simp only [hW, hb0, ha0, Int.zero_sub, uA, uB, q2, q3, q4, r3, r4, Int.neg_tdiv, Int.neg_tmod, decide_true]; done))) ?_
  refine ndT ((by first | (simp only [hW, hb0, ha0, Int.zero_sub, uA, uB, q2, q3, q4, r3, r4, Int.neg_tdiv, Int.neg_tmod, decide_true]; done) | (simp only [hW, hb0, ha0, Int.zero_sub, uA, uB, q2, q3, q4, r3, r4, Int.neg_tdiv, Int.neg_tmod]; rw [decide_eq_true_eq]; done) | (simp only [hW, hb0, ha0, Int.zero_sub, uA, uB, q2, q3, q4, r3, r4, Int.neg_tdiv, Int.neg_tmod]; rw [decide_eq_true_eq]; omega) | (rw [decide_eq_true_eq]; omega))) ?_
  refine ndF ((by first | (simp only [hW, hb0, ha0, Int.zero_sub, uA, uB, q2, q3, q4, r3, r4, Int.neg_tdiv, Int.neg_tmod]; rw [decide_eq_false_iff_not]; omega) | (rw [decide_eq_false_iff_not]; omega) | (simp only [hW, hb0, ha0, Int.zero_sub, uA, uB, q2, q3, q4, r3, r4, Int.neg_tdiv, Int.neg_tmod, decide_true]; done))) ?_
  refine ndF ((by first | (simp only [hW, hb0, ha0, Int.zero_sub, uA, uB, q2, q3, q4, r3, r4, Int.neg_tdiv, Int.neg_tmod]; rw [decide_eq_false_iff_not]; omega) | (rw [decide_eq_false_iff_not]; omega) | (simp only [hW, hb0, ha0, Int.zero_sub, uA, uB, q2, q3, q4, r3, r4, Int.neg_tdiv, Int.neg_tmod, decide_true]; done))) ?_
  refine ndF ((by first | (simp only [hW, hb0, ha0, Int.zero_sub, uA, uB, q2, q3, q4, r3, r4, Int.neg_tdiv, Int.neg_tmod]; rw [decide_eq_false_iff_not]; omega) | (rw [decide_eq_false_iff_not]; omega) | (simp only [hW, hb0, ha0, Int.zero_sub, uA, uB, q2, q3, q4, r3, r4, Int.neg_tdiv, Int.neg_tmod, decide_true]; done))) ?_
  refine ndF ((by first | (simp only [hW, hb0, ha0, Int.zero_sub, uA, uB, q2, q3, q4, r3, r4, Int.neg_tdiv, Int.neg_tmod]; rw [decide_eq_false_iff_not]; omega) | (rw [decide_eq_false_iff_not]; omega) | (simp only [hW, hb0, ha0, Int.zero_sub, uA, uB, q2, q3, q4, r3, r4, Int.neg_tdiv, Int.neg_tmod, decide_true]; done))) ?_
  refine ndT (decide_eq_true rfl) ?_
  refine ndT (decide_eq_true rfl) ?_
  refine ndT (decide_eq_true rfl) ?_
  refine ndT (decide_eq_true rfl) ?_
  refine ndT (decide_eq_true rfl) ?_
  refine ndT (decide_eq_true rfl) ?_
  refine ndT (decide_eq_true rfl) ?_
  refine ndT (decide_eq_true rfl) ?_
  refine ndT (decide_eq_true rfl) ?_
  refine ndF ((by first | (simp only [hW, hb0, ha0, Int.zero_sub, uA, uB, q2, q3, q4, r3, r4, Int.neg_tdiv, Int.neg_tmod]; rw [decide_eq_false_iff_not]; omega) | (rw [decide_eq_false_iff_not]; omega) | (simp only [hW, hb0, ha0, Int.zero_sub, uA, uB, q2, q3, q4, r3, r4, Int.neg_tdiv, Int.neg_tmod, decide_true]; done))) ?_
  refine ndT ((by rw [hW, hb0, dA, dB]; rfl)) ?_
  refine ndT ((by first | (simp only [hW, hb0, ha0, Int.zero_sub, uA, uB, q2, q3, q4, r3, r4, Int.neg_tdiv, Int.neg_tmod, decide_true]; done) | (simp only [hW, hb0, ha0, Int.zero_sub, uA, uB, q2, q3, q4, r3, r4, Int.neg_tdiv, Int.neg_tmod]; rw [decide_eq_true_eq]; done) | (simp only [hW, hb0, ha0, Int.zero_sub, uA, uB, q2, q3, q4, r3, r4, Int.neg_tdiv, Int.neg_tmod]; rw [decide_eq_true_eq]; omega) | (rw [decide_eq_true_eq]; omega))) ?_
  refine ndF ((by first | (simp only [hW, hb0, ha0, Int.zero_sub, uA, uB, q2, q3, q4, r3, r4, Int.neg_tdiv, Int.neg_tmod]; rw [decide_eq_false_iff_not]; omega) | (rw [decide_eq_false_iff_not]; omega) | (simp only [hW, hb0, ha0, Int.zero_sub, uA, uB, q2, q3, q4, r3, r4, Int.neg_tdiv, Int.neg_tmod, decide_true]; done))) ?_
  refine ndT (decide_eq_true rfl) ?_
  refine ndT (decide_eq_true rfl) ?_
  refine ndT (decide_eq_true rfl) ?_
  refine ndT (decide_eq_true rfl) ?_
  refine ndT (decide_eq_true rfl) ?_
  refine ndT (decide_eq_true rfl) ?_
  refine ndF ((by first | (simp only [hW, hb0, ha0, Int.zero_sub, uA, uB, q2, q3, q4, r3, r4, Int.neg_tdiv, Int.neg_tmod]; rw [decide_eq_false_iff_not]; omega) | (rw [decide_eq_false_iff_not]; omega) | (simp only [hW, hb0, ha0, Int.zero_sub, uA, uB, q2, q3, q4, r3, r4, Int.neg_tdiv, Int.neg_tmod, decide_true]; done))) ?_
  refine ndF ((by first | (simp only [hW, hb0, ha0, Int.zero_sub, uA, uB, q2, q3, q4, r3, r4, Int.neg_tdiv, Int.neg_tmod]; rw [decide_eq_false_iff_not]; omega) | (rw [decide_eq_false_iff_not]; omega) | (simp only [hW, hb0, ha0, Int.zero_sub, uA, uB, q2, q3, q4, r3, r4, Int.neg_tdiv, Int.neg_tmod, decide_true]; done))) ?_
  refine ndF ((by first | (simp only [hW, hb0, ha0, Int.zero_sub, uA, uB, q2, q3, q4, r3, r4, Int.neg_tdiv, Int.neg_tmod]; rw [decide_eq_false_iff_not]; omega) | (rw [decide_eq_false_iff_not]; omega) | (simp only [hW, hb0, ha0, Int.zero_sub, uA, uB, q2, q3, q4, r3, r4, Int.neg_tdiv, Int.neg_tmod, decide_true]; done))) ?_
  refine ndF ((by first | (simp only [hW, hb0, ha0, Int.zero_sub, uA, uB, q2, q3, q4, r3, r4, Int.neg_tdiv, Int.neg_tmod]; rw [decide_eq_false_iff_not]; omega) | (rw [decide_eq_false_iff_not]; omega) | (simp only [hW, hb0, ha0, Int.zero_sub, uA, uB, q2, q3, q4, r3, r4, Int.neg_tdiv, Int.neg_tmod, decide_true]; done))) ?_
  by_cases hm : (-c) = -2147483648
  · refine ndT (decide_eq_true hm) ?_
    refine ndF (decide_eq_false (by omega)) ?_
    refine ndT ((by first | (simp only [hW, hb0, ha0, Int.zero_sub, uA, uB, q2, q3, q4, r3, r4, Int.neg_tdiv, Int.neg_tmod, decide_true]; done) | (simp only [hW, hb0, ha0, Int.zero_sub, uA, uB, q2, q3, q4, r3, r4, Int.neg_tdiv, Int.neg_tmod]; rw [decide_eq_true_eq]; done) | (simp only [hW, hb0, ha0, Int.zero_sub, uA, uB, q2, q3, q4, r3, r4, Int.neg_tdiv, Int.neg_tmod]; rw [decide_eq_true_eq]; omega) | (rw [decide_eq_true_eq]; omega))) ?_
    refine ndT ((by first | (simp only [hW, hb0, ha0, Int.zero_sub, uA, uB, q2, q3, q4, r3, r4, Int.neg_tdiv, Int.neg_tmod, decide_true]; done) | (simp only [hW, hb0, ha0, Int.zero_sub, uA, uB, q2, q3, q4, r3, r4, Int.neg_tdiv, Int.neg_tmod]; rw [decide_eq_true_eq]; done) | (simp only [hW, hb0, ha0, Int.zero_sub, uA, uB, q2, q3, q4, r3, r4, Int.neg_tdiv, Int.neg_tmod]; rw [decide_eq_true_eq]; omega) | (rw [decide_eq_true_eq]; omega))) ?_
    rfl
  · refine ndF (decide_eq_false hm) ?_
    refine ndT ((by first | (simp only [hW, hb0, ha0, Int.zero_sub, uA, uB, q2, q3, q4, r3, r4, Int.neg_tdiv, Int.neg_tmod, decide_true]; done) | (simp only [hW, hb0, ha0, Int.zero_sub, uA, uB, q2, q3, q4, r3, r4, Int.neg_tdiv, Int.neg_tmod]; rw [decide_eq_true_eq]; done) | (simp only [hW, hb0, ha0, Int.zero_sub, uA, uB, q2, q3, q4, r3, r4, Int.neg_tdiv, Int.neg_tmod]; rw [decide_eq_true_eq]; omega) | (rw [decide_eq_true_eq]; omega))) ?_
    refine ndT ((by first | (simp only [hW, hb0, ha0, Int.zero_sub, uA, uB, q2, q3, q4, r3, r4, Int.neg_tdiv, Int.neg_tmod, decide_true]; done) | (simp only [hW, hb0, ha0, Int.zero_sub, uA, uB, q2, q3, q4, r3, r4, Int.neg_tdiv, Int.neg_tmod]; rw [decide_eq_true_eq]; done) | (simp only [hW, hb0, ha0, Int.zero_sub, uA, uB, q2, q3, q4, r3, r4, Int.neg_tdiv, Int.neg_tmod]; rw [decide_eq_true_eq]; omega) | (rw [decide_eq_true_eq]; omega))) ?_
    rfl

set_option maxHeartbeats 4000000 in
theorem ok7 (a d : Int) (ha : -2147483648 ≤ a ∧ a ≤ 2147483647) (hb : -2147483648 ≤ (-d) ∧ (-d) ≤ 2147483647) (h1 : 0 ≤ a) (h2 : 0 < d) : tree7 a (-d) = some (.bool true) := by
  obtain ⟨⟨q0, q1⟩, r0, r1⟩ := qr a d (by omega) (by omega)
  have hW := word a ha
  have hb0 : IntKind.i64.wrap (-d) = (-d) := ip _ (by omega)
  have ha0 : IntKind.i64.wrap a = a := ip _ (by omega)
  have uA : IntKind.u64.wrap a = a := up _ (by omega)
  have uB : IntKind.u64.wrap (-IntKind.u64.wrap (-d)) = d := by rw [← Int.zero_sub (IntKind.u64.wrap (-d))]; exact us d (by omega)
  have q2 : IntKind.u64.wrap (a.tdiv d) = a.tdiv d := up _ (by omega)
  have q3 : IntKind.i64.wrap (a.tdiv d) = a.tdiv d := ip _ (by omega)
  have q4 : IntKind.i64.wrap (-a.tdiv d) = -a.tdiv d := ip _ (by omega)
  have r3 : IntKind.i64.wrap (a.tmod d) = a.tmod d := ip _ (by omega)
  have r4 : IntKind.i64.wrap (-a.tmod d) = -a.tmod d := ip _ (by omega)
  have dA : decide (a < 0) = false := decide_eq_false (by omega)
  have dB : decide ((-d) < 0) = true := decide_eq_true (by omega)
  unfold tree7
  refine ndT (decide_eq_true rfl) ?_
  refine ndT (decide_eq_true rfl) ?_
  refine ndT (decide_eq_true rfl) ?_
  refine ndT (decide_eq_true rfl) ?_
  refine ndT (decide_eq_true rfl) ?_
  refine ndT (decide_eq_true rfl) ?_
  refine ndT (decide_eq_true rfl) ?_
  refine ndT (decide_eq_true rfl) ?_
  refine ndT (decide_eq_true rfl) ?_
  refine ndF (neq_c rfl) ?_
  refine ndF (neq_c rfl) ?_
  refine ndT (decide_eq_true rfl) ?_
  refine ndT (decide_eq_true rfl) ?_
  refine ndT (decide_eq_true rfl) ?_
  refine ndT (decide_eq_true rfl) ?_
  refine ndT (decide_eq_true rfl) ?_
  refine ndT (decide_eq_true rfl) ?_
  refine ndT (decide_eq_true rfl) ?_
  refine ndT (decide_eq_true rfl) ?_
  refine ndT (decide_eq_true rfl) ?_
  refine ndF (neq_c rfl) ?_
  refine ndF (neq_c rfl) ?_
  refine ndT (decide_eq_true rfl) ?_
  refine ndT (decide_eq_true rfl) ?_
  refine ndT (decide_eq_true rfl) ?_
  refine ndT (decide_eq_true rfl) ?_
  refine ndT (decide_eq_true rfl) ?_
  refine ndF (and_c _) ?_
  refine ndF (neq_c rfl) ?_
  refine ndT (decide_eq_true rfl) ?_
  refine ndT (decide_eq_true rfl) ?_
  refine ndT (decide_eq_true rfl) ?_
  refine ndT (decide_eq_true rfl) ?_
  refine ndT (decide_eq_true rfl) ?_
  refine ndF (and_c _) ?_
  refine ndF (neq_c rfl) ?_
  refine ndT (decide_eq_true rfl) ?_
  refine ndT (decide_eq_true rfl) ?_
  refine ndT (decide_eq_true rfl) ?_
  refine ndT (decide_eq_true rfl) ?_
  refine ndT (decide_eq_true rfl) ?_
  refine ndF (and_c _) ?_
  refine ndF (neq_c rfl) ?_
  refine ndT (decide_eq_true rfl) ?_
  refine ndT (decide_eq_true rfl) ?_
  refine ndT (decide_eq_true rfl) ?_
  refine ndF (mul_c _ _ ha hb) ?_
  refine ndF (neq_c rfl) ?_
  refine ndT (decide_eq_true rfl) ?_
  refine ndT (decide_eq_true rfl) ?_
  refine ndT (decide_eq_true rfl) ?_
  refine ndT (decide_eq_true rfl) ?_
  refine ndF (cnt_c _) ?_
  refine ndF (shl_c _ _ ha) ?_
  refine ndT (decide_eq_true rfl) ?_
  refine ndT (decide_eq_true rfl) ?_
  refine ndT (decide_eq_true rfl) ?_
  refine ndT (decide_eq_true rfl) ?_
  refine ndF (cnt_c _) ?_
  refine ndF (sar_c _ _ ha) ?_
  refine ndT (decide_eq_true rfl) ?_
  refine ndT (decide_eq_true rfl) ?_
  refine ndT (decide_eq_true rfl) ?_
  refine ndT (decide_eq_true rfl) ?_
  refine ndF (cnt_c _) ?_
  refine ndF (shr_c _ _ ha) ?_
  refine ndT (decide_eq_true rfl) ?_
  refine ndT (decide_eq_true rfl) ?_
  refine ndT (decide_eq_true rfl) ?_
  refine ndT (decide_eq_true rfl) ?_
  refine ndT (decide_eq_true rfl) ?_
  refine ndT (decide_eq_true rfl) ?_
  refine ndT (decide_eq_true rfl) ?_
  refine ndT (decide_eq_true rfl) ?_
  refine ndT (decide_eq_true rfl) ?_
  refine ndT (decide_eq_true rfl) ?_
  refine ndT (decide_eq_true rfl) ?_
  refine ndF ((by first | (simp only [hW, hb0, ha0, Int.zero_sub, uA, uB, q2, q3, q4, r3, r4, Int.tdiv_neg, Int.tmod_neg]; rw [decide_eq_false_iff_not]; omega) | (rw [decide_eq_false_iff_not]; omega) | (simp only [hW, hb0, ha0, Int.zero_sub, uA, uB, q2, q3, q4, r3, r4, Int.tdiv_neg, Int.tmod_neg, decide_true]; done))) ?_
  refine ndF ((by first | (simp only [hW, hb0, ha0, Int.zero_sub, uA, uB, q2, q3, q4, r3, r4, Int.tdiv_neg, Int.tmod_neg]; rw [decide_eq_false_iff_not]; omega) | (rw [decide_eq_false_iff_not]; omega) | (simp only [hW, hb0, ha0, Int.zero_sub, uA, uB, q2, q3, q4, r3, r4, Int.tdiv_neg, Int.tmod_neg, decide_true]; done))) ?_
  refine ndT ((by first | (simp only [hW, hb0, ha0, Int.zero_sub, uA, uB, q2, q3, q4, r3, r4, Int.tdiv_neg, Int.tmod_neg, decide_true]; done) | (simp only [hW, hb0, ha0, Int.zero_sub, uA, uB, q2, q3, q4, r3, r4, Int.tdiv_neg, Int.tmod_neg]; rw [decide_eq_true_eq]; done) | (simp only [hW, hb0, ha0, Int.zero_sub, uA, uB, q2, q3, q4, r3, r4, Int.tdiv_neg, Int.tmod_neg]; rw [decide_eq_true_eq]; omega) | (rw [decide_eq_true_eq]; omega))) ?_
  refine ndF ((by first | (simp only [hW, hb0, ha0, Int.zero_sub, uA, uB, q2, q3, q4, r3, r4, Int.tdiv_neg, Int.tmod_neg]; rw [decide_eq_false_iff_not]; omega) | (rw [decide_eq_false_iff_not]; omega) | (simp only [hW, hb0, ha0, Int.zero_sub, uA, uB, q2, q3, q4, r3, r4, Int.tdiv_neg, Int.tmod_neg, decide_true]; done))) ?_
  refine ndF ((by first | (simp only [hW, hb0, ha0, Int.zero_sub, uA, uB, q2, q3, q4, r3, r4, Int.tdiv_neg, Int.tmod_neg]; rw [decide_eq_false_iff_not]; omega) | (rw [decide_eq_false_iff_not]; omega) | (simp only [hW, hb0, ha0, Int.zero_sub, uA, uB, q2, q3, q4, r3, r4, Int.tdiv_neg, Int.tmod_neg, decide_true]; done))) ?_
  refine ndF ((by first | (simp only [hW, hb0, ha0, Int.zero_sub, uA, uB, q2, q3, q4, r3, r4, Int.tdiv_neg, Int.tmod_neg]; rw [decide_eq_false_iff_not]; omega) | (rw [decide_eq_false_iff_not]; omega) | (simp only [hW, hb0, ha0, Int.zero_sub, uA, uB, q2, q3, q4, r3, r4, Int.tdiv_neg, Int.tmod_neg, decide_true]; done))) ?_
  refine ndT (decide_eq_true rfl) ?_
  refine ndT (decide_eq_true rfl) ?_
  refine ndT (decide_eq_true rfl) ?_
  refine ndT (decide_eq_true rfl) ?_
  refine ndT (decide_eq_true rfl) ?_
  refine ndT (decide_eq_true rfl) ?_
  refine ndT (decide_eq_true rfl) ?_
  refine ndT (decide_eq_true rfl) ?_
  refine ndT (decide_eq_true rfl) ?_
  refine ndF ((by first | (simp only [hW, hb0, ha0, Int.zero_sub, uA, uB, q2, q3, q4, r3, r4, Int.tdiv_neg, Int.tmod_neg]; rw [decide_eq_false_iff_not]; omega) | (rw [decide_eq_false_iff_not]; omega) | (simp only [hW, hb0, ha0, Int.zero_sub, uA, uB, q2, q3, q4, r3, r4, Int.tdiv_neg, Int.tmod_neg, decide_true]; done))) ?_
  refine ndT ((by rw [hW, hb0, dA, dB]; rfl)) ?_
  refine ndF ((by first | (simp only [hW, hb0, ha0, Int.zero_sub, uA, uB, q2, q3, q4, r3, r4, Int.tdiv_neg, Int.tmod_neg]; rw [decide_eq_false_iff_not]; omega) | (rw [decide_eq_false_iff_not]; omega) | (simp only [hW, hb0, ha0, Int.zero_sub, uA, uB, q2, q3, q4, r3, r4, Int.tdiv_neg, Int.tmod_neg, decide_true]; done))) ?_
  refine ndF ((by first | (simp only [hW, hb0, ha0, Int.zero_sub, uA, uB, q2, q3, q4, r3, r4, Int.tdiv_neg, Int.tmod_neg]; rw [decide_eq_false_iff_not]; omega) | (rw [decide_eq_false_iff_not]; omega) | (simp only [hW, hb0, ha0, Int.zero_sub, uA, uB, q2, q3, q4, r3, r4, Int.tdiv_neg, Int.tmod_neg, decide_true]; done))) ?_
  refine ndT (decide_eq_true rfl) ?_
  refine ndT (decide_eq_true rfl) ?_
  refine ndT (decide_eq_true rfl) ?_
  refine ndT (decide_eq_true rfl) ?_
  refine ndT (decide_eq_true rfl) ?_
  refine ndT (decide_eq_true rfl) ?_
  refine ndF ((by first | (simp only [hW, hb0, ha0, Int.zero_sub, uA, uB, q2, q3, q4, r3, r4, Int.tdiv_neg, Int.tmod_neg]; rw [decide_eq_false_iff_not]; omega) | (rw [decide_eq_false_iff_not]; omega) | (simp only [hW, hb0, ha0, Int.zero_sub, uA, uB, q2, q3, q4, r3, r4, Int.tdiv_neg, Int.tmod_neg, decide_true]; done))) ?_
  refine ndF ((by first | (simp only [hW, hb0, ha0, Int.zero_sub, uA, uB, q2, q3, q4, r3, r4, Int.tdiv_neg, Int.tmod_neg]; rw [decide_eq_false_iff_not]; omega) | (rw [decide_eq_false_iff_not]; omega) | (simp only [hW, hb0, ha0, Int.zero_sub, uA, uB, q2, q3, q4, r3, r4, Int.tdiv_neg, Int.tmod_neg, decide_true]; done))) ?_
  refine ndF ((by first | (simp only [hW, hb0, ha0, Int.zero_sub, uA, uB, q2, q3, q4, r3, r4, Int.tdiv_neg, Int.tmod_neg]; rw [decide_eq_false_iff_not]; omega) | (rw [decide_eq_false_iff_not]; omega) | (simp only [hW, hb0, ha0, Int.zero_sub, uA, uB, q2, q3, q4, r3, r4, Int.tdiv_neg, Int.tmod_neg, decide_true]; done))) ?_
  refine ndF ((by first | (simp only [hW, hb0, ha0, Int.zero_sub, uA, uB, q2, q3, q4, r3, r4, Int.tdiv_neg, Int.tmod_neg]; rw [decide_eq_false_iff_not]; omega) | (rw [decide_eq_false_iff_not]; omega) | (simp only [hW, hb0, ha0, Int.zero_sub, uA, uB, q2, q3, q4, r3, r4, Int.tdiv_neg, Int.tmod_neg, decide_true]; done))) ?_
  refine ndF ((by first | (simp only [hW, hb0, ha0, Int.zero_sub, uA, uB, q2, q3, q4, r3, r4, Int.tdiv_neg, Int.tmod_neg]; rw [decide_eq_false_iff_not]; omega) | (rw [decide_eq_false_iff_not]; omega) | (simp only [hW, hb0, ha0, Int.zero_sub, uA, uB, q2, q3, q4, r3, r4, Int.tdiv_neg, Int.tmod_neg, decide_true]; done))) ?_
  refine ndT ((by first | (simp only [hW, hb0, ha0, Int.zero_sub, uA, uB, q2, q3, q4, r3, r4, Int.tdiv_neg, Int.tmod_neg, decide_true]; done) | (simp only [hW, hb0, ha0, Int.zero_sub, uA, uB, q2, q3, q4, r3, r4, Int.tdiv_neg, Int.tmod_neg]; rw [decide_eq_true_eq]; done) | (simp only [hW, hb0, ha0, Int.zero_sub, uA, uB, q2, q3, q4, r3, r4, Int.tdiv_neg, Int.tmod_neg]; rw [decide_eq_true_eq]; omega) | (rw [decide_eq_true_eq]; omega))) ?_
  refine ndT ((by first | (simp only [hW, hb0, ha0, Int.zero_sub, uA, uB, q2, q3, q4, r3, r4, Int.tdiv_neg, Int.tmod_neg, decide_true]; done) | (simp only [hW, hb0, ha0, Int.zero_sub, uA, uB, q2, q3, q4, r3, r4, Int.tdiv_neg, Int.tmod_neg]; rw [decide_eq_true_eq]; done) | (simp only [hW, hb0, ha0, Int.zero_sub, uA, uB, q2, q3, q4, r3, r4, Int.tdiv_neg, Int.tmod_neg]; rw [decide_eq_true_eq]; omega) | (rw [decide_eq_true_eq]; omega))) ?_
  rfl

set_option maxHeartbeats 4000000 in
theorem ok8 (c d : Int) (ha : -2147483648 ≤ (-c) ∧ (-c) ≤ 2147483647) (hb : -2147483648 ≤ (-d) ∧ (-d) ≤ 2147483647) (h1 : 0 < c) (h2 : 0 < d) (h3 : c = 2147483648 → d ≠ 1) : tree8 (-c) (-d) = some (.bool true) := by
  obtain ⟨⟨q0, q1⟩, r0, r1⟩ := qr c d (by omega) (by omega)
  have q9 : c.tdiv d ≤ 2147483647 := by rw [Int.tdiv_eq_ediv_of_nonneg (by omega)]; exact Int.ediv_le_of_le_mul (by omega) (by omega)
  have hW := word (-c) ha
  have hb0 : IntKind.i64.wrap (-d) = (-d) := ip _ (by omega)
  have ha0 : IntKind.i64.wrap (-c) = (-c) := ip _ (by omega)
  have uA : IntKind.u64.wrap (-IntKind.u64.wrap (-c)) = c := by rw [← Int.zero_sub (IntKind.u64.wrap (-c))]; exact us c (by omega)
  have uB : IntKind.u64.wrap (-IntKind.u64.wrap (-d)) = d := by rw [← Int.zero_sub (IntKind.u64.wrap (-d))]; exact us d (by omega)
  have q2 : IntKind.u64.wrap (c.tdiv d) = c.tdiv d := up _ (by omega)
  have q3 : IntKind.i64.wrap (c.tdiv d) = c.tdiv d := ip _ (by omega)
  have q4 : IntKind.i64.wrap (-c.tdiv d) = -c.tdiv d := ip _ (by omega)
  have r3 : IntKind.i64.wrap (c.tmod d) = c.tmod d := ip _ (by omega)
  have r4 : IntKind.i64.wrap (-c.tmod d) = -c.tmod d := ip _ (by omega)
  have dA : decide ((-c) < 0) = true := decide_eq_true (by omega)
  have dB : decide ((-d) < 0) = true := decide_eq_true (by omega)
  unfold tree8
  refine ndT (decide_eq_true rfl) ?_
  refine ndT (decide_eq_true rfl) ?_
  refine ndT (decide_eq_true rfl) ?_
  refine ndT (decide_eq_true rfl) ?_
  refine ndT (decide_eq_true rfl) ?_
  refine ndT (decide_eq_true rfl) ?_
  refine ndT (decide_eq_true rfl) ?_
  refine ndT (decide_eq_true rfl) ?_
  refine ndT (decide_eq_true rfl) ?_
  refine ndF (neq_c rfl) ?_
  refine ndF (neq_c rfl) ?_
  refine ndT (decide_eq_true rfl) ?_
  refine ndT (decide_eq_true rfl) ?_
  refine ndT (decide_eq_true rfl) ?_
  refine ndT (decide_eq_true rfl) ?_
  refine ndT (decide_eq_true rfl) ?_
  refine ndT (decide_eq_true rfl) ?_
  refine ndT (decide_eq_true rfl) ?_
  refine ndT (decide_eq_true rfl) ?_
  refine ndT (decide_eq_true rfl) ?_
  refine ndF (neq_c rfl) ?_
  refine ndF (neq_c rfl) ?_
  refine ndT (decide_eq_true rfl) ?_
  refine ndT (decide_eq_true rfl) ?_
  refine ndT (decide_eq_true rfl) ?_
  refine ndT (decide_eq_true rfl) ?_
  refine ndT (decide_eq_true rfl) ?_
  refine ndF (and_c _) ?_
  refine ndF (neq_c rfl) ?_
  refine ndT (decide_eq_true rfl) ?_
  refine ndT (decide_eq_true rfl) ?_
  refine ndT (decide_eq_true rfl) ?_
  refine ndT (decide_eq_true rfl) ?_
  refine ndT (decide_eq_true rfl) ?_
  refine ndF (and_c _) ?_
  refine ndF (neq_c rfl) ?_
  refine ndT (decide_eq_true rfl) ?_
  refine ndT (decide_eq_true rfl) ?_
  refine ndT (decide_eq_true rfl) ?_
  refine ndT (decide_eq_true rfl) ?_
  refine ndT (decide_eq_true rfl) ?_
  refine ndF (and_c _) ?_
  refine ndF (neq_c rfl) ?_
  refine ndT (decide_eq_true rfl) ?_
  refine ndT (decide_eq_true rfl) ?_
  refine ndT (decide_eq_true rfl) ?_
  refine ndF (mul_c _ _ ha hb) ?_
  refine ndF (neq_c rfl) ?_
  refine ndT (decide_eq_true rfl) ?_
  refine ndT (decide_eq_true rfl) ?_
  refine ndT (decide_eq_true rfl) ?_
  refine ndT (decide_eq_true rfl) ?_
  refine ndF (cnt_c _) ?_
  refine ndF (shl_c _ _ ha) ?_
  refine ndT (decide_eq_true rfl) ?_
  refine ndT (decide_eq_true rfl) ?_
  refine ndT (decide_eq_true rfl) ?_
  refine ndT (decide_eq_true rfl) ?_
  refine ndF (cnt_c _) ?_
  refine ndF (sar_c _ _ ha) ?_
  refine ndT (decide_eq_true rfl) ?_
  refine ndT (decide_eq_true rfl) ?_
  refine ndT (decide_eq_true rfl) ?_
  refine ndT (decide_eq_true rfl) ?_
  refine ndF (cnt_c _) ?_
  refine ndF (shr_c _ _ ha) ?_
  refine ndT (decide_eq_true rfl) ?_
  refine ndT (decide_eq_true rfl) ?_
  refine ndT (decide_eq_true rfl) ?_
  refine ndT (decide_eq_true rfl) ?_
  refine ndT (decide_eq_true rfl) ?_
  refine ndT (decide_eq_true rfl) ?_
  refine ndT (decide_eq_true rfl) ?_
  refine ndT (decide_eq_true rfl) ?_
  refine ndT (decide_eq_true rfl) ?_
  refine ndT (decide_eq_true rfl) ?_
  refine ndT (decide_eq_true rfl) ?_
  refine ndF ((by first | (simp only [hW, hb0, ha0, Int.zero_sub, uA, uB, q2, q3, q4, r3, r4, Int.neg_tdiv, Int.neg_tmod, Int.tdiv_neg, Int.tmod_neg, Int.neg_neg]; rw [decide_eq_false_iff_not]; omega) | (rw [decide_eq_false_iff_not]; omega) | (simp only [hW, hb0, ha0, Int.zero_sub, uA, uB, q2, q3, q4, r3, r4, Int.neg_tdiv, Int.neg_tmod, Int.tdiv_neg, Int.tmod_neg, Int.neg_neg, decide_true]; done))) ?_
  refine ndT ((by first | (simp only [hW, hb0, ha0, Int.zero_sub, uA, uB, q2, q3, q4, r3, r4, Int.neg_tdiv, Int.neg_tmod, Int.tdiv_neg, Int.tmod_neg, Int.neg_neg, decide_true]; done) | (simp only [hW, hb0, ha0, Int.zero_sub, uA, uB, q2, q3, q4, r3, r4, Int.neg_tdiv, Int.neg_tmod, Int.tdiv_neg, Int.tmod_neg, Int.neg_neg]; rw [decide_eq_true_eq]; done) | (simp only [hW, hb0, ha0, Int.zero_sub, uA, uB, q2, q3, q4, r3, r4, Int.neg_tdiv, Int.neg_tmod, Int.tdiv_neg, Int.tmod_neg, Int.neg_neg]; rw [decide_eq_true_eq]; omega) | (rw [decide_eq_true_eq]; omega))) ?_
  refine ndT ((by first | (simp only [hW, hb0, ha0, Int.zero_sub, uA, uB, q2, q3, q4, r3, r4, Int.neg_tdiv, Int.neg_tmod, Int.tdiv_neg, Int.tmod_neg, Int.neg_neg, decide_true]; done) | (simp only [hW, hb0, ha0, Int.zero_sub, uA, uB, q2, q3, q4, r3, r4, Int.neg_tdiv, Int.neg_tmod, Int.tdiv_neg, Int.tmod_neg, Int.neg_neg]; rw [decide_eq_true_eq]; done) | (simp only [hW, hb0, ha0, Int.zero_sub, uA, uB, q2, q3, q4, r3, r4, Int.neg_tdiv, Int.neg_tmod, Int.tdiv_neg, Int.tmod_neg, Int.neg_neg]; rw [decide_eq_true_eq]; omega) | (rw [decide_eq_true_eq]; omega))) ?_
  refine ndF ((by first | (simp only [hW, hb0, ha0, Int.zero_sub, uA, uB, q2, q3, q4, r3, r4, Int.neg_tdiv, Int.neg_tmod, Int.tdiv_neg, Int.tmod_neg, Int.neg_neg]; rw [decide_eq_false_iff_not]; omega) | (rw [decide_eq_false_iff_not]; omega) | (simp only [hW, hb0, ha0, Int.zero_sub, uA, uB, q2, q3, q4, r3, r4, Int.neg_tdiv, Int.neg_tmod, Int.tdiv_neg, Int.tmod_neg, Int.neg_neg, decide_true]; done))) ?_
  refine ndF ((by first | (simp only [hW, hb0, ha0, Int.zero_sub, uA, uB, q2, q3, q4, r3, r4, Int.neg_tdiv, Int.neg_tmod, Int.tdiv_neg, Int.tmod_neg, Int.neg_neg]; rw [decide_eq_false_iff_not]; omega) | (rw [decide_eq_false_iff_not]; omega) | (simp only [hW, hb0, ha0, Int.zero_sub, uA, uB, q2, q3, q4, r3, r4, Int.neg_tdiv, Int.neg_tmod, Int.tdiv_neg, Int.tmod_neg, Int.neg_neg, decide_true]; done))) ?_
  refine ndF ((by first | (simp only [hW, hb0, ha0, Int.zero_sub, uA, uB, q2, q3, q4, r3, r4, Int.neg_tdiv, Int.neg_tmod, Int.tdiv_neg, Int.tmod_neg, Int.neg_neg]; rw [decide_eq_false_iff_not]; omega) | (rw [decide_eq_false_iff_not]; omega) | (simp only [hW, hb0, ha0, Int.zero_sub, uA, uB, q2, q3, q4, r3, r4, Int.neg_tdiv, Int.neg_tmod, Int.tdiv_neg, Int.tmod_neg, Int.neg_neg, decide_true]; done))) ?_
  refine ndT (decide_eq_true rfl) ?_
  refine ndT (decide_eq_true rfl) ?_
  refine ndT (decide_eq_true rfl) ?_
  refine ndT (decide_eq_true rfl) ?_
  refine ndT (decide_eq_true rfl) ?_
  refine ndT (decide_eq_true rfl) ?_
  refine ndT (decide_eq_true rfl) ?_
  refine ndT (decide_eq_true rfl) ?_
  refine ndT (decide_eq_true rfl) ?_
  refine ndF ((by first | (simp only [hW, hb0, ha0, Int.zero_sub, uA, uB, q2, q3, q4, r3, r4, Int.neg_tdiv, Int.neg_tmod, Int.tdiv_neg, Int.tmod_neg, Int.neg_neg]; rw [decide_eq_false_iff_not]; omega) | (rw [decide_eq_false_iff_not]; omega) | (simp only [hW, hb0, ha0, Int.zero_sub, uA, uB, q2, q3, q4, r3, r4, Int.neg_tdiv, Int.neg_tmod, Int.tdiv_neg, Int.tmod_neg, Int.neg_neg, decide_true]; done))) ?_
  refine ndF ((by rw [hW, hb0, dA, dB]; rfl)) ?_
  refine ndT ((by first | (simp only [hW, hb0, ha0, Int.zero_sub, uA, uB, q2, q3, q4, r3, r4, Int.neg_tdiv, Int.neg_tmod, Int.tdiv_neg, Int.tmod_neg, Int.neg_neg, decide_true]; done) | (simp only [hW, hb0, ha0, Int.zero_sub, uA, uB, q2, q3, q4, r3, r4, Int.neg_tdiv, Int.neg_tmod, Int.tdiv_neg, Int.tmod_neg, Int.neg_neg]; rw [decide_eq_true_eq]; done) | (simp only [hW, hb0, ha0, Int.zero_sub, uA, uB, q2, q3, q4, r3, r4, Int.neg_tdiv, Int.neg_tmod, Int.tdiv_neg, Int.tmod_neg, Int.neg_neg]; rw [decide_eq_true_eq]; omega) | (rw [decide_eq_true_eq]; omega))) ?_
  refine ndF ((by first | (simp only [hW, hb0, ha0, Int.zero_sub, uA, uB, q2, q3, q4, r3, r4, Int.neg_tdiv, Int.neg_tmod, Int.tdiv_neg, Int.tmod_neg, Int.neg_neg]; rw [decide_eq_false_iff_not]; omega) | (rw [decide_eq_false_iff_not]; omega) | (simp only [hW, hb0, ha0, Int.zero_sub, uA, uB, q2, q3, q4, r3, r4, Int.neg_tdiv, Int.neg_tmod, Int.tdiv_neg, Int.tmod_neg, Int.neg_neg, decide_true]; done))) ?_
  refine ndT (decide_eq_true rfl) ?_
  refine ndT (decide_eq_true rfl) ?_
  refine ndT (decide_eq_true rfl) ?_
  refine ndT (decide_eq_true rfl) ?_
  refine ndT (decide_eq_true rfl) ?_
  refine ndT (decide_eq_true rfl) ?_
  refine ndF ((by first | (simp only [hW, hb0, ha0, Int.zero_sub, uA, uB, q2, q3, q4, r3, r4, Int.neg_tdiv, Int.neg_tmod, Int.tdiv_neg, Int.tmod_neg, Int.neg_neg]; rw [decide_eq_false_iff_not]; omega) | (rw [decide_eq_false_iff_not]; omega) | (simp only [hW, hb0, ha0, Int.zero_sub, uA, uB, q2, q3, q4, r3, r4, Int.neg_tdiv, Int.neg_tmod, Int.tdiv_neg, Int.tmod_neg, Int.neg_neg, decide_true]; done))) ?_
  refine ndF ((by first | (simp only [hW, hb0, ha0, Int.zero_sub, uA, uB, q2, q3, q4, r3, r4, Int.neg_tdiv, Int.neg_tmod, Int.tdiv_neg, Int.tmod_neg, Int.neg_neg]; rw [decide_eq_false_iff_not]; omega) | (rw [decide_eq_false_iff_not]; omega) | (simp only [hW, hb0, ha0, Int.zero_sub, uA, uB, q2, q3, q4, r3, r4, Int.neg_tdiv, Int.neg_tmod, Int.tdiv_neg, Int.tmod_neg, Int.neg_neg, decide_true]; done))) ?_
  refine ndF ((by first | (simp only [hW, hb0, ha0, Int.zero_sub, uA, uB, q2, q3, q4, r3, r4, Int.neg_tdiv, Int.neg_tmod, Int.tdiv_neg, Int.tmod_neg, Int.neg_neg]; rw [decide_eq_false_iff_not]; omega) | (rw [decide_eq_false_iff_not]; omega) | (simp only [hW, hb0, ha0, Int.zero_sub, uA, uB, q2, q3, q4, r3, r4, Int.neg_tdiv, Int.neg_tmod, Int.tdiv_neg, Int.tmod_neg, Int.neg_neg, decide_true]; done))) ?_
  refine ndF ((by first | (simp only [hW, hb0, ha0, Int.zero_sub, uA, uB, q2, q3, q4, r3, r4, Int.neg_tdiv, Int.neg_tmod, Int.tdiv_neg, Int.tmod_neg, Int.neg_neg]; rw [decide_eq_false_iff_not]; omega) | (rw [decide_eq_false_iff_not]; omega) | (simp only [hW, hb0, ha0, Int.zero_sub, uA, uB, q2, q3, q4, r3, r4, Int.neg_tdiv, Int.neg_tmod, Int.tdiv_neg, Int.tmod_neg, Int.neg_neg, decide_true]; done))) ?_
  by_cases hm : (-c) = -2147483648
  · refine ndT (decide_eq_true hm) ?_
    refine ndF (decide_eq_false (by omega)) ?_
    refine ndT ((by first | (simp only [hW, hb0, ha0, Int.zero_sub, uA, uB, q2, q3, q4, r3, r4, Int.neg_tdiv, Int.neg_tmod, Int.tdiv_neg, Int.tmod_neg, Int.neg_neg, decide_true]; done) | (simp only [hW, hb0, ha0, Int.zero_sub, uA, uB, q2, q3, q4, r3, r4, Int.neg_tdiv, Int.neg_tmod, Int.tdiv_neg, Int.tmod_neg, Int.neg_neg]; rw [decide_eq_true_eq]; done) | (simp only [hW, hb0, ha0, Int.zero_sub, uA, uB, q2, q3, q4, r3, r4, Int.neg_tdiv, Int.neg_tmod, Int.tdiv_neg, Int.tmod_neg, Int.neg_neg]; rw [decide_eq_true_eq]; omega) | (rw [decide_eq_true_eq]; omega))) ?_
    refine ndT ((by first | (simp only [hW, hb0, ha0, Int.zero_sub, uA, uB, q2, q3, q4, r3, r4, Int.neg_tdiv, Int.neg_tmod, Int.tdiv_neg, Int.tmod_neg, Int.neg_neg, decide_true]; done) | (simp only [hW, hb0, ha0, Int.zero_sub, uA, uB, q2, q3, q4, r3, r4, Int.neg_tdiv, Int.neg_tmod, Int.tdiv_neg, Int.tmod_neg, Int.neg_neg]; rw [decide_eq_true_eq]; done) | (simp only [hW, hb0, ha0, Int.zero_sub, uA, uB, q2, q3, q4, r3, r4, Int.neg_tdiv, Int.neg_tmod, Int.tdiv_neg, Int.tmod_neg, Int.neg_neg]; rw [decide_eq_true_eq]; omega) | (rw [decide_eq_true_eq]; omega))) ?_
    rfl
  · refine ndF (decide_eq_false hm) ?_
    refine ndT ((by first | (simp only [hW, hb0, ha0, Int.zero_sub, uA, uB, q2, q3, q4, r3, r4, Int.neg_tdiv, Int.neg_tmod, Int.tdiv_neg, Int.tmod_neg, Int.neg_neg, decide_true]; done) | (simp only [hW, hb0, ha0, Int.zero_sub, uA, uB, q2, q3, q4, r3, r4, Int.neg_tdiv, Int.neg_tmod, Int.tdiv_neg, Int.tmod_neg, Int.neg_neg]; rw [decide_eq_true_eq]; done) | (simp only [hW, hb0, ha0, Int.zero_sub, uA, uB, q2, q3, q4, r3, r4, Int.neg_tdiv, Int.neg_tmod, Int.tdiv_neg, Int.tmod_neg, Int.neg_neg]; rw [decide_eq_true_eq]; omega) | (rw [decide_eq_true_eq]; omega))) ?_
    refine ndT ((by first | (simp only [hW, hb0, ha0, Int.zero_sub, uA, uB, q2, q3, q4, r3, r4, Int.neg_tdiv, Int.neg_tmod, Int.tdiv_neg, Int.tmod_neg, Int.neg_neg, decide_true]; done) | (simp only [hW, hb0, ha0, Int.zero_sub, uA, uB, q2, q3, q4, r3, r4, Int.neg_tdiv, Int.neg_tmod, Int.tdiv_neg, Int.tmod_neg, Int.neg_neg]; rw [decide_eq_true_eq]; done) | (simp only [hW, hb0, ha0, Int.zero_sub, uA, uB, q2, q3, q4, r3, r4, Int.neg_tdiv, Int.neg_tmod, Int.tdiv_neg, Int.tmod_neg, Int.neg_neg]; rw [decide_eq_true_eq]; omega) | (rw [decide_eq_true_eq]; omega))) ?_
    rfl

set_option maxHeartbeats 4000000 in
theorem ok9 (c d : Int) (ha : -2147483648 ≤ (-c) ∧ (-c) ≤ 2147483647) (hb : -2147483648 ≤ (-d) ∧ (-d) ≤ 2147483647) (h1 : c = 2147483648) (h2 : d = 1) : tree9 (-c) (-d) = some (.bool true) := by
  obtain ⟨⟨q0, q1⟩, r0, r1⟩ := qr c d (by omega) (by omega)
  have q9 : c.tdiv d = c := by subst h2; exact Int.tdiv_one c
  have hW := word (-c) ha
  have hb0 : IntKind.i64.wrap (-d) = (-d) := ip _ (by omega)
  have ha0 : IntKind.i64.wrap (-c) = (-c) := ip _ (by omega)
  have uA : IntKind.u64.wrap (-IntKind.u64.wrap (-c)) = c := by rw [← Int.zero_sub (IntKind.u64.wrap (-c))]; exact us c (by omega)
  have uB : IntKind.u64.wrap (-IntKind.u64.wrap (-d)) = d := by rw [← Int.zero_sub (IntKind.u64.wrap (-d))]; exact us d (by omega)
  have q2 : IntKind.u64.wrap (c.tdiv d) = c.tdiv d := up _ (by omega)
  have q3 : IntKind.i64.wrap (c.tdiv d) = c.tdiv d := ip _ (by omega)
  have q4 : IntKind.i64.wrap (-c.tdiv d) = -c.tdiv d := ip _ (by omega)
  have r3 : IntKind.i64.wrap (c.tmod d) = c.tmod d := ip _ (by omega)
  have r4 : IntKind.i64.wrap (-c.tmod d) = -c.tmod d := ip _ (by omega)
  have dA : decide ((-c) < 0) = true := decide_eq_true (by omega)
  have dB : decide ((-d) < 0) = true := decide_eq_true (by omega)
  unfold tree9
  refine ndT (decide_eq_true rfl) ?_
  refine ndT (decide_eq_true rfl) ?_
  refine ndT (decide_eq_true rfl) ?_
  refine ndT (decide_eq_true rfl) ?_
  refine ndT (decide_eq_true rfl) ?_
  refine ndT (decide_eq_true rfl) ?_
  refine ndT (decide_eq_true rfl) ?_
  refine ndT (decide_eq_true rfl) ?_
  refine ndT (decide_eq_true rfl) ?_
  refine ndF (neq_c rfl) ?_
  refine ndF (neq_c rfl) ?_
  refine ndT (decide_eq_true rfl) ?_
  refine ndT (decide_eq_true rfl) ?_
  refine ndT (decide_eq_true rfl) ?_
  refine ndT (decide_eq_true rfl) ?_
  refine ndT (decide_eq_true rfl) ?_
  refine ndT (decide_eq_true rfl) ?_
  refine ndT (decide_eq_true rfl) ?_
  refine ndT (decide_eq_true rfl) ?_
  refine ndT (decide_eq_true rfl) ?_
  refine ndF (neq_c rfl) ?_
  refine ndF (neq_c rfl) ?_
  refine ndT (decide_eq_true rfl) ?_
  refine ndT (decide_eq_true rfl) ?_
  refine ndT (decide_eq_true rfl) ?_
  refine ndT (decide_eq_true rfl) ?_
  refine ndT (decide_eq_true rfl) ?_
  refine ndF (and_c _) ?_
  refine ndF (neq_c rfl) ?_
  refine ndT (decide_eq_true rfl) ?_
  refine ndT (decide_eq_true rfl) ?_
  refine ndT (decide_eq_true rfl) ?_
  refine ndT (decide_eq_true rfl) ?_
  refine ndT (decide_eq_true rfl) ?_
  refine ndF (and_c _) ?_
  refine ndF (neq_c rfl) ?_
  refine ndT (decide_eq_true rfl) ?_
  refine ndT (decide_eq_true rfl) ?_
  refine ndT (decide_eq_true rfl) ?_
  refine ndT (decide_eq_true rfl) ?_
  refine ndT (decide_eq_true rfl) ?_
  refine ndF (and_c _) ?_
  refine ndF (neq_c rfl) ?_
  refine ndT (decide_eq_true rfl) ?_
  refine ndT (decide_eq_true rfl) ?_
  refine ndT (decide_eq_true rfl) ?_
  refine ndF (mul_c _ _ ha hb) ?_
  refine ndF (neq_c rfl) ?_
  refine ndT (decide_eq_true rfl) ?_
  refine ndT (decide_eq_true rfl) ?_
  refine ndT (decide_eq_true rfl) ?_
  refine ndT (decide_eq_true rfl) ?_
  refine ndF (cnt_c _) ?_
  refine ndF (shl_c _ _ ha) ?_
  refine ndT (decide_eq_true rfl) ?_
  refine ndT (decide_eq_true rfl) ?_
  refine ndT (decide_eq_true rfl) ?_
  refine ndT (decide_eq_true rfl) ?_
  refine ndF (cnt_c _) ?_
  refine ndF (sar_c _ _ ha) ?_
  refine ndT (decide_eq_true rfl) ?_
  refine ndT (decide_eq_true rfl) ?_
  refine ndT (decide_eq_true rfl) ?_
  refine ndT (decide_eq_true rfl) ?_
  refine ndF (cnt_c _) ?_
  refine ndF (shr_c _ _ ha) ?_
  refine ndT (decide_eq_true rfl) ?_
  refine ndT (decide_eq_true rfl) ?_
  refine ndT (decide_eq_true rfl) ?_
  refine ndT (decide_eq_true rfl) ?_
  refine ndT (decide_eq_true rfl) ?_
  refine ndT (decide_eq_true rfl) ?_
  refine ndT (decide_eq_true rfl) ?_
  refine ndT (decide_eq_true rfl) ?_
  refine ndT (decide_eq_true rfl) ?_
  refine ndT (decide_eq_true rfl) ?_
  refine ndT (decide_eq_true rfl) ?_
  refine ndF ((by first | (simp only [hW, hb0, ha0, Int.zero_sub, uA, uB, q2, q3, q4, r3, r4, Int.neg_tdiv, Int.neg_tmod, Int.tdiv_neg, Int.tmod_neg, Int.neg_neg]; rw [decide_eq_false_iff_not]; omega) | (rw [decide_eq_false_iff_not]; omega) | (simp only [hW, hb0, ha0, Int.zero_sub, uA, uB, q2, q3, q4, r3, r4, Int.neg_tdiv, Int.neg_tmod, Int.tdiv_neg, Int.tmod_neg, Int.neg_neg, decide_true]; done))) ?_
  refine ndT ((by first | (simp only [hW, hb0, ha0, Int.zero_sub, uA, uB, q2, q3, q4, r3, r4, Int.neg_tdiv, Int.neg_tmod, Int.tdiv_neg, Int.tmod_neg, Int.neg_neg, decide_true]; done) | (simp only [hW, hb0, ha0, Int.zero_sub, uA, uB, q2, q3, q4, r3, r4, Int.neg_tdiv, Int.neg_tmod, Int.tdiv_neg, Int.tmod_neg, Int.neg_neg]; rw [decide_eq_true_eq]; done) | (simp only [hW, hb0, ha0, Int.zero_sub, uA, uB, q2, q3, q4, r3, r4, Int.neg_tdiv, Int.neg_tmod, Int.tdiv_neg, Int.tmod_neg, Int.neg_neg]; rw [decide_eq_true_eq]; omega) | (rw [decide_eq_true_eq]; omega))) ?_
  refine ndT ((by first | (simp only [hW, hb0, ha0, Int.zero_sub, uA, uB, q2, q3, q4, r3, r4, Int.neg_tdiv, Int.neg_tmod, Int.tdiv_neg, Int.tmod_neg, Int.neg_neg, decide_true]; done) | (simp only [hW, hb0, ha0, Int.zero_sub, uA, uB, q2, q3, q4, r3, r4, Int.neg_tdiv, Int.neg_tmod, Int.tdiv_neg, Int.tmod_neg, Int.neg_neg]; rw [decide_eq_true_eq]; done) | (simp only [hW, hb0, ha0, Int.zero_sub, uA, uB, q2, q3, q4, r3, r4, Int.neg_tdiv, Int.neg_tmod, Int.tdiv_neg, Int.tmod_neg, Int.neg_neg]; rw [decide_eq_true_eq]; omega) | (rw [decide_eq_true_eq]; omega))) ?_
  refine ndF ((by first | (simp only [hW, hb0, ha0, Int.zero_sub, uA, uB, q2, q3, q4, r3, r4, Int.neg_tdiv, Int.neg_tmod, Int.tdiv_neg, Int.tmod_neg, Int.neg_neg]; rw [decide_eq_false_iff_not]; omega) | (rw [decide_eq_false_iff_not]; omega) | (simp only [hW, hb0, ha0, Int.zero_sub, uA, uB, q2, q3, q4, r3, r4, Int.neg_tdiv, Int.neg_tmod, Int.tdiv_neg, Int.tmod_neg, Int.neg_neg, decide_true]; done))) ?_
  refine ndF ((by first | (simp only [hW, hb0, ha0, Int.zero_sub, uA, uB, q2, q3, q4, r3, r4, Int.neg_tdiv, Int.neg_tmod, Int.tdiv_neg, Int.tmod_neg, Int.neg_neg]; rw [decide_eq_false_iff_not]; omega) | (rw [decide_eq_false_iff_not]; omega) | (simp only [hW, hb0, ha0, Int.zero_sub, uA, uB, q2, q3, q4, r3, r4, Int.neg_tdiv, Int.neg_tmod, Int.tdiv_neg, Int.tmod_neg, Int.neg_neg, decide_true]; done))) ?_
  refine ndF ((by first | (simp only [hW, hb0, ha0, Int.zero_sub, uA, uB, q2, q3, q4, r3, r4, Int.neg_tdiv, Int.neg_tmod, Int.tdiv_neg, Int.tmod_neg, Int.neg_neg]; rw [decide_eq_false_iff_not]; omega) | (rw [decide_eq_false_iff_not]; omega) | (simp only [hW, hb0, ha0, Int.zero_sub, uA, uB, q2, q3, q4, r3, r4, Int.neg_tdiv, Int.neg_tmod, Int.tdiv_neg, Int.tmod_neg, Int.neg_neg, decide_true]; done))) ?_
  refine ndT (decide_eq_true rfl) ?_
  refine ndT (decide_eq_true rfl) ?_
  refine ndT (decide_eq_true rfl) ?_
  refine ndT (decide_eq_true rfl) ?_
  refine ndT (decide_eq_true rfl) ?_
  refine ndT (decide_eq_true rfl) ?_
  refine ndT (decide_eq_true rfl) ?_
  refine ndT (decide_eq_true rfl) ?_
  refine ndT (decide_eq_true rfl) ?_
  refine ndF ((by first | (simp only [hW, hb0, ha0, Int.zero_sub, uA, uB, q2, q3, q4, r3, r4, Int.neg_tdiv, Int.neg_tmod, Int.tdiv_neg, Int.tmod_neg, Int.neg_neg]; rw [decide_eq_false_iff_not]; omega) | (rw [decide_eq_false_iff_not]; omega) | (simp only [hW, hb0, ha0, Int.zero_sub, uA, uB, q2, q3, q4, r3, r4, Int.neg_tdiv, Int.neg_tmod, Int.tdiv_neg, Int.tmod_neg, Int.neg_neg, decide_true]; done))) ?_
  refine ndF ((by rw [hW, hb0, dA, dB]; rfl)) ?_
  refine ndT ((by first | (simp only [hW, hb0, ha0, Int.zero_sub, uA, uB, q2, q3, q4, r3, r4, Int.neg_tdiv, Int.neg_tmod, Int.tdiv_neg, Int.tmod_neg, Int.neg_neg, decide_true]; done) | (simp only [hW, hb0, ha0, Int.zero_sub, uA, uB, q2, q3, q4, r3, r4, Int.neg_tdiv, Int.neg_tmod, Int.tdiv_neg, Int.tmod_neg, Int.neg_neg]; rw [decide_eq_true_eq]; done) | (simp only [hW, hb0, ha0, Int.zero_sub, uA, uB, q2, q3, q4, r3, r4, Int.neg_tdiv, Int.neg_tmod, Int.tdiv_neg, Int.tmod_neg, Int.neg_neg]; rw [decide_eq_true_eq]; omega) | (rw [decide_eq_true_eq]; omega))) ?_
  refine ndT ((by first | (simp only [hW, hb0, ha0, Int.zero_sub, uA, uB, q2, q3, q4, r3, r4, Int.neg_tdiv, Int.neg_tmod, Int.tdiv_neg, Int.tmod_neg, Int.neg_neg, decide_true]; done) | (simp only [hW, hb0, ha0, Int.zero_sub, uA, uB, q2, q3, q4, r3, r4, Int.neg_tdiv, Int.neg_tmod, Int.tdiv_neg, Int.tmod_neg, Int.neg_neg]; rw [decide_eq_true_eq]; done) | (simp only [hW, hb0, ha0, Int.zero_sub, uA, uB, q2, q3, q4, r3, r4, Int.neg_tdiv, Int.neg_tmod, Int.tdiv_neg, Int.tmod_neg, Int.neg_neg]; rw [decide_eq_true_eq]; omega) | (rw [decide_eq_true_eq]; omega))) ?_
  refine ndF ((by first | (simp only [hW, hb0, ha0, Int.zero_sub, uA, uB, q2, q3, q4, r3, r4, Int.neg_tdiv, Int.neg_tmod, Int.tdiv_neg, Int.tmod_neg, Int.neg_neg]; rw [decide_eq_false_iff_not]; omega) | (rw [decide_eq_false_iff_not]; omega) | (simp only [hW, hb0, ha0, Int.zero_sub, uA, uB, q2, q3, q4, r3, r4, Int.neg_tdiv, Int.neg_tmod, Int.tdiv_neg, Int.tmod_neg, Int.neg_neg, decide_true]; done))) ?_
  refine ndF ((by first | (simp only [hW, hb0, ha0, Int.zero_sub, uA, uB, q2, q3, q4, r3, r4, Int.neg_tdiv, Int.neg_tmod, Int.tdiv_neg, Int.tmod_neg, Int.neg_neg]; rw [decide_eq_false_iff_not]; omega) | (rw [decide_eq_false_iff_not]; omega) | (simp only [hW, hb0, ha0, Int.zero_sub, uA, uB, q2, q3, q4, r3, r4, Int.neg_tdiv, Int.neg_tmod, Int.tdiv_neg, Int.tmod_neg, Int.neg_neg, decide_true]; done))) ?_
  refine ndF ((by first | (simp only [hW, hb0, ha0, Int.zero_sub, uA, uB, q2, q3, q4, r3, r4, Int.neg_tdiv, Int.neg_tmod, Int.tdiv_neg, Int.tmod_neg, Int.neg_neg]; rw [decide_eq_false_iff_not]; omega) | (rw [decide_eq_false_iff_not]; omega) | (simp only [hW, hb0, ha0, Int.zero_sub, uA, uB, q2, q3, q4, r3, r4, Int.neg_tdiv, Int.neg_tmod, Int.tdiv_neg, Int.tmod_neg, Int.neg_neg, decide_true]; done))) ?_
  refine ndF ((by first | (simp only [hW, hb0, ha0, Int.zero_sub, uA, uB, q2, q3, q4, r3, r4, Int.neg_tdiv, Int.neg_tmod, Int.tdiv_neg, Int.tmod_neg, Int.neg_neg]; rw [decide_eq_false_iff_not]; omega) | (rw [decide_eq_false_iff_not]; omega) | (simp only [hW, hb0, ha0, Int.zero_sub, uA, uB, q2, q3, q4, r3, r4, Int.neg_tdiv, Int.neg_tmod, Int.tdiv_neg, Int.tmod_neg, Int.neg_neg, decide_true]; done))) ?_
  refine ndT ((by first | (simp only [hW, hb0, ha0, Int.zero_sub, uA, uB, q2, q3, q4, r3, r4, Int.neg_tdiv, Int.neg_tmod, Int.tdiv_neg, Int.tmod_neg, Int.neg_neg, decide_true]; done) | (simp only [hW, hb0, ha0, Int.zero_sub, uA, uB, q2, q3, q4, r3, r4, Int.neg_tdiv, Int.neg_tmod, Int.tdiv_neg, Int.tmod_neg, Int.neg_neg]; rw [decide_eq_true_eq]; done) | (simp only [hW, hb0, ha0, Int.zero_sub, uA, uB, q2, q3, q4, r3, r4, Int.neg_tdiv, Int.neg_tmod, Int.tdiv_neg, Int.tmod_neg, Int.neg_neg]; rw [decide_eq_true_eq]; omega) | (rw [decide_eq_true_eq]; omega))) ?_
  refine ndT ((by first | (simp only [hW, hb0, ha0, Int.zero_sub, uA, uB, q2, q3, q4, r3, r4, Int.neg_tdiv, Int.neg_tmod, Int.tdiv_neg, Int.tmod_neg, Int.neg_neg, decide_true]; done) | (simp only [hW, hb0, ha0, Int.zero_sub, uA, uB, q2, q3, q4, r3, r4, Int.neg_tdiv, Int.neg_tmod, Int.tdiv_neg, Int.tmod_neg, Int.neg_neg]; rw [decide_eq_true_eq]; done) | (simp only [hW, hb0, ha0, Int.zero_sub, uA, uB, q2, q3, q4, r3, r4, Int.neg_tdiv, Int.neg_tmod, Int.tdiv_neg, Int.tmod_neg, Int.neg_neg]; rw [decide_eq_true_eq]; omega) | (rw [decide_eq_true_eq]; omega))) ?_
  rfl

set_option maxHeartbeats 4000000 in
theorem ok4 (a b : Int) (ha : -2147483648 ≤ a ∧ a ≤ 2147483647) (hb : -2147483648 ≤ b ∧ b ≤ 2147483647) (h1 : b = 0) : tree4 a b = some (.bool true) := by
  have hb0 : IntKind.i64.wrap b = b := ip _ (by omega)
  unfold tree4
  refine ndT (decide_eq_true rfl) ?_
  refine ndT (decide_eq_true rfl) ?_
  refine ndT (decide_eq_true rfl) ?_
  refine ndT (decide_eq_true rfl) ?_
  refine ndT (decide_eq_true rfl) ?_
  refine ndT (decide_eq_true rfl) ?_
  refine ndT (decide_eq_true rfl) ?_
  refine ndT (decide_eq_true rfl) ?_
  refine ndT (decide_eq_true rfl) ?_
  refine ndF (neq_c rfl) ?_
  refine ndF (neq_c rfl) ?_
  refine ndT (decide_eq_true rfl) ?_
  refine ndT (decide_eq_true rfl) ?_
  refine ndT (decide_eq_true rfl) ?_
  refine ndT (decide_eq_true rfl) ?_
  refine ndT (decide_eq_true rfl) ?_
  refine ndT (decide_eq_true rfl) ?_
  refine ndT (decide_eq_true rfl) ?_
  refine ndT (decide_eq_true rfl) ?_
  refine ndT (decide_eq_true rfl) ?_
  refine ndF (neq_c rfl) ?_
  refine ndF (neq_c rfl) ?_
  refine ndT (decide_eq_true rfl) ?_
  refine ndT (decide_eq_true rfl) ?_
  refine ndT (decide_eq_true rfl) ?_
  refine ndT (decide_eq_true rfl) ?_
  refine ndT (decide_eq_true rfl) ?_
  refine ndF (and_c _) ?_
  refine ndF (neq_c rfl) ?_
  refine ndT (decide_eq_true rfl) ?_
  refine ndT (decide_eq_true rfl) ?_
  refine ndT (decide_eq_true rfl) ?_
  refine ndT (decide_eq_true rfl) ?_
  refine ndT (decide_eq_true rfl) ?_
  refine ndF (and_c _) ?_
  refine ndF (neq_c rfl) ?_
  refine ndT (decide_eq_true rfl) ?_
  refine ndT (decide_eq_true rfl) ?_
  refine ndT (decide_eq_true rfl) ?_
  refine ndT (decide_eq_true rfl) ?_
  refine ndT (decide_eq_true rfl) ?_
  refine ndF (and_c _) ?_
  refine ndF (neq_c rfl) ?_
  refine ndT (decide_eq_true rfl) ?_
  refine ndT (decide_eq_true rfl) ?_
  refine ndT (decide_eq_true rfl) ?_
  refine ndF (mul_c _ _ ha hb) ?_
  refine ndF (neq_c rfl) ?_
  refine ndT (decide_eq_true rfl) ?_
  refine ndT (decide_eq_true rfl) ?_
  refine ndT (decide_eq_true rfl) ?_
  refine ndT (decide_eq_true rfl) ?_
  refine ndF (cnt_c _) ?_
  refine ndF (shl_c _ _ ha) ?_
  refine ndT (decide_eq_true rfl) ?_
  refine ndT (decide_eq_true rfl) ?_
  refine ndT (decide_eq_true rfl) ?_
  refine ndT (decide_eq_true rfl) ?_
  refine ndF (cnt_c _) ?_
  refine ndF (sar_c _ _ ha) ?_
  refine ndT (decide_eq_true rfl) ?_
  refine ndT (decide_eq_true rfl) ?_
  refine ndT (decide_eq_true rfl) ?_
  refine ndT (decide_eq_true rfl) ?_
  refine ndF (cnt_c _) ?_
  refine ndF (shr_c _ _ ha) ?_
  refine ndT (decide_eq_true rfl) ?_
  refine ndT (decide_eq_true rfl) ?_
  refine ndT (decide_eq_true rfl) ?_
  refine ndT (decide_eq_true rfl) ?_
  refine ndT (decide_eq_true rfl) ?_
  refine ndT (decide_eq_true rfl) ?_
  refine ndT (decide_eq_true rfl) ?_
  refine ndT (decide_eq_true rfl) ?_
  refine ndT (decide_eq_true rfl) ?_
  refine ndT (decide_eq_true rfl) ?_
  refine ndT (decide_eq_true rfl) ?_
  refine ndT ((by first | (simp only [hb0, decide_true]; done) | (simp only [hb0]; rw [decide_eq_true_eq]; done) | (simp only [hb0]; rw [decide_eq_true_eq]; omega) | (rw [decide_eq_true_eq]; omega))) ?_
  refine ndT ((by first | (simp only [hb0, decide_true]; done) | (simp only [hb0]; rw [decide_eq_true_eq]; done) | (simp only [hb0]; rw [decide_eq_true_eq]; omega) | (rw [decide_eq_true_eq]; omega))) ?_
  refine ndT ((by first | (simp only [hb0, decide_true]; done) | (simp only [hb0]; rw [decide_eq_true_eq]; done) | (simp only [hb0]; rw [decide_eq_true_eq]; omega) | (rw [decide_eq_true_eq]; omega))) ?_
  rfl

end Go.Proofs.Ytpcocfdgcihpdaa.simReckons
