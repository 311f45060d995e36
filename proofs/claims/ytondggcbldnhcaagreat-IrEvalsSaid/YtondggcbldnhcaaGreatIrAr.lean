/-
  The three functions of arithmetic: what they answer; they make nothing.
-/
import Derived.Test.YtondggcbldnhcaaGreatIrSpec
import Derived.Test.YtondggcbldnhcaaGreatRows
import Derived.WalkKit
namespace Go.Proofs.YtondggcbldnhcaaGreat.irx
open Go Go.RowKit
open Go.Proofs.YtondggcbldnhcaaGreat
set_option linter.unusedVariables false
set_option linter.unusedSimpArgs false
theorem and31 (b : Int) : 0 ≤ bits BinOp.and IntKind.i32 b 31 := by
  unfold bits
  simp only []
  rw [IntKind.wrap_i32]
  have h : (BitVec.ofInt IntKind.i32.bits b &&& BitVec.ofInt IntKind.i32.bits 31).toNat ≤ 31 := by
    rw [BitVec.toNat_and]
    exact Nat.and_le_right
  omega
def two (op a b : Int) : Int × Int :=
  if op = 96 then (wrap32 (a + b), 0) else if op = 100 then (wrap32 (a - b), 0) else if op = 104 then (wrap32 (a * b), 0)
  else if op = 108 then (if wrap64 b = 0 then (0, 22) else (wrap32 (wrap64 ((wrap64 a).tdiv (wrap64 b))), 0))
  else if op = 112 then (if wrap64 b = 0 then (0, 22) else (wrap32 ((wrap64 a).tmod (wrap64 b)), 0))
  else if op = 120 then (wrap32 (a * 2 ^ min (bits BinOp.and IntKind.i32 b 31).toNat 32), 0)
  else if op = 122 then (a / 2 ^ min (bits BinOp.and IntKind.i32 b 31).toNat 32, 0)
  else if op = 124 then (wrap32 (a % 4294967296 / 2 ^ min (bits BinOp.and IntKind.i32 b 31).toNat 32), 0)
  else if op = 126 then (bits BinOp.and IntKind.i32 a b, 0) else if op = 128 then (bits BinOp.or IntKind.i32 a b, 0) else if op = 130 then (bits BinOp.xor IntKind.i32 a b, 0)
  else (0, 15)
def one (op a : Int) : Int × Int := if op = 116 then (wrap32 (-a), 0) else (0, 15)
def testB (k a b : Int) : Bool :=
  if k = 0 then (!decide (a < b) && !decide (b < a)) else if k = 1 then (decide (a < b) || decide (b < a)) else if k = 2 then decide (a < b) else if k = 3 then !decide (a < b) else if k = 4 then decide (b < a) else !decide (b < a)
def test (op a b : Int) : Bool × Int :=
  if 153 ≤ op ∧ op ≤ 158 then (testB (op - 153) a 0, 0) else if 159 ≤ op ∧ op ≤ 164 then (testB (op - 159) a b, 0) else (false, 15)
set_option maxHeartbeats 1600000 in
set_option maxRecDepth 1000000 in
theorem div27 (op a b : Int) (w : World) : Calls Tryz.prog 27 #[.int .i64 op, .int .i64 a, .int .i64 b] w fun e w' => e = .returned (.tuple #[.int .i32 (if b = 0 then 0 else if op = 112 then wrap32 (a.tmod b) else wrap32 (wrap64 (a.tdiv b))), .int .i64 (if b = 0 then 22 else 0)]) ∧ w' = w := by
  by_cases hb : b = 0
  · subst hb
    go_enter Tryz.func27, Tryz.ntmps27
    go_wp2
    go_ret2
    exact ⟨rfl, rfl⟩
  · by_cases ho : op = 112
    · subst ho
      go_enter Tryz.func27, Tryz.ntmps27
      go_wp2
      go_ret2
      exact ⟨by simp [hb], rfl⟩
    · go_enter Tryz.func27, Tryz.ntmps27
      go_wp2
      go_ret2
      exact ⟨by simp [hb, ho], rfl⟩
set_option maxHeartbeats 1600000 in
set_option maxRecDepth 1000000 in
theorem two13_96 (a b : Int) (w : World) : Calls Tryz.prog 13 #[.int .i64 96, .int .i32 a, .int .i32 b] w fun e w' => e = .returned (.tuple #[.int .i32 (two 96 a b).1, .int .i64 (two 96 a b).2]) ∧ w' = w := by
  have hsh := and31 b
  go_enter Tryz.func13, Tryz.ntmps13
  go_wp2_with fail
  go_ret2
  exact ⟨by simp [two], rfl⟩
set_option maxHeartbeats 1600000 in
set_option maxRecDepth 1000000 in
theorem two13_100 (a b : Int) (w : World) : Calls Tryz.prog 13 #[.int .i64 100, .int .i32 a, .int .i32 b] w fun e w' => e = .returned (.tuple #[.int .i32 (two 100 a b).1, .int .i64 (two 100 a b).2]) ∧ w' = w := by
  have hsh := and31 b
  go_enter Tryz.func13, Tryz.ntmps13
  go_wp2_with fail
  go_ret2
  exact ⟨by simp [two], rfl⟩
set_option maxHeartbeats 1600000 in
set_option maxRecDepth 1000000 in
theorem two13_104 (a b : Int) (w : World) : Calls Tryz.prog 13 #[.int .i64 104, .int .i32 a, .int .i32 b] w fun e w' => e = .returned (.tuple #[.int .i32 (two 104 a b).1, .int .i64 (two 104 a b).2]) ∧ w' = w := by
  have hsh := and31 b
  go_enter Tryz.func13, Tryz.ntmps13
  go_wp2_with fail
  go_ret2
  exact ⟨by simp [two], rfl⟩
set_option maxHeartbeats 1600000 in
set_option maxRecDepth 1000000 in
theorem two13_108 (a b : Int) (w : World) : Calls Tryz.prog 13 #[.int .i64 108, .int .i32 a, .int .i32 b] w fun e w' => e = .returned (.tuple #[.int .i32 (two 108 a b).1, .int .i64 (two 108 a b).2]) ∧ w' = w := by
  have hsh := and31 b
  by_cases hw : wrap64 b = 0
  · go_enter Tryz.func13, Tryz.ntmps13
    go_wp2_with (go_at_call 27; refine (div27 _ _ _ _).mono ?_; rintro e w1 ⟨rfl, rfl⟩)
    go_ret2
    exact ⟨by simp [two, hw], rfl⟩
  · go_enter Tryz.func13, Tryz.ntmps13
    go_wp2_with (go_at_call 27; refine (div27 _ _ _ _).mono ?_; rintro e w1 ⟨rfl, rfl⟩)
    go_ret2
    exact ⟨by simp [two, hw], rfl⟩
set_option maxHeartbeats 1600000 in
set_option maxRecDepth 1000000 in
theorem two13_112 (a b : Int) (w : World) : Calls Tryz.prog 13 #[.int .i64 112, .int .i32 a, .int .i32 b] w fun e w' => e = .returned (.tuple #[.int .i32 (two 112 a b).1, .int .i64 (two 112 a b).2]) ∧ w' = w := by
  have hsh := and31 b
  by_cases hw : wrap64 b = 0
  · go_enter Tryz.func13, Tryz.ntmps13
    go_wp2_with (go_at_call 27; refine (div27 _ _ _ _).mono ?_; rintro e w1 ⟨rfl, rfl⟩)
    go_ret2
    exact ⟨by simp [two, hw], rfl⟩
  · go_enter Tryz.func13, Tryz.ntmps13
    go_wp2_with (go_at_call 27; refine (div27 _ _ _ _).mono ?_; rintro e w1 ⟨rfl, rfl⟩)
    go_ret2
    exact ⟨by simp [two, hw], rfl⟩
set_option maxHeartbeats 1600000 in
set_option maxRecDepth 1000000 in
theorem two13_120 (a b : Int) (w : World) : Calls Tryz.prog 13 #[.int .i64 120, .int .i32 a, .int .i32 b] w fun e w' => e = .returned (.tuple #[.int .i32 (two 120 a b).1, .int .i64 (two 120 a b).2]) ∧ w' = w := by
  have hsh := and31 b
  go_enter Tryz.func13, Tryz.ntmps13
  go_wp2_with fail
  go_ret2
  exact ⟨by simp [two], rfl⟩
set_option maxHeartbeats 1600000 in
set_option maxRecDepth 1000000 in
theorem two13_122 (a b : Int) (w : World) : Calls Tryz.prog 13 #[.int .i64 122, .int .i32 a, .int .i32 b] w fun e w' => e = .returned (.tuple #[.int .i32 (two 122 a b).1, .int .i64 (two 122 a b).2]) ∧ w' = w := by
  have hsh := and31 b
  go_enter Tryz.func13, Tryz.ntmps13
  go_wp2_with fail
  go_ret2
  exact ⟨by simp [two], rfl⟩
set_option maxHeartbeats 1600000 in
set_option maxRecDepth 1000000 in
theorem two13_124 (a b : Int) (w : World) : Calls Tryz.prog 13 #[.int .i64 124, .int .i32 a, .int .i32 b] w fun e w' => e = .returned (.tuple #[.int .i32 (two 124 a b).1, .int .i64 (two 124 a b).2]) ∧ w' = w := by
  have hsh := and31 b
  go_enter Tryz.func13, Tryz.ntmps13
  go_wp2_with fail
  go_ret2
  exact ⟨by simp [two], rfl⟩
set_option maxHeartbeats 1600000 in
set_option maxRecDepth 1000000 in
theorem two13_126 (a b : Int) (w : World) : Calls Tryz.prog 13 #[.int .i64 126, .int .i32 a, .int .i32 b] w fun e w' => e = .returned (.tuple #[.int .i32 (two 126 a b).1, .int .i64 (two 126 a b).2]) ∧ w' = w := by
  have hsh := and31 b
  go_enter Tryz.func13, Tryz.ntmps13
  go_wp2_with fail
  go_ret2
  exact ⟨by simp [two], rfl⟩
set_option maxHeartbeats 1600000 in
set_option maxRecDepth 1000000 in
theorem two13_128 (a b : Int) (w : World) : Calls Tryz.prog 13 #[.int .i64 128, .int .i32 a, .int .i32 b] w fun e w' => e = .returned (.tuple #[.int .i32 (two 128 a b).1, .int .i64 (two 128 a b).2]) ∧ w' = w := by
  have hsh := and31 b
  go_enter Tryz.func13, Tryz.ntmps13
  go_wp2_with fail
  go_ret2
  exact ⟨by simp [two], rfl⟩
set_option maxHeartbeats 1600000 in
set_option maxRecDepth 1000000 in
theorem two13_130 (a b : Int) (w : World) : Calls Tryz.prog 13 #[.int .i64 130, .int .i32 a, .int .i32 b] w fun e w' => e = .returned (.tuple #[.int .i32 (two 130 a b).1, .int .i64 (two 130 a b).2]) ∧ w' = w := by
  have hsh := and31 b
  go_enter Tryz.func13, Tryz.ntmps13
  go_wp2_with fail
  go_ret2
  exact ⟨by simp [two], rfl⟩
set_option maxHeartbeats 1600000 in
set_option maxRecDepth 1000000 in
theorem two13_x (op a b : Int) (h96 : op ≠ 96) (h100 : op ≠ 100) (h104 : op ≠ 104) (h108 : op ≠ 108) (h112 : op ≠ 112) (h120 : op ≠ 120) (h122 : op ≠ 122) (h124 : op ≠ 124) (h126 : op ≠ 126) (h128 : op ≠ 128) (h130 : op ≠ 130) (w : World) : Calls Tryz.prog 13 #[.int .i64 op, .int .i32 a, .int .i32 b] w fun e w' => e = .returned (.tuple #[.int .i32 (two op a b).1, .int .i64 (two op a b).2]) ∧ w' = w := by
  go_enter Tryz.func13, Tryz.ntmps13
  go_wp2
  go_ret2
  exact ⟨by simp [two, h96, h100, h104, h108, h112, h120, h122, h124, h126, h128, h130], rfl⟩
theorem two13 (op a b : Int) (w : World) : Calls Tryz.prog 13 #[.int .i64 op, .int .i32 a, .int .i32 b] w fun e w' => e = .returned (.tuple #[.int .i32 (two op a b).1, .int .i64 (two op a b).2]) ∧ w' = w := by
  by_cases h96 : op = 96
  · subst h96; exact two13_96 a b w
  by_cases h100 : op = 100
  · subst h100; exact two13_100 a b w
  by_cases h104 : op = 104
  · subst h104; exact two13_104 a b w
  by_cases h108 : op = 108
  · subst h108; exact two13_108 a b w
  by_cases h112 : op = 112
  · subst h112; exact two13_112 a b w
  by_cases h120 : op = 120
  · subst h120; exact two13_120 a b w
  by_cases h122 : op = 122
  · subst h122; exact two13_122 a b w
  by_cases h124 : op = 124
  · subst h124; exact two13_124 a b w
  by_cases h126 : op = 126
  · subst h126; exact two13_126 a b w
  by_cases h128 : op = 128
  · subst h128; exact two13_128 a b w
  by_cases h130 : op = 130
  · subst h130; exact two13_130 a b w
  exact two13_x op a b h96 h100 h104 h108 h112 h120 h122 h124 h126 h128 h130 w
set_option maxHeartbeats 1600000 in
set_option maxRecDepth 1000000 in
theorem one14 (op a : Int) (w : World) : Calls Tryz.prog 14 #[.int .i64 op, .int .i32 a] w fun e w' => e = .returned (.tuple #[.int .i32 (one op a).1, .int .i64 (one op a).2]) ∧ w' = w := by
  by_cases ho : op = 116
  · subst ho
    go_enter Tryz.func14, Tryz.ntmps14
    go_wp2
    go_ret2
    exact ⟨by simp [one], rfl⟩
  · go_enter Tryz.func14, Tryz.ntmps14
    go_wp2
    go_ret2
    exact ⟨by simp [one, ho], rfl⟩
theorem idx0 (x0 x1 x2 x3 x4 x5 : Bool) (w : World) : (Instr.index 75 (.agg #[.bool x0, .bool x1, .bool x2, .bool x3, .bool x4, .bool x5]) (.int .i64 0)).run Tryz.prog w = .ok (.bool x0) w := by kernel_rfl
theorem idx1 (x0 x1 x2 x3 x4 x5 : Bool) (w : World) : (Instr.index 75 (.agg #[.bool x0, .bool x1, .bool x2, .bool x3, .bool x4, .bool x5]) (.int .i64 1)).run Tryz.prog w = .ok (.bool x1) w := by kernel_rfl
theorem idx2 (x0 x1 x2 x3 x4 x5 : Bool) (w : World) : (Instr.index 75 (.agg #[.bool x0, .bool x1, .bool x2, .bool x3, .bool x4, .bool x5]) (.int .i64 2)).run Tryz.prog w = .ok (.bool x2) w := by kernel_rfl
theorem idx3 (x0 x1 x2 x3 x4 x5 : Bool) (w : World) : (Instr.index 75 (.agg #[.bool x0, .bool x1, .bool x2, .bool x3, .bool x4, .bool x5]) (.int .i64 3)).run Tryz.prog w = .ok (.bool x3) w := by kernel_rfl
theorem idx4 (x0 x1 x2 x3 x4 x5 : Bool) (w : World) : (Instr.index 75 (.agg #[.bool x0, .bool x1, .bool x2, .bool x3, .bool x4, .bool x5]) (.int .i64 4)).run Tryz.prog w = .ok (.bool x4) w := by kernel_rfl
theorem idx5 (x0 x1 x2 x3 x4 x5 : Bool) (w : World) : (Instr.index 75 (.agg #[.bool x0, .bool x1, .bool x2, .bool x3, .bool x4, .bool x5]) (.int .i64 5)).run Tryz.prog w = .ok (.bool x5) w := by kernel_rfl
set_option maxHeartbeats 1600000 in
set_option maxRecDepth 1000000 in
theorem  test16_153 (a b : Int) (w : World) : Calls Tryz.prog 16 #[.int .i64 153, .int .i32 a, .int .i32 b] w fun e w' => e = .returned (.tuple #[.bool (test 153 a b).1, .int .i64 (test 153 a b).2]) ∧ w' = w := by
  have i0 := idx0
  have i1 := idx1
  have i2 := idx2
  have i3 := idx3
  have i4 := idx4
  have i5 := idx5
  go_enter Tryz.func16, Tryz.ntmps16
  go_wp2
  all_goals go_ret2
  all_goals exact ⟨by simp [test, testB, *], rfl⟩
set_option maxHeartbeats 1600000 in
set_option maxRecDepth 1000000 in
theorem  test16_154 (a b : Int) (w : World) : Calls Tryz.prog 16 #[.int .i64 154, .int .i32 a, .int .i32 b] w fun e w' => e = .returned (.tuple #[.bool (test 154 a b).1, .int .i64 (test 154 a b).2]) ∧ w' = w := by
  have i0 := idx0
  have i1 := idx1
  have i2 := idx2
  have i3 := idx3
  have i4 := idx4
  have i5 := idx5
  go_enter Tryz.func16, Tryz.ntmps16
  go_wp2
  all_goals go_ret2
  all_goals exact ⟨by simp [test, testB, *], rfl⟩
set_option maxHeartbeats 1600000 in
set_option maxRecDepth 1000000 in
theorem  test16_155 (a b : Int) (w : World) : Calls Tryz.prog 16 #[.int .i64 155, .int .i32 a, .int .i32 b] w fun e w' => e = .returned (.tuple #[.bool (test 155 a b).1, .int .i64 (test 155 a b).2]) ∧ w' = w := by
  have i0 := idx0
  have i1 := idx1
  have i2 := idx2
  have i3 := idx3
  have i4 := idx4
  have i5 := idx5
  go_enter Tryz.func16, Tryz.ntmps16
  go_wp2
  all_goals go_ret2
  all_goals exact ⟨by simp [test, testB, *], rfl⟩
set_option maxHeartbeats 1600000 in
set_option maxRecDepth 1000000 in
theorem  test16_156 (a b : Int) (w : World) : Calls Tryz.prog 16 #[.int .i64 156, .int .i32 a, .int .i32 b] w fun e w' => e = .returned (.tuple #[.bool (test 156 a b).1, .int .i64 (test 156 a b).2]) ∧ w' = w := by
  have i0 := idx0
  have i1 := idx1
  have i2 := idx2
  have i3 := idx3
  have i4 := idx4
  have i5 := idx5
  go_enter Tryz.func16, Tryz.ntmps16
  go_wp2
  all_goals go_ret2
  all_goals exact ⟨by simp [test, testB, *], rfl⟩
set_option maxHeartbeats 1600000 in
set_option maxRecDepth 1000000 in
theorem  test16_157 (a b : Int) (w : World) : Calls Tryz.prog 16 #[.int .i64 157, .int .i32 a, .int .i32 b] w fun e w' => e = .returned (.tuple #[.bool (test 157 a b).1, .int .i64 (test 157 a b).2]) ∧ w' = w := by
  have i0 := idx0
  have i1 := idx1
  have i2 := idx2
  have i3 := idx3
  have i4 := idx4
  have i5 := idx5
  go_enter Tryz.func16, Tryz.ntmps16
  go_wp2
  all_goals go_ret2
  all_goals exact ⟨by simp [test, testB, *], rfl⟩
set_option maxHeartbeats 1600000 in
set_option maxRecDepth 1000000 in
theorem  test16_158 (a b : Int) (w : World) : Calls Tryz.prog 16 #[.int .i64 158, .int .i32 a, .int .i32 b] w fun e w' => e = .returned (.tuple #[.bool (test 158 a b).1, .int .i64 (test 158 a b).2]) ∧ w' = w := by
  have i0 := idx0
  have i1 := idx1
  have i2 := idx2
  have i3 := idx3
  have i4 := idx4
  have i5 := idx5
  go_enter Tryz.func16, Tryz.ntmps16
  go_wp2
  all_goals go_ret2
  all_goals exact ⟨by simp [test, testB, *], rfl⟩
set_option maxHeartbeats 1600000 in
set_option maxRecDepth 1000000 in
theorem  test16_159 (a b : Int) (w : World) : Calls Tryz.prog 16 #[.int .i64 159, .int .i32 a, .int .i32 b] w fun e w' => e = .returned (.tuple #[.bool (test 159 a b).1, .int .i64 (test 159 a b).2]) ∧ w' = w := by
  have i0 := idx0
  have i1 := idx1
  have i2 := idx2
  have i3 := idx3
  have i4 := idx4
  have i5 := idx5
  go_enter Tryz.func16, Tryz.ntmps16
  go_wp2
  all_goals go_ret2
  all_goals exact ⟨by simp [test, testB, *], rfl⟩
set_option maxHeartbeats 1600000 in
set_option maxRecDepth 1000000 in
theorem  test16_160 (a b : Int) (w : World) : Calls Tryz.prog 16 #[.int .i64 160, .int .i32 a, .int .i32 b] w fun e w' => e = .returned (.tuple #[.bool (test 160 a b).1, .int .i64 (test 160 a b).2]) ∧ w' = w := by
  have i0 := idx0
  have i1 := idx1
  have i2 := idx2
  have i3 := idx3
  have i4 := idx4
  have i5 := idx5
  go_enter Tryz.func16, Tryz.ntmps16
  go_wp2
  all_goals go_ret2
  all_goals exact ⟨by simp [test, testB, *], rfl⟩
set_option maxHeartbeats 1600000 in
set_option maxRecDepth 1000000 in
theorem  test16_161 (a b : Int) (w : World) : Calls Tryz.prog 16 #[.int .i64 161, .int .i32 a, .int .i32 b] w fun e w' => e = .returned (.tuple #[.bool (test 161 a b).1, .int .i64 (test 161 a b).2]) ∧ w' = w := by
  have i0 := idx0
  have i1 := idx1
  have i2 := idx2
  have i3 := idx3
  have i4 := idx4
  have i5 := idx5
  go_enter Tryz.func16, Tryz.ntmps16
  go_wp2
  all_goals go_ret2
  all_goals exact ⟨by simp [test, testB, *], rfl⟩
set_option maxHeartbeats 1600000 in
set_option maxRecDepth 1000000 in
theorem  test16_162 (a b : Int) (w : World) : Calls Tryz.prog 16 #[.int .i64 162, .int .i32 a, .int .i32 b] w fun e w' => e = .returned (.tuple #[.bool (test 162 a b).1, .int .i64 (test 162 a b).2]) ∧ w' = w := by
  have i0 := idx0
  have i1 := idx1
  have i2 := idx2
  have i3 := idx3
  have i4 := idx4
  have i5 := idx5
  go_enter Tryz.func16, Tryz.ntmps16
  go_wp2
  all_goals go_ret2
  all_goals exact ⟨by simp [test, testB, *], rfl⟩
set_option maxHeartbeats 1600000 in
set_option maxRecDepth 1000000 in
theorem  test16_163 (a b : Int) (w : World) : Calls Tryz.prog 16 #[.int .i64 163, .int .i32 a, .int .i32 b] w fun e w' => e = .returned (.tuple #[.bool (test 163 a b).1, .int .i64 (test 163 a b).2]) ∧ w' = w := by
  have i0 := idx0
  have i1 := idx1
  have i2 := idx2
  have i3 := idx3
  have i4 := idx4
  have i5 := idx5
  go_enter Tryz.func16, Tryz.ntmps16
  go_wp2
  all_goals go_ret2
  all_goals exact ⟨by simp [test, testB, *], rfl⟩
set_option maxHeartbeats 1600000 in
set_option maxRecDepth 1000000 in
theorem  test16_164 (a b : Int) (w : World) : Calls Tryz.prog 16 #[.int .i64 164, .int .i32 a, .int .i32 b] w fun e w' => e = .returned (.tuple #[.bool (test 164 a b).1, .int .i64 (test 164 a b).2]) ∧ w' = w := by
  have i0 := idx0
  have i1 := idx1
  have i2 := idx2
  have i3 := idx3
  have i4 := idx4
  have i5 := idx5
  go_enter Tryz.func16, Tryz.ntmps16
  go_wp2
  all_goals go_ret2
  all_goals exact ⟨by simp [test, testB, *], rfl⟩
set_option maxHeartbeats 1600000 in
set_option maxRecDepth 1000000 in
theorem test16_x (op a b : Int) (h153 : op ≠ 153) (h154 : op ≠ 154) (h155 : op ≠ 155) (h156 : op ≠ 156) (h157 : op ≠ 157) (h158 : op ≠ 158) (h159 : op ≠ 159) (h160 : op ≠ 160) (h161 : op ≠ 161) (h162 : op ≠ 162) (h163 : op ≠ 163) (h164 : op ≠ 164) (w : World) : Calls Tryz.prog 16 #[.int .i64 op, .int .i32 a, .int .i32 b] w fun e w' => e = .returned (.tuple #[.bool (test op a b).1, .int .i64 (test op a b).2]) ∧ w' = w := by
  go_enter Tryz.func16, Tryz.ntmps16
  go_wp2
  go_ret2
  have e : test op a b = (false, 15) := by unfold test; rw [if_neg (by omega), if_neg (by omega)]
  exact ⟨by simp [e], rfl⟩
theorem test16 (op a b : Int) (w : World) : Calls Tryz.prog 16 #[.int .i64 op, .int .i32 a, .int .i32 b] w fun e w' => e = .returned (.tuple #[.bool (test op a b).1, .int .i64 (test op a b).2]) ∧ w' = w := by
  by_cases h153 : op = 153
  · subst h153; exact test16_153 a b w
  by_cases h154 : op = 154
  · subst h154; exact test16_154 a b w
  by_cases h155 : op = 155
  · subst h155; exact test16_155 a b w
  by_cases h156 : op = 156
  · subst h156; exact test16_156 a b w
  by_cases h157 : op = 157
  · subst h157; exact test16_157 a b w
  by_cases h158 : op = 158
  · subst h158; exact test16_158 a b w
  by_cases h159 : op = 159
  · subst h159; exact test16_159 a b w
  by_cases h160 : op = 160
  · subst h160; exact test16_160 a b w
  by_cases h161 : op = 161
  · subst h161; exact test16_161 a b w
  by_cases h162 : op = 162
  · subst h162; exact test16_162 a b w
  by_cases h163 : op = 163
  · subst h163; exact test16_163 a b w
  by_cases h164 : op = 164
  · subst h164; exact test16_164 a b w
  exact test16_x op a b h153 h154 h155 h156 h157 h158 h159 h160 h161 h162 h163 h164 w
end Go.Proofs.YtondggcbldnhcaaGreat.irx
