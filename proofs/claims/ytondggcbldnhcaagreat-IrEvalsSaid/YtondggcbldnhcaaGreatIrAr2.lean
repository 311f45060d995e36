/-
  caraferef12's Two, One, Test answer what arith's do.
-/
import Derived.Test.YtondggcbldnhcaaGreatIrAr
namespace Go.Proofs.YtondggcbldnhcaaGreat.irx
open Go Go.RowKit
open Go.Proofs.YtondggcbldnhcaaGreat
set_option linter.unusedVariables false
set_option linter.unusedSimpArgs false
/-- a number of 32 bits -/
def I32 (x : Int) : Prop := -2147483648 ≤ x ∧ x ≤ 2147483647
theorem wrap32_small {x : Int} (h : 0 ≤ x ∧ x < 32) : IntKind.i32.wrap x = x := by rw [IntKind.wrap_i32]; omega
theorem and31_i (b : Int) : bits BinOp.and IntKind.i32 b 31 = b % 32 := by
  unfold bits
  simp only []
  have h : (BitVec.ofInt IntKind.i32.bits b &&& BitVec.ofInt IntKind.i32.bits 31).toNat = (b % 32).toNat := by
    rw [BitVec.toNat_and]
    have e1 : (BitVec.ofInt IntKind.i32.bits 31).toNat = 2 ^ 5 - 1 := by decide
    rw [e1, Nat.and_two_pow_sub_one_eq_mod]
    have e2 : (BitVec.ofInt IntKind.i32.bits b).toNat = (b % 4294967296).toNat := by
      rw [BitVec.toNat_ofInt]; rfl
    rw [e2]
    omega
  rw [h]
  rw [wrap32_small] <;> omega
theorem and31_u (b : Int) : bits BinOp.and IntKind.u64 (IntKind.u64.wrap b) 31 = b % 32 := by
  unfold bits
  simp only []
  have h : (BitVec.ofInt IntKind.u64.bits (IntKind.u64.wrap b) &&& BitVec.ofInt IntKind.u64.bits 31).toNat = (b % 32).toNat := by
    rw [BitVec.toNat_and]
    have e1 : (BitVec.ofInt IntKind.u64.bits 31).toNat = 2 ^ 5 - 1 := by decide
    rw [e1, Nat.and_two_pow_sub_one_eq_mod]
    have e2 : (BitVec.ofInt IntKind.u64.bits (IntKind.u64.wrap b)).toNat = (IntKind.u64.wrap b % 18446744073709551616).toNat := by
      rw [BitVec.toNat_ofInt]; rfl
    rw [e2, IntKind.wrap_u64]
    omega
  rw [h, IntKind.wrap_u64]
  omega
theorem and32 (a : Int) : bits BinOp.and IntKind.i64 a 4294967295 = a % 4294967296 := by
  unfold bits
  simp only []
  have h : (BitVec.ofInt IntKind.i64.bits a &&& BitVec.ofInt IntKind.i64.bits 4294967295).toNat = (a % 4294967296).toNat := by
    rw [BitVec.toNat_and]
    have e1 : (BitVec.ofInt IntKind.i64.bits 4294967295).toNat = 2 ^ 32 - 1 := by decide
    rw [e1, Nat.and_two_pow_sub_one_eq_mod]
    have e2 : (BitVec.ofInt IntKind.i64.bits a).toNat = (a % 18446744073709551616).toNat := by
      rw [BitVec.toNat_ofInt]; rfl
    rw [e2]
    omega
  rw [h, IntKind.wrap_i64]
  omega
theorem w3264 (x : Int) : wrap32 (wrap64 x) = wrap32 x := by unfold wrap32 wrap64; omega
theorem shr_rng {a : Int} (h : -2147483648 ≤ a ∧ a ≤ 2147483647) (c : Nat) : wrap32 (a / 2 ^ c) = a / 2 ^ c := by
  have hp : (0 : Int) < 2 ^ c := Int.pow_pos (by decide)
  have h1 : a / 2 ^ c ≤ 2147483647 := by
    by_cases h0 : 0 ≤ a
    · exact Int.le_trans (Int.ediv_le_self _ h0) h.2
    · have := Int.ediv_neg_of_neg_of_pos (show a < 0 by omega) hp
      omega
  have h2 : -2147483648 ≤ a / 2 ^ c := by
    rw [Int.le_ediv_iff_mul_le hp]
    have : (1 : Int) ≤ 2 ^ c := hp
    have := Int.mul_le_mul_of_nonneg_left this (show (0 : Int) ≤ 2147483648 by decide)
    omega
  unfold wrap32; omega
theorem w64 {x : Int} (h : I32 x) : wrap64 x = x := by unfold I32 at h; unfold wrap64; omega

theorem wz0 : wrap64 0 = 0 := by unfold wrap64; omega
set_option maxHeartbeats 1600000 in
set_option maxRecDepth 1000000 in
theorem two17_96 (a b : Int) (ha : I32 a) (hb : I32 b) (w : World) : Calls Tryz.prog 17 #[.int .i64 96, .int .i32 a, .int .i32 b] w fun e w' => e = .returned (.tuple #[.int .i32 (two 96 a b).1, .int .i64 (two 96 a b).2]) ∧ w' = w := by
  have ha64 := w64 ha
  have hb64 := w64 hb
  go_enter Tryz.func17, Tryz.ntmps17
  go_wp2
  go_ret2
  refine ⟨?_, rfl⟩
  simp [two, ha64, hb64, w3264]
set_option maxHeartbeats 1600000 in
set_option maxRecDepth 1000000 in
theorem two17_100 (a b : Int) (ha : I32 a) (hb : I32 b) (w : World) : Calls Tryz.prog 17 #[.int .i64 100, .int .i32 a, .int .i32 b] w fun e w' => e = .returned (.tuple #[.int .i32 (two 100 a b).1, .int .i64 (two 100 a b).2]) ∧ w' = w := by
  have ha64 := w64 ha
  have hb64 := w64 hb
  go_enter Tryz.func17, Tryz.ntmps17
  go_wp2
  go_ret2
  refine ⟨?_, rfl⟩
  simp [two, ha64, hb64, w3264]
set_option maxHeartbeats 1600000 in
set_option maxRecDepth 1000000 in
theorem two17_104 (a b : Int) (ha : I32 a) (hb : I32 b) (w : World) : Calls Tryz.prog 17 #[.int .i64 104, .int .i32 a, .int .i32 b] w fun e w' => e = .returned (.tuple #[.int .i32 (two 104 a b).1, .int .i64 (two 104 a b).2]) ∧ w' = w := by
  have ha64 := w64 ha
  have hb64 := w64 hb
  go_enter Tryz.func17, Tryz.ntmps17
  go_wp2
  go_ret2
  refine ⟨?_, rfl⟩
  simp [two, ha64, hb64, w3264]
set_option maxHeartbeats 1600000 in
set_option maxRecDepth 1000000 in
theorem two17_108 (a b : Int) (ha : I32 a) (hb : I32 b) (w : World) : Calls Tryz.prog 17 #[.int .i64 108, .int .i32 a, .int .i32 b] w fun e w' => e = .returned (.tuple #[.int .i32 (two 108 a b).1, .int .i64 (two 108 a b).2]) ∧ w' = w := by
  have ha64 := w64 ha
  have hb64 := w64 hb
  by_cases h0 : b = 0
  · subst h0
    go_enter Tryz.func17, Tryz.ntmps17
    go_wp2
    go_ret2
    exact ⟨by simp [two, wz0], rfl⟩
  · have hb0 : wrap64 b ≠ 0 := by rw [hb64]; exact h0
    have hbe : (wrap64 b == 0) = false := by simpa using hb0
    go_enter Tryz.func17, Tryz.ntmps17
    go_wp2
    go_ret2
    exact ⟨by simp [two, ha64, hb64, h0, w3264], rfl⟩
set_option maxHeartbeats 1600000 in
set_option maxRecDepth 1000000 in
theorem two17_112 (a b : Int) (ha : I32 a) (hb : I32 b) (w : World) : Calls Tryz.prog 17 #[.int .i64 112, .int .i32 a, .int .i32 b] w fun e w' => e = .returned (.tuple #[.int .i32 (two 112 a b).1, .int .i64 (two 112 a b).2]) ∧ w' = w := by
  have ha64 := w64 ha
  have hb64 := w64 hb
  by_cases h0 : b = 0
  · subst h0
    go_enter Tryz.func17, Tryz.ntmps17
    go_wp2
    go_ret2
    exact ⟨by simp [two, wz0], rfl⟩
  · have hb0 : wrap64 b ≠ 0 := by rw [hb64]; exact h0
    have hbe : (wrap64 b == 0) = false := by simpa using hb0
    go_enter Tryz.func17, Tryz.ntmps17
    go_wp2
    go_ret2
    exact ⟨by simp [two, ha64, hb64, h0, w3264], rfl⟩
set_option maxHeartbeats 1600000 in
set_option maxRecDepth 1000000 in
theorem two17_120 (a b : Int) (ha : I32 a) (hb : I32 b) (w : World) : Calls Tryz.prog 17 #[.int .i64 120, .int .i32 a, .int .i32 b] w fun e w' => e = .returned (.tuple #[.int .i32 (two 120 a b).1, .int .i64 (two 120 a b).2]) ∧ w' = w := by
  have ha64 := w64 ha
  have hb64 := w64 hb
  have hsh : 0 ≤ bits BinOp.and IntKind.u64 (IntKind.u64.wrap b) 31 := by rw [and31_u]; omega
  have hcu := and31_u b
  have hci := and31_i b
  have hm64 : min (b % 32).toNat 64 = (b % 32).toNat := by omega
  have hm32 : min (b % 32).toNat 32 = (b % 32).toNat := by omega
  go_enter Tryz.func17, Tryz.ntmps17
  go_wp2
  go_ret2
  refine ⟨?_, rfl⟩
  simp [two, ha64, hb64, w3264, hcu, hci, hm64, hm32]
set_option maxHeartbeats 1600000 in
set_option maxRecDepth 1000000 in
theorem two17_122 (a b : Int) (ha : I32 a) (hb : I32 b) (w : World) : Calls Tryz.prog 17 #[.int .i64 122, .int .i32 a, .int .i32 b] w fun e w' => e = .returned (.tuple #[.int .i32 (two 122 a b).1, .int .i64 (two 122 a b).2]) ∧ w' = w := by
  have ha64 := w64 ha
  have hb64 := w64 hb
  have hsh : 0 ≤ bits BinOp.and IntKind.u64 (IntKind.u64.wrap b) 31 := by rw [and31_u]; omega
  have hcu := and31_u b
  have hci := and31_i b
  have hm64 : min (b % 32).toNat 64 = (b % 32).toNat := by omega
  have hm32 : min (b % 32).toNat 32 = (b % 32).toNat := by omega
  go_enter Tryz.func17, Tryz.ntmps17
  go_wp2
  go_ret2
  refine ⟨?_, rfl⟩
  simp [two, ha64, hb64, w3264, hcu, hci, hm64, hm32, shr_rng ha]
set_option maxHeartbeats 1600000 in
set_option maxRecDepth 1000000 in
theorem two17_124 (a b : Int) (ha : I32 a) (hb : I32 b) (w : World) : Calls Tryz.prog 17 #[.int .i64 124, .int .i32 a, .int .i32 b] w fun e w' => e = .returned (.tuple #[.int .i32 (two 124 a b).1, .int .i64 (two 124 a b).2]) ∧ w' = w := by
  have ha64 := w64 ha
  have hb64 := w64 hb
  have hsh : 0 ≤ bits BinOp.and IntKind.u64 (IntKind.u64.wrap b) 31 := by rw [and31_u]; omega
  have hcu := and31_u b
  have hci := and31_i b
  have hm64 : min (b % 32).toNat 64 = (b % 32).toNat := by omega
  have hm32 : min (b % 32).toNat 32 = (b % 32).toNat := by omega
  have h32 := and32 a
  go_enter Tryz.func17, Tryz.ntmps17
  go_wp2
  go_ret2
  refine ⟨?_, rfl⟩
  simp [two, ha64, hb64, w3264, hcu, hci, hm64, hm32, h32]
set_option maxHeartbeats 1600000 in
set_option maxRecDepth 1000000 in
theorem two17_126 (a b : Int) (ha : I32 a) (hb : I32 b) (w : World) : Calls Tryz.prog 17 #[.int .i64 126, .int .i32 a, .int .i32 b] w fun e w' => e = .returned (.tuple #[.int .i32 (two 126 a b).1, .int .i64 (two 126 a b).2]) ∧ w' = w := by
  have ha64 := w64 ha
  have hb64 := w64 hb
  go_enter Tryz.func17, Tryz.ntmps17
  go_wp2
  go_ret2
  refine ⟨?_, rfl⟩
  simp [two]
set_option maxHeartbeats 1600000 in
set_option maxRecDepth 1000000 in
theorem two17_128 (a b : Int) (ha : I32 a) (hb : I32 b) (w : World) : Calls Tryz.prog 17 #[.int .i64 128, .int .i32 a, .int .i32 b] w fun e w' => e = .returned (.tuple #[.int .i32 (two 128 a b).1, .int .i64 (two 128 a b).2]) ∧ w' = w := by
  have ha64 := w64 ha
  have hb64 := w64 hb
  go_enter Tryz.func17, Tryz.ntmps17
  go_wp2
  go_ret2
  refine ⟨?_, rfl⟩
  simp [two]
set_option maxHeartbeats 1600000 in
set_option maxRecDepth 1000000 in
theorem two17_130 (a b : Int) (ha : I32 a) (hb : I32 b) (w : World) : Calls Tryz.prog 17 #[.int .i64 130, .int .i32 a, .int .i32 b] w fun e w' => e = .returned (.tuple #[.int .i32 (two 130 a b).1, .int .i64 (two 130 a b).2]) ∧ w' = w := by
  have ha64 := w64 ha
  have hb64 := w64 hb
  go_enter Tryz.func17, Tryz.ntmps17
  go_wp2
  go_ret2
  refine ⟨?_, rfl⟩
  simp [two]
set_option maxHeartbeats 1600000 in
set_option maxRecDepth 1000000 in
theorem two17_x (op a b : Int) (h96 : op ≠ 96) (h100 : op ≠ 100) (h104 : op ≠ 104) (h108 : op ≠ 108) (h112 : op ≠ 112) (h120 : op ≠ 120) (h122 : op ≠ 122) (h124 : op ≠ 124) (h126 : op ≠ 126) (h128 : op ≠ 128) (h130 : op ≠ 130) (w : World) : Calls Tryz.prog 17 #[.int .i64 op, .int .i32 a, .int .i32 b] w fun e w' => e = .returned (.tuple #[.int .i32 (two op a b).1, .int .i64 (two op a b).2]) ∧ w' = w := by
  go_enter Tryz.func17, Tryz.ntmps17
  go_wp2
  go_ret2
  exact ⟨by simp [two, h96, h100, h104, h108, h112, h120, h122, h124, h126, h128, h130], rfl⟩
theorem two17 (op a b : Int) (ha : I32 a) (hb : I32 b) (w : World) : Calls Tryz.prog 17 #[.int .i64 op, .int .i32 a, .int .i32 b] w fun e w' => e = .returned (.tuple #[.int .i32 (two op a b).1, .int .i64 (two op a b).2]) ∧ w' = w := by
  by_cases h96 : op = 96
  · subst h96; exact two17_96 a b ha hb w
  by_cases h100 : op = 100
  · subst h100; exact two17_100 a b ha hb w
  by_cases h104 : op = 104
  · subst h104; exact two17_104 a b ha hb w
  by_cases h108 : op = 108
  · subst h108; exact two17_108 a b ha hb w
  by_cases h112 : op = 112
  · subst h112; exact two17_112 a b ha hb w
  by_cases h120 : op = 120
  · subst h120; exact two17_120 a b ha hb w
  by_cases h122 : op = 122
  · subst h122; exact two17_122 a b ha hb w
  by_cases h124 : op = 124
  · subst h124; exact two17_124 a b ha hb w
  by_cases h126 : op = 126
  · subst h126; exact two17_126 a b ha hb w
  by_cases h128 : op = 128
  · subst h128; exact two17_128 a b ha hb w
  by_cases h130 : op = 130
  · subst h130; exact two17_130 a b ha hb w
  exact two17_x op a b h96 h100 h104 h108 h112 h120 h122 h124 h126 h128 h130 w
set_option maxHeartbeats 1600000 in
set_option maxRecDepth 1000000 in
theorem one18 (op a : Int) (ha : I32 a) (w : World) : Calls Tryz.prog 18 #[.int .i64 op, .int .i32 a] w fun e w' => e = .returned (.tuple #[.int .i32 (one op a).1, .int .i64 (one op a).2]) ∧ w' = w := by
  have ha64 := w64 ha
  by_cases ho : op = 116
  · subst ho
    go_enter Tryz.func18, Tryz.ntmps18
    go_wp2
    go_ret2
    refine ⟨?_, rfl⟩
    simp [one, ha64, w3264]
  · go_enter Tryz.func18, Tryz.ntmps18
    go_wp2
    go_ret2
    exact ⟨by simp [one, ho], rfl⟩
set_option maxHeartbeats 1600000 in
set_option maxRecDepth 1000000 in
theorem test20_153 (a b : Int) (w : World) : Calls Tryz.prog 20 #[.int .i64 153, .int .i32 a, .int .i32 b] w fun e w' => e = .returned (.tuple #[.bool (test 153 a b).1, .int .i64 (test 153 a b).2]) ∧ w' = w := by
  go_enter Tryz.func20, Tryz.ntmps20
  go_wp2
  go_ret2
  refine ⟨?_, rfl⟩
  by_cases h1 : a < 0
  · have h2 : ¬ 0 < a := by omega
    have h3 : ¬ a = 0 := by omega
    simp [test, testB, h1, h2, h3]
    try omega
  · by_cases h2 : 0 < a
    · have h3 : ¬ a = 0 := by omega
      simp [test, testB, h1, h2, h3]
      try omega
    · have h3 : a = 0 := by omega
      simp [test, testB, h3]
set_option maxHeartbeats 1600000 in
set_option maxRecDepth 1000000 in
theorem test20_154 (a b : Int) (w : World) : Calls Tryz.prog 20 #[.int .i64 154, .int .i32 a, .int .i32 b] w fun e w' => e = .returned (.tuple #[.bool (test 154 a b).1, .int .i64 (test 154 a b).2]) ∧ w' = w := by
  go_enter Tryz.func20, Tryz.ntmps20
  go_wp2
  go_ret2
  refine ⟨?_, rfl⟩
  by_cases h1 : a < 0
  · have h2 : ¬ 0 < a := by omega
    have h3 : ¬ a = 0 := by omega
    simp [test, testB, h1, h2, h3]
    try omega
  · by_cases h2 : 0 < a
    · have h3 : ¬ a = 0 := by omega
      simp [test, testB, h1, h2, h3]
      try omega
    · have h3 : a = 0 := by omega
      simp [test, testB, h3]
set_option maxHeartbeats 1600000 in
set_option maxRecDepth 1000000 in
theorem test20_155 (a b : Int) (w : World) : Calls Tryz.prog 20 #[.int .i64 155, .int .i32 a, .int .i32 b] w fun e w' => e = .returned (.tuple #[.bool (test 155 a b).1, .int .i64 (test 155 a b).2]) ∧ w' = w := by
  go_enter Tryz.func20, Tryz.ntmps20
  go_wp2
  go_ret2
  refine ⟨?_, rfl⟩
  by_cases h1 : a < 0
  · have h2 : ¬ 0 < a := by omega
    have h3 : ¬ a = 0 := by omega
    simp [test, testB, h1, h2, h3]
    try omega
  · by_cases h2 : 0 < a
    · have h3 : ¬ a = 0 := by omega
      simp [test, testB, h1, h2, h3]
      try omega
    · have h3 : a = 0 := by omega
      simp [test, testB, h3]
set_option maxHeartbeats 1600000 in
set_option maxRecDepth 1000000 in
theorem test20_156 (a b : Int) (w : World) : Calls Tryz.prog 20 #[.int .i64 156, .int .i32 a, .int .i32 b] w fun e w' => e = .returned (.tuple #[.bool (test 156 a b).1, .int .i64 (test 156 a b).2]) ∧ w' = w := by
  go_enter Tryz.func20, Tryz.ntmps20
  go_wp2
  go_ret2
  refine ⟨?_, rfl⟩
  by_cases h1 : a < 0
  · have h2 : ¬ 0 < a := by omega
    have h3 : ¬ a = 0 := by omega
    simp [test, testB, h1, h2, h3]
    try omega
  · by_cases h2 : 0 < a
    · have h3 : ¬ a = 0 := by omega
      simp [test, testB, h1, h2, h3]
      try omega
    · have h3 : a = 0 := by omega
      simp [test, testB, h3]
set_option maxHeartbeats 1600000 in
set_option maxRecDepth 1000000 in
theorem test20_157 (a b : Int) (w : World) : Calls Tryz.prog 20 #[.int .i64 157, .int .i32 a, .int .i32 b] w fun e w' => e = .returned (.tuple #[.bool (test 157 a b).1, .int .i64 (test 157 a b).2]) ∧ w' = w := by
  go_enter Tryz.func20, Tryz.ntmps20
  go_wp2
  go_ret2
  refine ⟨?_, rfl⟩
  by_cases h1 : a < 0
  · have h2 : ¬ 0 < a := by omega
    have h3 : ¬ a = 0 := by omega
    simp [test, testB, h1, h2, h3]
    try omega
  · by_cases h2 : 0 < a
    · have h3 : ¬ a = 0 := by omega
      simp [test, testB, h1, h2, h3]
      try omega
    · have h3 : a = 0 := by omega
      simp [test, testB, h3]
set_option maxHeartbeats 1600000 in
set_option maxRecDepth 1000000 in
theorem test20_158 (a b : Int) (w : World) : Calls Tryz.prog 20 #[.int .i64 158, .int .i32 a, .int .i32 b] w fun e w' => e = .returned (.tuple #[.bool (test 158 a b).1, .int .i64 (test 158 a b).2]) ∧ w' = w := by
  go_enter Tryz.func20, Tryz.ntmps20
  go_wp2
  go_ret2
  refine ⟨?_, rfl⟩
  by_cases h1 : a < 0
  · have h2 : ¬ 0 < a := by omega
    have h3 : ¬ a = 0 := by omega
    simp [test, testB, h1, h2, h3]
    try omega
  · by_cases h2 : 0 < a
    · have h3 : ¬ a = 0 := by omega
      simp [test, testB, h1, h2, h3]
      try omega
    · have h3 : a = 0 := by omega
      simp [test, testB, h3]
set_option maxHeartbeats 1600000 in
set_option maxRecDepth 1000000 in
theorem test20_159 (a b : Int) (w : World) : Calls Tryz.prog 20 #[.int .i64 159, .int .i32 a, .int .i32 b] w fun e w' => e = .returned (.tuple #[.bool (test 159 a b).1, .int .i64 (test 159 a b).2]) ∧ w' = w := by
  go_enter Tryz.func20, Tryz.ntmps20
  go_wp2
  go_ret2
  refine ⟨?_, rfl⟩
  by_cases h1 : a < b
  · have h2 : ¬ b < a := by omega
    have h3 : ¬ a = b := by omega
    simp [test, testB, h1, h2, h3]
    try omega
  · by_cases h2 : b < a
    · have h3 : ¬ a = b := by omega
      simp [test, testB, h1, h2, h3]
      try omega
    · have h3 : a = b := by omega
      simp [test, testB, h3]
set_option maxHeartbeats 1600000 in
set_option maxRecDepth 1000000 in
theorem test20_160 (a b : Int) (w : World) : Calls Tryz.prog 20 #[.int .i64 160, .int .i32 a, .int .i32 b] w fun e w' => e = .returned (.tuple #[.bool (test 160 a b).1, .int .i64 (test 160 a b).2]) ∧ w' = w := by
  go_enter Tryz.func20, Tryz.ntmps20
  go_wp2
  go_ret2
  refine ⟨?_, rfl⟩
  by_cases h1 : a < b
  · have h2 : ¬ b < a := by omega
    have h3 : ¬ a = b := by omega
    simp [test, testB, h1, h2, h3]
    try omega
  · by_cases h2 : b < a
    · have h3 : ¬ a = b := by omega
      simp [test, testB, h1, h2, h3]
      try omega
    · have h3 : a = b := by omega
      simp [test, testB, h3]
set_option maxHeartbeats 1600000 in
set_option maxRecDepth 1000000 in
theorem test20_161 (a b : Int) (w : World) : Calls Tryz.prog 20 #[.int .i64 161, .int .i32 a, .int .i32 b] w fun e w' => e = .returned (.tuple #[.bool (test 161 a b).1, .int .i64 (test 161 a b).2]) ∧ w' = w := by
  go_enter Tryz.func20, Tryz.ntmps20
  go_wp2
  go_ret2
  refine ⟨?_, rfl⟩
  by_cases h1 : a < b
  · have h2 : ¬ b < a := by omega
    have h3 : ¬ a = b := by omega
    simp [test, testB, h1, h2, h3]
    try omega
  · by_cases h2 : b < a
    · have h3 : ¬ a = b := by omega
      simp [test, testB, h1, h2, h3]
      try omega
    · have h3 : a = b := by omega
      simp [test, testB, h3]
set_option maxHeartbeats 1600000 in
set_option maxRecDepth 1000000 in
theorem test20_162 (a b : Int) (w : World) : Calls Tryz.prog 20 #[.int .i64 162, .int .i32 a, .int .i32 b] w fun e w' => e = .returned (.tuple #[.bool (test 162 a b).1, .int .i64 (test 162 a b).2]) ∧ w' = w := by
  go_enter Tryz.func20, Tryz.ntmps20
  go_wp2
  go_ret2
  refine ⟨?_, rfl⟩
  by_cases h1 : a < b
  · have h2 : ¬ b < a := by omega
    have h3 : ¬ a = b := by omega
    simp [test, testB, h1, h2, h3]
    try omega
  · by_cases h2 : b < a
    · have h3 : ¬ a = b := by omega
      simp [test, testB, h1, h2, h3]
      try omega
    · have h3 : a = b := by omega
      simp [test, testB, h3]
set_option maxHeartbeats 1600000 in
set_option maxRecDepth 1000000 in
theorem test20_163 (a b : Int) (w : World) : Calls Tryz.prog 20 #[.int .i64 163, .int .i32 a, .int .i32 b] w fun e w' => e = .returned (.tuple #[.bool (test 163 a b).1, .int .i64 (test 163 a b).2]) ∧ w' = w := by
  go_enter Tryz.func20, Tryz.ntmps20
  go_wp2
  go_ret2
  refine ⟨?_, rfl⟩
  by_cases h1 : a < b
  · have h2 : ¬ b < a := by omega
    have h3 : ¬ a = b := by omega
    simp [test, testB, h1, h2, h3]
    try omega
  · by_cases h2 : b < a
    · have h3 : ¬ a = b := by omega
      simp [test, testB, h1, h2, h3]
      try omega
    · have h3 : a = b := by omega
      simp [test, testB, h3]
set_option maxHeartbeats 1600000 in
set_option maxRecDepth 1000000 in
theorem test20_164 (a b : Int) (w : World) : Calls Tryz.prog 20 #[.int .i64 164, .int .i32 a, .int .i32 b] w fun e w' => e = .returned (.tuple #[.bool (test 164 a b).1, .int .i64 (test 164 a b).2]) ∧ w' = w := by
  go_enter Tryz.func20, Tryz.ntmps20
  go_wp2
  go_ret2
  refine ⟨?_, rfl⟩
  by_cases h1 : a < b
  · have h2 : ¬ b < a := by omega
    have h3 : ¬ a = b := by omega
    simp [test, testB, h1, h2, h3]
    try omega
  · by_cases h2 : b < a
    · have h3 : ¬ a = b := by omega
      simp [test, testB, h1, h2, h3]
      try omega
    · have h3 : a = b := by omega
      simp [test, testB, h3]
set_option maxHeartbeats 1600000 in
set_option maxRecDepth 1000000 in
theorem test20_lo (op a b : Int) (h : op < 153) (w : World) : Calls Tryz.prog 20 #[.int .i64 op, .int .i32 a, .int .i32 b] w fun e w' => e = .returned (.tuple #[.bool (test op a b).1, .int .i64 (test op a b).2]) ∧ w' = w := by
  have e : test op a b = (false, 15) := by unfold test; rw [if_neg (by omega), if_neg (by omega)]
  have q159 : op ≠ 159 := by omega
  have q160 : op ≠ 160 := by omega
  have q161 : op ≠ 161 := by omega
  have q162 : op ≠ 162 := by omega
  have q163 : op ≠ 163 := by omega
  have q164 : op ≠ 164 := by omega
  go_enter Tryz.func20, Tryz.ntmps20
  go_wp2
  go_ret2
  exact ⟨by simp [e], rfl⟩
set_option maxHeartbeats 1600000 in
set_option maxRecDepth 1000000 in
theorem test20_hi (op a b : Int) (h : 164 < op) (w : World) : Calls Tryz.prog 20 #[.int .i64 op, .int .i32 a, .int .i32 b] w fun e w' => e = .returned (.tuple #[.bool (test op a b).1, .int .i64 (test op a b).2]) ∧ w' = w := by
  have e : test op a b = (false, 15) := by unfold test; rw [if_neg (by omega), if_neg (by omega)]
  have h1 : (153 : Int) ≤ op := by omega
  have h2 : ¬ op ≤ (158 : Int) := by omega
  have q159 : op ≠ 159 := by omega
  have q160 : op ≠ 160 := by omega
  have q161 : op ≠ 161 := by omega
  have q162 : op ≠ 162 := by omega
  have q163 : op ≠ 163 := by omega
  have q164 : op ≠ 164 := by omega
  go_enter Tryz.func20, Tryz.ntmps20
  go_wp2
  go_ret2
  exact ⟨by simp [e], rfl⟩
theorem test20 (op a b : Int) (w : World) : Calls Tryz.prog 20 #[.int .i64 op, .int .i32 a, .int .i32 b] w fun e w' => e = .returned (.tuple #[.bool (test op a b).1, .int .i64 (test op a b).2]) ∧ w' = w := by
  by_cases h153 : op = 153
  · subst h153; exact test20_153 a b w
  by_cases h154 : op = 154
  · subst h154; exact test20_154 a b w
  by_cases h155 : op = 155
  · subst h155; exact test20_155 a b w
  by_cases h156 : op = 156
  · subst h156; exact test20_156 a b w
  by_cases h157 : op = 157
  · subst h157; exact test20_157 a b w
  by_cases h158 : op = 158
  · subst h158; exact test20_158 a b w
  by_cases h159 : op = 159
  · subst h159; exact test20_159 a b w
  by_cases h160 : op = 160
  · subst h160; exact test20_160 a b w
  by_cases h161 : op = 161
  · subst h161; exact test20_161 a b w
  by_cases h162 : op = 162
  · subst h162; exact test20_162 a b w
  by_cases h163 : op = 163
  · subst h163; exact test20_163 a b w
  by_cases h164 : op = 164
  · subst h164; exact test20_164 a b w
  by_cases h : op < 153
  · exact test20_lo op a b h w
  · exact test20_hi op a b (by omega) w
/-- a test that looks at its second number -/
def second (n : Int) : Bool := decide (159 ≤ n) && decide (n ≤ 164)
set_option maxRecDepth 1000000 in
theorem second19 (n : Int) (w : World) : Calls Tryz.prog 19 #[.int .i32 n] w fun e w' => e = .returned (.bool (second n)) ∧ w' = w := by
  go_enter Tryz.func19, Tryz.ntmps19
  go_wp2
  all_goals go_ret
  all_goals exact ⟨by simp_all [second] <;> omega, rfl⟩
end Go.Proofs.YtondggcbldnhcaaGreat.irx
