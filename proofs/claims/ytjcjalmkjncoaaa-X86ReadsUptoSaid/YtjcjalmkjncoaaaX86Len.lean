/-
  THE TREES of caraferef19.Encode without what is plain.
-/
import Derived.Test.YtjcjalmkjncoaaaX86Beg2
import Derived.Test.YtjcjalmkjncoaaaEngWB
namespace Go.Proofs.Ytjcjalmkjncoaaa.x86enc
open Go Go.RowKit
open Go.Proofs.Ytjcjalmkjncoaaa
set_option maxRecDepth 1000000
set_option linter.unusedVariables false
set_option linter.unusedSimpArgs false
def u1 (a b n : Int) : Option (Int × List Int) :=
  (Eng.nd (decide (0 ≤ a)) (Eng.nd (decide (a ≤ 15)) (Eng.nd (!decide (a = 4)) (Eng.nd (!!decide (a = 5)) (some ((Int.ofNat 1, []))) (Eng.nd (!decide (b = 0)) (some ((Int.ofNat 1, []))) (Eng.nd (decide (7 < a)) (some ((Int.ofNat 0, [Int.ofNat 65, Go.IntKind.u8.wrap (Go.IntKind.i64.wrap (184 + a.tmod 8)), Go.IntKind.u8.wrap n, Go.IntKind.u8.wrap (n.fdiv (2 ^ min (Int.toNat 8) Go.IntKind.i32.bits)), Go.IntKind.u8.wrap (n.fdiv (2 ^ min (Int.toNat 16) Go.IntKind.i32.bits)), Go.IntKind.u8.wrap (n.fdiv (2 ^ min (Int.toNat 24) Go.IntKind.i32.bits))]))) (some ((Int.ofNat 0, [Go.IntKind.u8.wrap (Go.IntKind.i64.wrap (184 + a.tmod 8)), Go.IntKind.u8.wrap n, Go.IntKind.u8.wrap (n.fdiv (2 ^ min (Int.toNat 8) Go.IntKind.i32.bits)), Go.IntKind.u8.wrap (n.fdiv (2 ^ min (Int.toNat 16) Go.IntKind.i32.bits)), Go.IntKind.u8.wrap (n.fdiv (2 ^ min (Int.toNat 24) Go.IntKind.i32.bits))])))))) (some ((Int.ofNat 1, [])))) (some ((Int.ofNat 1, [])))) (some ((Int.ofNat 1, []))))
theorem u1_eq (a b n : Int) : t13_1 a b n = u1 a b n := by
  unfold t13_1 u1
  try simp only [decide_true, Eng.nd_true]
def u2 (a b n : Int) : Option (Int × List Int) :=
  (Eng.nd (decide (0 ≤ a)) (Eng.nd (decide (a ≤ 15)) (Eng.nd (!decide (a = 4)) (Eng.nd (!!decide (a = 5)) (some ((Int.ofNat 1, []))) (Eng.nd (decide (0 ≤ b)) (Eng.nd (decide (b ≤ 15)) (Eng.nd (!decide (b = 4)) (Eng.nd (!!decide (b = 5)) (some ((Int.ofNat 1, []))) (Eng.nd (!decide (n = 0)) (some ((Int.ofNat 1, []))) (Eng.nd (decide (7 < b)) (Eng.nd (decide (7 < a)) (some ((Int.ofNat 0, [Int.ofNat (Nat.succ 68), Int.ofNat 137, Go.IntKind.u8.wrap (Go.IntKind.i64.wrap ↑(BitVec.ofInt Go.IntKind.i64.bits (Go.IntKind.i64.wrap ↑(BitVec.ofInt Go.IntKind.i64.bits 192 ||| BitVec.ofInt Go.IntKind.i64.bits (Go.IntKind.i64.wrap (b.tmod 8 * 2 ^ min (Int.toNat 3) Go.IntKind.i64.bits))).toNat) ||| BitVec.ofInt Go.IntKind.i64.bits (a.tmod 8)).toNat)]))) (some ((Int.ofNat 0, [Int.ofNat (Nat.succ 67), Int.ofNat 137, Go.IntKind.u8.wrap (Go.IntKind.i64.wrap ↑(BitVec.ofInt Go.IntKind.i64.bits (Go.IntKind.i64.wrap ↑(BitVec.ofInt Go.IntKind.i64.bits 192 ||| BitVec.ofInt Go.IntKind.i64.bits (Go.IntKind.i64.wrap (b.tmod 8 * 2 ^ min (Int.toNat 3) Go.IntKind.i64.bits))).toNat) ||| BitVec.ofInt Go.IntKind.i64.bits (a.tmod 8)).toNat)])))) (Eng.nd (decide (7 < a)) (some ((Int.ofNat 0, [Int.ofNat (Nat.succ 64), Int.ofNat 137, Go.IntKind.u8.wrap (Go.IntKind.i64.wrap ↑(BitVec.ofInt Go.IntKind.i64.bits (Go.IntKind.i64.wrap ↑(BitVec.ofInt Go.IntKind.i64.bits 192 ||| BitVec.ofInt Go.IntKind.i64.bits (Go.IntKind.i64.wrap (b.tmod 8 * 2 ^ min (Int.toNat 3) Go.IntKind.i64.bits))).toNat) ||| BitVec.ofInt Go.IntKind.i64.bits (a.tmod 8)).toNat)]))) (some ((Int.ofNat 0, [Int.ofNat 137, Go.IntKind.u8.wrap (Go.IntKind.i64.wrap ↑(BitVec.ofInt Go.IntKind.i64.bits (Go.IntKind.i64.wrap ↑(BitVec.ofInt Go.IntKind.i64.bits 192 ||| BitVec.ofInt Go.IntKind.i64.bits (Go.IntKind.i64.wrap (b.tmod 8 * 2 ^ min (Int.toNat 3) Go.IntKind.i64.bits))).toNat) ||| BitVec.ofInt Go.IntKind.i64.bits (a.tmod 8)).toNat)]))))))) (some ((Int.ofNat 1, [])))) (some ((Int.ofNat 1, [])))) (some ((Int.ofNat 1, []))))) (some ((Int.ofNat 1, [])))) (some ((Int.ofNat 1, [])))) (some ((Int.ofNat 1, []))))
theorem u2_eq (a b n : Int) : t13_2 a b n = u2 a b n := by
  unfold t13_2 u2
  try simp only [decide_true, Eng.nd_true]
def u3 (a b n : Int) : Option (Int × List Int) :=
  (Eng.nd (decide (0 ≤ a)) (Eng.nd (decide (a ≤ 15)) (Eng.nd (!decide (a = 4)) (Eng.nd (!!decide (a = 5)) (some ((Int.ofNat 1, []))) (Eng.nd (!decide (b = 0)) (some ((Int.ofNat 1, []))) (Eng.nd (decide (7 < a)) (some ((Int.ofNat 0, [Int.ofNat (Nat.succ 67), Int.ofNat 139, Go.IntKind.u8.wrap (Go.IntKind.i64.wrap ↑(BitVec.ofInt Go.IntKind.i64.bits (Go.IntKind.i64.wrap ↑(BitVec.ofInt Go.IntKind.i64.bits 128 ||| BitVec.ofInt Go.IntKind.i64.bits (Go.IntKind.i64.wrap (a.tmod 8 * 2 ^ min (Int.toNat 3) Go.IntKind.i64.bits))).toNat) ||| BitVec.ofInt Go.IntKind.i64.bits (Int.ofNat (Nat.succ 4))).toNat), Go.IntKind.u8.wrap n, Go.IntKind.u8.wrap (n.fdiv (2 ^ min (Int.toNat 8) Go.IntKind.i32.bits)), Go.IntKind.u8.wrap (n.fdiv (2 ^ min (Int.toNat 16) Go.IntKind.i32.bits)), Go.IntKind.u8.wrap (n.fdiv (2 ^ min (Int.toNat 24) Go.IntKind.i32.bits))]))) (some ((Int.ofNat 0, [Int.ofNat 139, Go.IntKind.u8.wrap (Go.IntKind.i64.wrap ↑(BitVec.ofInt Go.IntKind.i64.bits (Go.IntKind.i64.wrap ↑(BitVec.ofInt Go.IntKind.i64.bits 128 ||| BitVec.ofInt Go.IntKind.i64.bits (Go.IntKind.i64.wrap (a.tmod 8 * 2 ^ min (Int.toNat 3) Go.IntKind.i64.bits))).toNat) ||| BitVec.ofInt Go.IntKind.i64.bits (Int.ofNat (Nat.succ 4))).toNat), Go.IntKind.u8.wrap n, Go.IntKind.u8.wrap (n.fdiv (2 ^ min (Int.toNat 8) Go.IntKind.i32.bits)), Go.IntKind.u8.wrap (n.fdiv (2 ^ min (Int.toNat 16) Go.IntKind.i32.bits)), Go.IntKind.u8.wrap (n.fdiv (2 ^ min (Int.toNat 24) Go.IntKind.i32.bits))])))))) (some ((Int.ofNat 1, [])))) (some ((Int.ofNat 1, [])))) (some ((Int.ofNat 1, []))))
theorem u3_eq (a b n : Int) : t13_3 a b n = u3 a b n := by
  unfold t13_3 u3
  try simp only [decide_true, Eng.nd_true]
def u4 (a b n : Int) : Option (Int × List Int) :=
  (Eng.nd (decide (0 ≤ a)) (Eng.nd (decide (a ≤ 15)) (Eng.nd (!decide (a = 4)) (Eng.nd (!!decide (a = 5)) (some ((Int.ofNat 1, []))) (Eng.nd (!decide (b = 0)) (some ((Int.ofNat 1, []))) (Eng.nd (decide (7 < a)) (some ((Int.ofNat 0, [Int.ofNat (Nat.succ 67), Int.ofNat 137, Go.IntKind.u8.wrap (Go.IntKind.i64.wrap ↑(BitVec.ofInt Go.IntKind.i64.bits (Go.IntKind.i64.wrap ↑(BitVec.ofInt Go.IntKind.i64.bits 128 ||| BitVec.ofInt Go.IntKind.i64.bits (Go.IntKind.i64.wrap (a.tmod 8 * 2 ^ min (Int.toNat 3) Go.IntKind.i64.bits))).toNat) ||| BitVec.ofInt Go.IntKind.i64.bits (Int.ofNat (Nat.succ 4))).toNat), Go.IntKind.u8.wrap n, Go.IntKind.u8.wrap (n.fdiv (2 ^ min (Int.toNat 8) Go.IntKind.i32.bits)), Go.IntKind.u8.wrap (n.fdiv (2 ^ min (Int.toNat 16) Go.IntKind.i32.bits)), Go.IntKind.u8.wrap (n.fdiv (2 ^ min (Int.toNat 24) Go.IntKind.i32.bits))]))) (some ((Int.ofNat 0, [Int.ofNat 137, Go.IntKind.u8.wrap (Go.IntKind.i64.wrap ↑(BitVec.ofInt Go.IntKind.i64.bits (Go.IntKind.i64.wrap ↑(BitVec.ofInt Go.IntKind.i64.bits 128 ||| BitVec.ofInt Go.IntKind.i64.bits (Go.IntKind.i64.wrap (a.tmod 8 * 2 ^ min (Int.toNat 3) Go.IntKind.i64.bits))).toNat) ||| BitVec.ofInt Go.IntKind.i64.bits (Int.ofNat (Nat.succ 4))).toNat), Go.IntKind.u8.wrap n, Go.IntKind.u8.wrap (n.fdiv (2 ^ min (Int.toNat 8) Go.IntKind.i32.bits)), Go.IntKind.u8.wrap (n.fdiv (2 ^ min (Int.toNat 16) Go.IntKind.i32.bits)), Go.IntKind.u8.wrap (n.fdiv (2 ^ min (Int.toNat 24) Go.IntKind.i32.bits))])))))) (some ((Int.ofNat 1, [])))) (some ((Int.ofNat 1, [])))) (some ((Int.ofNat 1, []))))
theorem u4_eq (a b n : Int) : t13_4 a b n = u4 a b n := by
  unfold t13_4 u4
  try simp only [decide_true, Eng.nd_true]
def u5 (a b n : Int) : Option (Int × List Int) :=
  (Eng.nd (decide (0 ≤ a)) (Eng.nd (decide (a ≤ 15)) (Eng.nd (!decide (a = 4)) (Eng.nd (!!decide (a = 5)) (some ((Int.ofNat 1, []))) (Eng.nd (decide (0 ≤ b)) (Eng.nd (decide (b ≤ 15)) (Eng.nd (!decide (b = 4)) (Eng.nd (!!decide (b = 5)) (some ((Int.ofNat 1, []))) (Eng.nd (!decide (n = 0)) (some ((Int.ofNat 1, []))) (Eng.nd (decide (7 < b)) (Eng.nd (decide (7 < a)) (some ((Int.ofNat 0, [Int.ofNat (Nat.succ 68), Int.ofNat 1, Go.IntKind.u8.wrap (Go.IntKind.i64.wrap ↑(BitVec.ofInt Go.IntKind.i64.bits (Go.IntKind.i64.wrap ↑(BitVec.ofInt Go.IntKind.i64.bits 192 ||| BitVec.ofInt Go.IntKind.i64.bits (Go.IntKind.i64.wrap (b.tmod 8 * 2 ^ min (Int.toNat 3) Go.IntKind.i64.bits))).toNat) ||| BitVec.ofInt Go.IntKind.i64.bits (a.tmod 8)).toNat)]))) (some ((Int.ofNat 0, [Int.ofNat (Nat.succ 67), Int.ofNat 1, Go.IntKind.u8.wrap (Go.IntKind.i64.wrap ↑(BitVec.ofInt Go.IntKind.i64.bits (Go.IntKind.i64.wrap ↑(BitVec.ofInt Go.IntKind.i64.bits 192 ||| BitVec.ofInt Go.IntKind.i64.bits (Go.IntKind.i64.wrap (b.tmod 8 * 2 ^ min (Int.toNat 3) Go.IntKind.i64.bits))).toNat) ||| BitVec.ofInt Go.IntKind.i64.bits (a.tmod 8)).toNat)])))) (Eng.nd (decide (7 < a)) (some ((Int.ofNat 0, [Int.ofNat (Nat.succ 64), Int.ofNat 1, Go.IntKind.u8.wrap (Go.IntKind.i64.wrap ↑(BitVec.ofInt Go.IntKind.i64.bits (Go.IntKind.i64.wrap ↑(BitVec.ofInt Go.IntKind.i64.bits 192 ||| BitVec.ofInt Go.IntKind.i64.bits (Go.IntKind.i64.wrap (b.tmod 8 * 2 ^ min (Int.toNat 3) Go.IntKind.i64.bits))).toNat) ||| BitVec.ofInt Go.IntKind.i64.bits (a.tmod 8)).toNat)]))) (some ((Int.ofNat 0, [Int.ofNat 1, Go.IntKind.u8.wrap (Go.IntKind.i64.wrap ↑(BitVec.ofInt Go.IntKind.i64.bits (Go.IntKind.i64.wrap ↑(BitVec.ofInt Go.IntKind.i64.bits 192 ||| BitVec.ofInt Go.IntKind.i64.bits (Go.IntKind.i64.wrap (b.tmod 8 * 2 ^ min (Int.toNat 3) Go.IntKind.i64.bits))).toNat) ||| BitVec.ofInt Go.IntKind.i64.bits (a.tmod 8)).toNat)]))))))) (some ((Int.ofNat 1, [])))) (some ((Int.ofNat 1, [])))) (some ((Int.ofNat 1, []))))) (some ((Int.ofNat 1, [])))) (some ((Int.ofNat 1, [])))) (some ((Int.ofNat 1, []))))
theorem u5_eq (a b n : Int) : t13_5 a b n = u5 a b n := by
  unfold t13_5 u5
  try simp only [decide_true, Eng.nd_true]
def u6 (a b n : Int) : Option (Int × List Int) :=
  (Eng.nd (decide (0 ≤ a)) (Eng.nd (decide (a ≤ 15)) (Eng.nd (!decide (a = 4)) (Eng.nd (!!decide (a = 5)) (some ((Int.ofNat 1, []))) (Eng.nd (decide (0 ≤ b)) (Eng.nd (decide (b ≤ 15)) (Eng.nd (!decide (b = 4)) (Eng.nd (!!decide (b = 5)) (some ((Int.ofNat 1, []))) (Eng.nd (!decide (n = 0)) (some ((Int.ofNat 1, []))) (Eng.nd (decide (7 < b)) (Eng.nd (decide (7 < a)) (some ((Int.ofNat 0, [Int.ofNat (Nat.succ 68), Int.ofNat 9, Go.IntKind.u8.wrap (Go.IntKind.i64.wrap ↑(BitVec.ofInt Go.IntKind.i64.bits (Go.IntKind.i64.wrap ↑(BitVec.ofInt Go.IntKind.i64.bits 192 ||| BitVec.ofInt Go.IntKind.i64.bits (Go.IntKind.i64.wrap (b.tmod 8 * 2 ^ min (Int.toNat 3) Go.IntKind.i64.bits))).toNat) ||| BitVec.ofInt Go.IntKind.i64.bits (a.tmod 8)).toNat)]))) (some ((Int.ofNat 0, [Int.ofNat (Nat.succ 67), Int.ofNat 9, Go.IntKind.u8.wrap (Go.IntKind.i64.wrap ↑(BitVec.ofInt Go.IntKind.i64.bits (Go.IntKind.i64.wrap ↑(BitVec.ofInt Go.IntKind.i64.bits 192 ||| BitVec.ofInt Go.IntKind.i64.bits (Go.IntKind.i64.wrap (b.tmod 8 * 2 ^ min (Int.toNat 3) Go.IntKind.i64.bits))).toNat) ||| BitVec.ofInt Go.IntKind.i64.bits (a.tmod 8)).toNat)])))) (Eng.nd (decide (7 < a)) (some ((Int.ofNat 0, [Int.ofNat (Nat.succ 64), Int.ofNat 9, Go.IntKind.u8.wrap (Go.IntKind.i64.wrap ↑(BitVec.ofInt Go.IntKind.i64.bits (Go.IntKind.i64.wrap ↑(BitVec.ofInt Go.IntKind.i64.bits 192 ||| BitVec.ofInt Go.IntKind.i64.bits (Go.IntKind.i64.wrap (b.tmod 8 * 2 ^ min (Int.toNat 3) Go.IntKind.i64.bits))).toNat) ||| BitVec.ofInt Go.IntKind.i64.bits (a.tmod 8)).toNat)]))) (some ((Int.ofNat 0, [Int.ofNat 9, Go.IntKind.u8.wrap (Go.IntKind.i64.wrap ↑(BitVec.ofInt Go.IntKind.i64.bits (Go.IntKind.i64.wrap ↑(BitVec.ofInt Go.IntKind.i64.bits 192 ||| BitVec.ofInt Go.IntKind.i64.bits (Go.IntKind.i64.wrap (b.tmod 8 * 2 ^ min (Int.toNat 3) Go.IntKind.i64.bits))).toNat) ||| BitVec.ofInt Go.IntKind.i64.bits (a.tmod 8)).toNat)]))))))) (some ((Int.ofNat 1, [])))) (some ((Int.ofNat 1, [])))) (some ((Int.ofNat 1, []))))) (some ((Int.ofNat 1, [])))) (some ((Int.ofNat 1, [])))) (some ((Int.ofNat 1, []))))
theorem u6_eq (a b n : Int) : t13_6 a b n = u6 a b n := by
  unfold t13_6 u6
  try simp only [decide_true, Eng.nd_true]
def u7 (a b n : Int) : Option (Int × List Int) :=
  (Eng.nd (decide (0 ≤ a)) (Eng.nd (decide (a ≤ 15)) (Eng.nd (!decide (a = 4)) (Eng.nd (!!decide (a = 5)) (some ((Int.ofNat 1, []))) (Eng.nd (decide (0 ≤ b)) (Eng.nd (decide (b ≤ 15)) (Eng.nd (!decide (b = 4)) (Eng.nd (!!decide (b = 5)) (some ((Int.ofNat 1, []))) (Eng.nd (!decide (n = 0)) (some ((Int.ofNat 1, []))) (Eng.nd (decide (7 < b)) (Eng.nd (decide (7 < a)) (some ((Int.ofNat 0, [Int.ofNat (Nat.succ 68), Int.ofNat 33, Go.IntKind.u8.wrap (Go.IntKind.i64.wrap ↑(BitVec.ofInt Go.IntKind.i64.bits (Go.IntKind.i64.wrap ↑(BitVec.ofInt Go.IntKind.i64.bits 192 ||| BitVec.ofInt Go.IntKind.i64.bits (Go.IntKind.i64.wrap (b.tmod 8 * 2 ^ min (Int.toNat 3) Go.IntKind.i64.bits))).toNat) ||| BitVec.ofInt Go.IntKind.i64.bits (a.tmod 8)).toNat)]))) (some ((Int.ofNat 0, [Int.ofNat (Nat.succ 67), Int.ofNat 33, Go.IntKind.u8.wrap (Go.IntKind.i64.wrap ↑(BitVec.ofInt Go.IntKind.i64.bits (Go.IntKind.i64.wrap ↑(BitVec.ofInt Go.IntKind.i64.bits 192 ||| BitVec.ofInt Go.IntKind.i64.bits (Go.IntKind.i64.wrap (b.tmod 8 * 2 ^ min (Int.toNat 3) Go.IntKind.i64.bits))).toNat) ||| BitVec.ofInt Go.IntKind.i64.bits (a.tmod 8)).toNat)])))) (Eng.nd (decide (7 < a)) (some ((Int.ofNat 0, [Int.ofNat (Nat.succ 64), Int.ofNat 33, Go.IntKind.u8.wrap (Go.IntKind.i64.wrap ↑(BitVec.ofInt Go.IntKind.i64.bits (Go.IntKind.i64.wrap ↑(BitVec.ofInt Go.IntKind.i64.bits 192 ||| BitVec.ofInt Go.IntKind.i64.bits (Go.IntKind.i64.wrap (b.tmod 8 * 2 ^ min (Int.toNat 3) Go.IntKind.i64.bits))).toNat) ||| BitVec.ofInt Go.IntKind.i64.bits (a.tmod 8)).toNat)]))) (some ((Int.ofNat 0, [Int.ofNat 33, Go.IntKind.u8.wrap (Go.IntKind.i64.wrap ↑(BitVec.ofInt Go.IntKind.i64.bits (Go.IntKind.i64.wrap ↑(BitVec.ofInt Go.IntKind.i64.bits 192 ||| BitVec.ofInt Go.IntKind.i64.bits (Go.IntKind.i64.wrap (b.tmod 8 * 2 ^ min (Int.toNat 3) Go.IntKind.i64.bits))).toNat) ||| BitVec.ofInt Go.IntKind.i64.bits (a.tmod 8)).toNat)]))))))) (some ((Int.ofNat 1, [])))) (some ((Int.ofNat 1, [])))) (some ((Int.ofNat 1, []))))) (some ((Int.ofNat 1, [])))) (some ((Int.ofNat 1, [])))) (some ((Int.ofNat 1, []))))
theorem u7_eq (a b n : Int) : t13_7 a b n = u7 a b n := by
  unfold t13_7 u7
  try simp only [decide_true, Eng.nd_true]
def u8 (a b n : Int) : Option (Int × List Int) :=
  (Eng.nd (decide (0 ≤ a)) (Eng.nd (decide (a ≤ 15)) (Eng.nd (!decide (a = 4)) (Eng.nd (!!decide (a = 5)) (some ((Int.ofNat 1, []))) (Eng.nd (decide (0 ≤ b)) (Eng.nd (decide (b ≤ 15)) (Eng.nd (!decide (b = 4)) (Eng.nd (!!decide (b = 5)) (some ((Int.ofNat 1, []))) (Eng.nd (!decide (n = 0)) (some ((Int.ofNat 1, []))) (Eng.nd (decide (7 < b)) (Eng.nd (decide (7 < a)) (some ((Int.ofNat 0, [Int.ofNat (Nat.succ 68), Int.ofNat 41, Go.IntKind.u8.wrap (Go.IntKind.i64.wrap ↑(BitVec.ofInt Go.IntKind.i64.bits (Go.IntKind.i64.wrap ↑(BitVec.ofInt Go.IntKind.i64.bits 192 ||| BitVec.ofInt Go.IntKind.i64.bits (Go.IntKind.i64.wrap (b.tmod 8 * 2 ^ min (Int.toNat 3) Go.IntKind.i64.bits))).toNat) ||| BitVec.ofInt Go.IntKind.i64.bits (a.tmod 8)).toNat)]))) (some ((Int.ofNat 0, [Int.ofNat (Nat.succ 67), Int.ofNat 41, Go.IntKind.u8.wrap (Go.IntKind.i64.wrap ↑(BitVec.ofInt Go.IntKind.i64.bits (Go.IntKind.i64.wrap ↑(BitVec.ofInt Go.IntKind.i64.bits 192 ||| BitVec.ofInt Go.IntKind.i64.bits (Go.IntKind.i64.wrap (b.tmod 8 * 2 ^ min (Int.toNat 3) Go.IntKind.i64.bits))).toNat) ||| BitVec.ofInt Go.IntKind.i64.bits (a.tmod 8)).toNat)])))) (Eng.nd (decide (7 < a)) (some ((Int.ofNat 0, [Int.ofNat (Nat.succ 64), Int.ofNat 41, Go.IntKind.u8.wrap (Go.IntKind.i64.wrap ↑(BitVec.ofInt Go.IntKind.i64.bits (Go.IntKind.i64.wrap ↑(BitVec.ofInt Go.IntKind.i64.bits 192 ||| BitVec.ofInt Go.IntKind.i64.bits (Go.IntKind.i64.wrap (b.tmod 8 * 2 ^ min (Int.toNat 3) Go.IntKind.i64.bits))).toNat) ||| BitVec.ofInt Go.IntKind.i64.bits (a.tmod 8)).toNat)]))) (some ((Int.ofNat 0, [Int.ofNat 41, Go.IntKind.u8.wrap (Go.IntKind.i64.wrap ↑(BitVec.ofInt Go.IntKind.i64.bits (Go.IntKind.i64.wrap ↑(BitVec.ofInt Go.IntKind.i64.bits 192 ||| BitVec.ofInt Go.IntKind.i64.bits (Go.IntKind.i64.wrap (b.tmod 8 * 2 ^ min (Int.toNat 3) Go.IntKind.i64.bits))).toNat) ||| BitVec.ofInt Go.IntKind.i64.bits (a.tmod 8)).toNat)]))))))) (some ((Int.ofNat 1, [])))) (some ((Int.ofNat 1, [])))) (some ((Int.ofNat 1, []))))) (some ((Int.ofNat 1, [])))) (some ((Int.ofNat 1, [])))) (some ((Int.ofNat 1, []))))
theorem u8_eq (a b n : Int) : t13_8 a b n = u8 a b n := by
  unfold t13_8 u8
  try simp only [decide_true, Eng.nd_true]
def u9 (a b n : Int) : Option (Int × List Int) :=
  (Eng.nd (decide (0 ≤ a)) (Eng.nd (decide (a ≤ 15)) (Eng.nd (!decide (a = 4)) (Eng.nd (!!decide (a = 5)) (some ((Int.ofNat 1, []))) (Eng.nd (decide (0 ≤ b)) (Eng.nd (decide (b ≤ 15)) (Eng.nd (!decide (b = 4)) (Eng.nd (!!decide (b = 5)) (some ((Int.ofNat 1, []))) (Eng.nd (!decide (n = 0)) (some ((Int.ofNat 1, []))) (Eng.nd (decide (7 < b)) (Eng.nd (decide (7 < a)) (some ((Int.ofNat 0, [Int.ofNat (Nat.succ 68), Int.ofNat 49, Go.IntKind.u8.wrap (Go.IntKind.i64.wrap ↑(BitVec.ofInt Go.IntKind.i64.bits (Go.IntKind.i64.wrap ↑(BitVec.ofInt Go.IntKind.i64.bits 192 ||| BitVec.ofInt Go.IntKind.i64.bits (Go.IntKind.i64.wrap (b.tmod 8 * 2 ^ min (Int.toNat 3) Go.IntKind.i64.bits))).toNat) ||| BitVec.ofInt Go.IntKind.i64.bits (a.tmod 8)).toNat)]))) (some ((Int.ofNat 0, [Int.ofNat (Nat.succ 67), Int.ofNat 49, Go.IntKind.u8.wrap (Go.IntKind.i64.wrap ↑(BitVec.ofInt Go.IntKind.i64.bits (Go.IntKind.i64.wrap ↑(BitVec.ofInt Go.IntKind.i64.bits 192 ||| BitVec.ofInt Go.IntKind.i64.bits (Go.IntKind.i64.wrap (b.tmod 8 * 2 ^ min (Int.toNat 3) Go.IntKind.i64.bits))).toNat) ||| BitVec.ofInt Go.IntKind.i64.bits (a.tmod 8)).toNat)])))) (Eng.nd (decide (7 < a)) (some ((Int.ofNat 0, [Int.ofNat (Nat.succ 64), Int.ofNat 49, Go.IntKind.u8.wrap (Go.IntKind.i64.wrap ↑(BitVec.ofInt Go.IntKind.i64.bits (Go.IntKind.i64.wrap ↑(BitVec.ofInt Go.IntKind.i64.bits 192 ||| BitVec.ofInt Go.IntKind.i64.bits (Go.IntKind.i64.wrap (b.tmod 8 * 2 ^ min (Int.toNat 3) Go.IntKind.i64.bits))).toNat) ||| BitVec.ofInt Go.IntKind.i64.bits (a.tmod 8)).toNat)]))) (some ((Int.ofNat 0, [Int.ofNat 49, Go.IntKind.u8.wrap (Go.IntKind.i64.wrap ↑(BitVec.ofInt Go.IntKind.i64.bits (Go.IntKind.i64.wrap ↑(BitVec.ofInt Go.IntKind.i64.bits 192 ||| BitVec.ofInt Go.IntKind.i64.bits (Go.IntKind.i64.wrap (b.tmod 8 * 2 ^ min (Int.toNat 3) Go.IntKind.i64.bits))).toNat) ||| BitVec.ofInt Go.IntKind.i64.bits (a.tmod 8)).toNat)]))))))) (some ((Int.ofNat 1, [])))) (some ((Int.ofNat 1, [])))) (some ((Int.ofNat 1, []))))) (some ((Int.ofNat 1, [])))) (some ((Int.ofNat 1, [])))) (some ((Int.ofNat 1, []))))
theorem u9_eq (a b n : Int) : t13_9 a b n = u9 a b n := by
  unfold t13_9 u9
  try simp only [decide_true, Eng.nd_true]
def u10 (a b n : Int) : Option (Int × List Int) :=
  (Eng.nd (decide (0 ≤ a)) (Eng.nd (decide (a ≤ 15)) (Eng.nd (!decide (a = 4)) (Eng.nd (!!decide (a = 5)) (some ((Int.ofNat 1, []))) (Eng.nd (decide (0 ≤ b)) (Eng.nd (decide (b ≤ 15)) (Eng.nd (!decide (b = 4)) (Eng.nd (!!decide (b = 5)) (some ((Int.ofNat 1, []))) (Eng.nd (!decide (n = 0)) (some ((Int.ofNat 1, []))) (Eng.nd (decide (7 < b)) (Eng.nd (decide (7 < a)) (some ((Int.ofNat 0, [Int.ofNat (Nat.succ 68), Int.ofNat 57, Go.IntKind.u8.wrap (Go.IntKind.i64.wrap ↑(BitVec.ofInt Go.IntKind.i64.bits (Go.IntKind.i64.wrap ↑(BitVec.ofInt Go.IntKind.i64.bits 192 ||| BitVec.ofInt Go.IntKind.i64.bits (Go.IntKind.i64.wrap (b.tmod 8 * 2 ^ min (Int.toNat 3) Go.IntKind.i64.bits))).toNat) ||| BitVec.ofInt Go.IntKind.i64.bits (a.tmod 8)).toNat)]))) (some ((Int.ofNat 0, [Int.ofNat (Nat.succ 67), Int.ofNat 57, Go.IntKind.u8.wrap (Go.IntKind.i64.wrap ↑(BitVec.ofInt Go.IntKind.i64.bits (Go.IntKind.i64.wrap ↑(BitVec.ofInt Go.IntKind.i64.bits 192 ||| BitVec.ofInt Go.IntKind.i64.bits (Go.IntKind.i64.wrap (b.tmod 8 * 2 ^ min (Int.toNat 3) Go.IntKind.i64.bits))).toNat) ||| BitVec.ofInt Go.IntKind.i64.bits (a.tmod 8)).toNat)])))) (Eng.nd (decide (7 < a)) (some ((Int.ofNat 0, [Int.ofNat (Nat.succ 64), Int.ofNat 57, Go.IntKind.u8.wrap (Go.IntKind.i64.wrap ↑(BitVec.ofInt Go.IntKind.i64.bits (Go.IntKind.i64.wrap ↑(BitVec.ofInt Go.IntKind.i64.bits 192 ||| BitVec.ofInt Go.IntKind.i64.bits (Go.IntKind.i64.wrap (b.tmod 8 * 2 ^ min (Int.toNat 3) Go.IntKind.i64.bits))).toNat) ||| BitVec.ofInt Go.IntKind.i64.bits (a.tmod 8)).toNat)]))) (some ((Int.ofNat 0, [Int.ofNat 57, Go.IntKind.u8.wrap (Go.IntKind.i64.wrap ↑(BitVec.ofInt Go.IntKind.i64.bits (Go.IntKind.i64.wrap ↑(BitVec.ofInt Go.IntKind.i64.bits 192 ||| BitVec.ofInt Go.IntKind.i64.bits (Go.IntKind.i64.wrap (b.tmod 8 * 2 ^ min (Int.toNat 3) Go.IntKind.i64.bits))).toNat) ||| BitVec.ofInt Go.IntKind.i64.bits (a.tmod 8)).toNat)]))))))) (some ((Int.ofNat 1, [])))) (some ((Int.ofNat 1, [])))) (some ((Int.ofNat 1, []))))) (some ((Int.ofNat 1, [])))) (some ((Int.ofNat 1, [])))) (some ((Int.ofNat 1, []))))
theorem u10_eq (a b n : Int) : t13_10 a b n = u10 a b n := by
  unfold t13_10 u10
  try simp only [decide_true, Eng.nd_true]
def u11 (a b n : Int) : Option (Int × List Int) :=
  (Eng.nd (decide (0 ≤ a)) (Eng.nd (decide (a ≤ 15)) (Eng.nd (!decide (a = 4)) (Eng.nd (!!decide (a = 5)) (some ((Int.ofNat 1, []))) (Eng.nd (decide (0 ≤ b)) (Eng.nd (decide (b ≤ 15)) (Eng.nd (!decide (b = 4)) (Eng.nd (!!decide (b = 5)) (some ((Int.ofNat 1, []))) (Eng.nd (!decide (n = 0)) (some ((Int.ofNat 1, []))) (Eng.nd (decide (7 < a)) (Eng.nd (decide (7 < b)) (some ((Int.ofNat 0, [Int.ofNat (Nat.succ 68), Int.ofNat 15, Int.ofNat 175, Go.IntKind.u8.wrap (Go.IntKind.i64.wrap ↑(BitVec.ofInt Go.IntKind.i64.bits (Go.IntKind.i64.wrap ↑(BitVec.ofInt Go.IntKind.i64.bits 192 ||| BitVec.ofInt Go.IntKind.i64.bits (Go.IntKind.i64.wrap (a.tmod 8 * 2 ^ min (Int.toNat 3) Go.IntKind.i64.bits))).toNat) ||| BitVec.ofInt Go.IntKind.i64.bits (b.tmod 8)).toNat)]))) (some ((Int.ofNat 0, [Int.ofNat (Nat.succ 67), Int.ofNat 15, Int.ofNat 175, Go.IntKind.u8.wrap (Go.IntKind.i64.wrap ↑(BitVec.ofInt Go.IntKind.i64.bits (Go.IntKind.i64.wrap ↑(BitVec.ofInt Go.IntKind.i64.bits 192 ||| BitVec.ofInt Go.IntKind.i64.bits (Go.IntKind.i64.wrap (a.tmod 8 * 2 ^ min (Int.toNat 3) Go.IntKind.i64.bits))).toNat) ||| BitVec.ofInt Go.IntKind.i64.bits (b.tmod 8)).toNat)])))) (Eng.nd (decide (7 < b)) (some ((Int.ofNat 0, [Int.ofNat (Nat.succ 64), Int.ofNat 15, Int.ofNat 175, Go.IntKind.u8.wrap (Go.IntKind.i64.wrap ↑(BitVec.ofInt Go.IntKind.i64.bits (Go.IntKind.i64.wrap ↑(BitVec.ofInt Go.IntKind.i64.bits 192 ||| BitVec.ofInt Go.IntKind.i64.bits (Go.IntKind.i64.wrap (a.tmod 8 * 2 ^ min (Int.toNat 3) Go.IntKind.i64.bits))).toNat) ||| BitVec.ofInt Go.IntKind.i64.bits (b.tmod 8)).toNat)]))) (some ((Int.ofNat 0, [Int.ofNat 15, Int.ofNat 175, Go.IntKind.u8.wrap (Go.IntKind.i64.wrap ↑(BitVec.ofInt Go.IntKind.i64.bits (Go.IntKind.i64.wrap ↑(BitVec.ofInt Go.IntKind.i64.bits 192 ||| BitVec.ofInt Go.IntKind.i64.bits (Go.IntKind.i64.wrap (a.tmod 8 * 2 ^ min (Int.toNat 3) Go.IntKind.i64.bits))).toNat) ||| BitVec.ofInt Go.IntKind.i64.bits (b.tmod 8)).toNat)]))))))) (some ((Int.ofNat 1, [])))) (some ((Int.ofNat 1, [])))) (some ((Int.ofNat 1, []))))) (some ((Int.ofNat 1, [])))) (some ((Int.ofNat 1, [])))) (some ((Int.ofNat 1, []))))
theorem u11_eq (a b n : Int) : t13_11 a b n = u11 a b n := by
  unfold t13_11 u11
  try simp only [decide_true, Eng.nd_true]
def u12 (a b n : Int) : Option (Int × List Int) :=
  (Eng.nd (decide (0 ≤ a)) (Eng.nd (decide (a ≤ 15)) (Eng.nd (!decide (a = 4)) (Eng.nd (!!decide (a = 5)) (some ((Int.ofNat 1, []))) (Eng.nd (!decide (b = 0)) (some ((Int.ofNat 1, []))) (Eng.nd (!decide (n = 0)) (some ((Int.ofNat 1, []))) (Eng.nd (decide (7 < a)) (some ((Int.ofNat 0, [Int.ofNat (Nat.succ 64), Int.ofNat 247, Go.IntKind.u8.wrap (Go.IntKind.i64.wrap ↑(BitVec.ofInt Go.IntKind.i64.bits (Int.ofNat (Nat.succ 215)) ||| BitVec.ofInt Go.IntKind.i64.bits (a.tmod 8)).toNat)]))) (some ((Int.ofNat 0, [Int.ofNat 247, Go.IntKind.u8.wrap (Go.IntKind.i64.wrap ↑(BitVec.ofInt Go.IntKind.i64.bits (Int.ofNat (Nat.succ 215)) ||| BitVec.ofInt Go.IntKind.i64.bits (a.tmod 8)).toNat)]))))))) (some ((Int.ofNat 1, [])))) (some ((Int.ofNat 1, [])))) (some ((Int.ofNat 1, []))))
theorem u12_eq (a b n : Int) : t13_12 a b n = u12 a b n := by
  unfold t13_12 u12
  try simp only [decide_true, Eng.nd_true]
def u13 (a b n : Int) : Option (Int × List Int) :=
  (Eng.nd (!decide (a = 0)) (some ((Int.ofNat 1, []))) (Eng.nd (!decide (b = 0)) (some ((Int.ofNat 1, []))) (Eng.nd (!decide (n = 0)) (some ((Int.ofNat 1, []))) (some ((Int.ofNat 0, [Int.ofNat 153]))))))
theorem u13_eq (a b n : Int) : t13_13 a b n = u13 a b n := by
  unfold t13_13 u13
  try simp only [decide_true, Eng.nd_true]
def u14 (a b n : Int) : Option (Int × List Int) :=
  (Eng.nd (decide (0 ≤ a)) (Eng.nd (decide (a ≤ 15)) (Eng.nd (!decide (a = 4)) (Eng.nd (!!decide (a = 5)) (some ((Int.ofNat 1, []))) (Eng.nd (!decide (b = 0)) (some ((Int.ofNat 1, []))) (Eng.nd (!decide (n = 0)) (some ((Int.ofNat 1, []))) (Eng.nd (decide (7 < a)) (some ((Int.ofNat 0, [Int.ofNat (Nat.succ 64), Int.ofNat 247, Go.IntKind.u8.wrap (Go.IntKind.i64.wrap ↑(BitVec.ofInt Go.IntKind.i64.bits (Int.ofNat (Nat.succ 247)) ||| BitVec.ofInt Go.IntKind.i64.bits (a.tmod 8)).toNat)]))) (some ((Int.ofNat 0, [Int.ofNat 247, Go.IntKind.u8.wrap (Go.IntKind.i64.wrap ↑(BitVec.ofInt Go.IntKind.i64.bits (Int.ofNat (Nat.succ 247)) ||| BitVec.ofInt Go.IntKind.i64.bits (a.tmod 8)).toNat)]))))))) (some ((Int.ofNat 1, [])))) (some ((Int.ofNat 1, [])))) (some ((Int.ofNat 1, []))))
theorem u14_eq (a b n : Int) : t13_14 a b n = u14 a b n := by
  unfold t13_14 u14
  try simp only [decide_true, Eng.nd_true]
def u15 (a b n : Int) : Option (Int × List Int) :=
  (Eng.nd (decide (0 ≤ a)) (Eng.nd (decide (a ≤ 15)) (Eng.nd (!decide (a = 4)) (Eng.nd (!!decide (a = 5)) (some ((Int.ofNat 1, []))) (Eng.nd (!decide (b = 0)) (some ((Int.ofNat 1, []))) (Eng.nd (!decide (n = 0)) (some ((Int.ofNat 1, []))) (Eng.nd (decide (7 < a)) (some ((Int.ofNat 0, [Int.ofNat (Nat.succ 64), Int.ofNat 211, Go.IntKind.u8.wrap (Go.IntKind.i64.wrap ↑(BitVec.ofInt Go.IntKind.i64.bits (Int.ofNat (Nat.succ 223)) ||| BitVec.ofInt Go.IntKind.i64.bits (a.tmod 8)).toNat)]))) (some ((Int.ofNat 0, [Int.ofNat 211, Go.IntKind.u8.wrap (Go.IntKind.i64.wrap ↑(BitVec.ofInt Go.IntKind.i64.bits (Int.ofNat (Nat.succ 223)) ||| BitVec.ofInt Go.IntKind.i64.bits (a.tmod 8)).toNat)]))))))) (some ((Int.ofNat 1, [])))) (some ((Int.ofNat 1, [])))) (some ((Int.ofNat 1, []))))
theorem u15_eq (a b n : Int) : t13_15 a b n = u15 a b n := by
  unfold t13_15 u15
  try simp only [decide_true, Eng.nd_true]
def u16 (a b n : Int) : Option (Int × List Int) :=
  (Eng.nd (decide (0 ≤ a)) (Eng.nd (decide (a ≤ 15)) (Eng.nd (!decide (a = 4)) (Eng.nd (!!decide (a = 5)) (some ((Int.ofNat 1, []))) (Eng.nd (!decide (b = 0)) (some ((Int.ofNat 1, []))) (Eng.nd (!decide (n = 0)) (some ((Int.ofNat 1, []))) (Eng.nd (decide (7 < a)) (some ((Int.ofNat 0, [Int.ofNat (Nat.succ 64), Int.ofNat 211, Go.IntKind.u8.wrap (Go.IntKind.i64.wrap ↑(BitVec.ofInt Go.IntKind.i64.bits (Int.ofNat (Nat.succ 247)) ||| BitVec.ofInt Go.IntKind.i64.bits (a.tmod 8)).toNat)]))) (some ((Int.ofNat 0, [Int.ofNat 211, Go.IntKind.u8.wrap (Go.IntKind.i64.wrap ↑(BitVec.ofInt Go.IntKind.i64.bits (Int.ofNat (Nat.succ 247)) ||| BitVec.ofInt Go.IntKind.i64.bits (a.tmod 8)).toNat)]))))))) (some ((Int.ofNat 1, [])))) (some ((Int.ofNat 1, [])))) (some ((Int.ofNat 1, []))))
theorem u16_eq (a b n : Int) : t13_16 a b n = u16 a b n := by
  unfold t13_16 u16
  try simp only [decide_true, Eng.nd_true]
def u17 (a b n : Int) : Option (Int × List Int) :=
  (Eng.nd (decide (0 ≤ a)) (Eng.nd (decide (a ≤ 15)) (Eng.nd (!decide (a = 4)) (Eng.nd (!!decide (a = 5)) (some ((Int.ofNat 1, []))) (Eng.nd (!decide (b = 0)) (some ((Int.ofNat 1, []))) (Eng.nd (!decide (n = 0)) (some ((Int.ofNat 1, []))) (Eng.nd (decide (7 < a)) (some ((Int.ofNat 0, [Int.ofNat (Nat.succ 64), Int.ofNat 211, Go.IntKind.u8.wrap (Go.IntKind.i64.wrap ↑(BitVec.ofInt Go.IntKind.i64.bits (Int.ofNat (Nat.succ 231)) ||| BitVec.ofInt Go.IntKind.i64.bits (a.tmod 8)).toNat)]))) (some ((Int.ofNat 0, [Int.ofNat 211, Go.IntKind.u8.wrap (Go.IntKind.i64.wrap ↑(BitVec.ofInt Go.IntKind.i64.bits (Int.ofNat (Nat.succ 231)) ||| BitVec.ofInt Go.IntKind.i64.bits (a.tmod 8)).toNat)]))))))) (some ((Int.ofNat 1, [])))) (some ((Int.ofNat 1, [])))) (some ((Int.ofNat 1, []))))
theorem u17_eq (a b n : Int) : t13_17 a b n = u17 a b n := by
  unfold t13_17 u17
  try simp only [decide_true, Eng.nd_true]
def u18 (a b n : Int) : Option (Int × List Int) :=
  (Eng.nd (!decide (a = 0)) (some ((Int.ofNat 1, []))) (Eng.nd (!decide (b = 0)) (some ((Int.ofNat 1, []))) (some ((Int.ofNat 0, [Int.ofNat 233, Go.IntKind.u8.wrap n, Go.IntKind.u8.wrap (n.fdiv (2 ^ min (Int.toNat 8) Go.IntKind.i32.bits)), Go.IntKind.u8.wrap (n.fdiv (2 ^ min (Int.toNat 16) Go.IntKind.i32.bits)), Go.IntKind.u8.wrap (n.fdiv (2 ^ min (Int.toNat 24) Go.IntKind.i32.bits))])))))
theorem u18_eq (a b n : Int) : t13_18 a b n = u18 a b n := by
  unfold t13_18 u18
  try simp only [decide_true, Eng.nd_true]
def u19 (a b n : Int) : Option (Int × List Int) :=
  (Eng.nd (!decide (a = 0)) (some ((Int.ofNat 1, []))) (Eng.nd (!decide (b = 0)) (some ((Int.ofNat 1, []))) (some ((Int.ofNat 0, [Int.ofNat 15, Int.ofNat 132, Go.IntKind.u8.wrap n, Go.IntKind.u8.wrap (n.fdiv (2 ^ min (Int.toNat 8) Go.IntKind.i32.bits)), Go.IntKind.u8.wrap (n.fdiv (2 ^ min (Int.toNat 16) Go.IntKind.i32.bits)), Go.IntKind.u8.wrap (n.fdiv (2 ^ min (Int.toNat 24) Go.IntKind.i32.bits))])))))
theorem u19_eq (a b n : Int) : t13_19 a b n = u19 a b n := by
  unfold t13_19 u19
  try simp only [decide_true, Eng.nd_true]
def u20 (a b n : Int) : Option (Int × List Int) :=
  (Eng.nd (!decide (a = 0)) (some ((Int.ofNat 1, []))) (Eng.nd (!decide (b = 0)) (some ((Int.ofNat 1, []))) (some ((Int.ofNat 0, [Int.ofNat 15, Int.ofNat 133, Go.IntKind.u8.wrap n, Go.IntKind.u8.wrap (n.fdiv (2 ^ min (Int.toNat 8) Go.IntKind.i32.bits)), Go.IntKind.u8.wrap (n.fdiv (2 ^ min (Int.toNat 16) Go.IntKind.i32.bits)), Go.IntKind.u8.wrap (n.fdiv (2 ^ min (Int.toNat 24) Go.IntKind.i32.bits))])))))
theorem u20_eq (a b n : Int) : t13_20 a b n = u20 a b n := by
  unfold t13_20 u20
  try simp only [decide_true, Eng.nd_true]
def u21 (a b n : Int) : Option (Int × List Int) :=
  (Eng.nd (!decide (a = 0)) (some ((Int.ofNat 1, []))) (Eng.nd (!decide (b = 0)) (some ((Int.ofNat 1, []))) (some ((Int.ofNat 0, [Int.ofNat 15, Int.ofNat 140, Go.IntKind.u8.wrap n, Go.IntKind.u8.wrap (n.fdiv (2 ^ min (Int.toNat 8) Go.IntKind.i32.bits)), Go.IntKind.u8.wrap (n.fdiv (2 ^ min (Int.toNat 16) Go.IntKind.i32.bits)), Go.IntKind.u8.wrap (n.fdiv (2 ^ min (Int.toNat 24) Go.IntKind.i32.bits))])))))
theorem u21_eq (a b n : Int) : t13_21 a b n = u21 a b n := by
  unfold t13_21 u21
  try simp only [decide_true, Eng.nd_true]
def u22 (a b n : Int) : Option (Int × List Int) :=
  (Eng.nd (!decide (a = 0)) (some ((Int.ofNat 1, []))) (Eng.nd (!decide (b = 0)) (some ((Int.ofNat 1, []))) (some ((Int.ofNat 0, [Int.ofNat 15, Int.ofNat 141, Go.IntKind.u8.wrap n, Go.IntKind.u8.wrap (n.fdiv (2 ^ min (Int.toNat 8) Go.IntKind.i32.bits)), Go.IntKind.u8.wrap (n.fdiv (2 ^ min (Int.toNat 16) Go.IntKind.i32.bits)), Go.IntKind.u8.wrap (n.fdiv (2 ^ min (Int.toNat 24) Go.IntKind.i32.bits))])))))
theorem u22_eq (a b n : Int) : t13_22 a b n = u22 a b n := by
  unfold t13_22 u22
  try simp only [decide_true, Eng.nd_true]
def u23 (a b n : Int) : Option (Int × List Int) :=
  (Eng.nd (!decide (a = 0)) (some ((Int.ofNat 1, []))) (Eng.nd (!decide (b = 0)) (some ((Int.ofNat 1, []))) (some ((Int.ofNat 0, [Int.ofNat 15, Int.ofNat 142, Go.IntKind.u8.wrap n, Go.IntKind.u8.wrap (n.fdiv (2 ^ min (Int.toNat 8) Go.IntKind.i32.bits)), Go.IntKind.u8.wrap (n.fdiv (2 ^ min (Int.toNat 16) Go.IntKind.i32.bits)), Go.IntKind.u8.wrap (n.fdiv (2 ^ min (Int.toNat 24) Go.IntKind.i32.bits))])))))
theorem u23_eq (a b n : Int) : t13_23 a b n = u23 a b n := by
  unfold t13_23 u23
  try simp only [decide_true, Eng.nd_true]
def u24 (a b n : Int) : Option (Int × List Int) :=
  (Eng.nd (!decide (a = 0)) (some ((Int.ofNat 1, []))) (Eng.nd (!decide (b = 0)) (some ((Int.ofNat 1, []))) (some ((Int.ofNat 0, [Int.ofNat 15, Int.ofNat 143, Go.IntKind.u8.wrap n, Go.IntKind.u8.wrap (n.fdiv (2 ^ min (Int.toNat 8) Go.IntKind.i32.bits)), Go.IntKind.u8.wrap (n.fdiv (2 ^ min (Int.toNat 16) Go.IntKind.i32.bits)), Go.IntKind.u8.wrap (n.fdiv (2 ^ min (Int.toNat 24) Go.IntKind.i32.bits))])))))
theorem u24_eq (a b n : Int) : t13_24 a b n = u24 a b n := by
  unfold t13_24 u24
  try simp only [decide_true, Eng.nd_true]
def u25 (a b n : Int) : Option (Int × List Int) :=
  (Eng.nd (!decide (a = 0)) (some ((Int.ofNat 1, []))) (Eng.nd (!decide (b = 0)) (some ((Int.ofNat 1, []))) (Eng.nd (!decide (n = 0)) (some ((Int.ofNat 1, []))) (some ((Int.ofNat 0, [Int.ofNat 195]))))))
theorem u25_eq (a b n : Int) : t13_25 a b n = u25 a b n := by
  unfold t13_25 u25
  try simp only [decide_true, Eng.nd_true]
def u26 (a b n : Int) : Option (Int × List Int) :=
  (Eng.nd (!decide (a = 0)) (some ((Int.ofNat 1, []))) (Eng.nd (!decide (b = 0)) (some ((Int.ofNat 1, []))) (Eng.nd (decide (n < 0)) (some ((Int.ofNat 1, []))) (Eng.nd (decide (255 < n)) (some ((Int.ofNat 1, []))) (some ((Int.ofNat 0, [Int.ofNat 205, Go.IntKind.u8.wrap n])))))))
theorem u26_eq (a b n : Int) : t13_26 a b n = u26 a b n := by
  unfold t13_26 u26
  try simp only [decide_true, Eng.nd_true]
def encU (op a b n : Int) : Option (Int × List Int) :=
  (Eng.nd (decide (op = 1)) (u1 a b n) (Eng.nd (decide (op = 2)) (u2 a b n) (Eng.nd (decide (op = 3)) (u3 a b n) (Eng.nd (decide (op = 4)) (u4 a b n) (Eng.nd (decide (op = 5)) (u5 a b n) (Eng.nd (decide (op = 6)) (u6 a b n) (Eng.nd (decide (op = 7)) (u7 a b n) (Eng.nd (decide (op = 8)) (u8 a b n) (Eng.nd (decide (op = 9)) (u9 a b n) (Eng.nd (decide (op = 10)) (u10 a b n) (Eng.nd (decide (op = 11)) (u11 a b n) (Eng.nd (decide (op = 12)) (u12 a b n) (Eng.nd (decide (op = 13)) (u13 a b n) (Eng.nd (decide (op = 14)) (u14 a b n) (Eng.nd (decide (op = 15)) (u15 a b n) (Eng.nd (decide (op = 16)) (u16 a b n) (Eng.nd (decide (op = 17)) (u17 a b n) (Eng.nd (decide (op = 18)) (u18 a b n) (Eng.nd (decide (op = 19)) (u19 a b n) (Eng.nd (decide (op = 20)) (u20 a b n) (Eng.nd (decide (op = 21)) (u21 a b n) (Eng.nd (decide (op = 22)) (u22 a b n) (Eng.nd (decide (op = 23)) (u23 a b n) (Eng.nd (decide (op = 24)) (u24 a b n) (Eng.nd (decide (op = 25)) (u25 a b n) (Eng.nd (decide (op = 26)) (u26 a b n) (some (15, []))))))))))))))))))))))))))))
theorem encU_eq (op a b n : Int) : encO op a b n = encU op a b n := by
  unfold encO encU
  simp only [u1_eq, u2_eq, u3_eq, u4_eq, u5_eq, u6_eq, u7_eq, u8_eq, u9_eq, u10_eq, u11_eq, u12_eq, u13_eq, u14_eq, u15_eq, u16_eq, u17_eq, u18_eq, u19_eq, u20_eq, u21_eq, u22_eq, u23_eq, u24_eq, u25_eq, u26_eq]
/-! ### Within -/
def W1 (a : Int) : Int := IntKind.i64.wrap (0 + IntKind.i64.wrap (IntKind.i64.wrap (IntKind.i64.wrap (a.tmod 14 + 13) - 0) + 1))
def W2 (a : Int) : Int := IntKind.i64.wrap (0 + a.tmod 14)
def wth (a : Int) : Int := if a.tmod 14 < 0 then a.tmod 14 + 14 else a.tmod 14
def intOut : Eng.EK Int := fun v _ _ => match v with
  | .int .i64 n => some n
  | .sint .i64 n _ => some n
  | _ => none
theorem within_run (a : Int) : Eng.fcallOf (β := Int) Try.prog (Eng.fexec Try.prog 1000000) 8 [.sint .i64 a 1, .int .i64 (.ofNat 0), .int .i64 (.ofNat 13)] Eng.f5 Eng.b0 intOut = Eng.nd (decide (a.tmod 14 < 0)) (some (W1 a)) (some (W2 a)) := by kernel_rfl
theorem tmod14 (a : Int) : -14 < a.tmod 14 ∧ a.tmod 14 < 14 := ⟨Int.lt_tmod_of_pos a (by omega), Int.tmod_lt_of_pos a (by omega)⟩
theorem wth_rng (a : Int) : 0 ≤ wth a ∧ wth a < 14 := by
  have := tmod14 a
  unfold wth; split <;> omega
theorem within_eq (a : Int) : Eng.nd (decide (a.tmod 14 < 0)) (some (W1 a)) (some (W2 a)) = some (wth a) := by
  have h := tmod14 a
  unfold wth W1 W2
  by_cases hn : a.tmod 14 < 0
  · rw [decide_eq_true hn, Eng.nd_true, if_pos hn]
    congr 1
    rw [IntKind.wrap_i64, IntKind.wrap_i64, IntKind.wrap_i64, IntKind.wrap_i64]
    generalize a.tmod 14 = y at h hn
    omega
  · rw [decide_eq_false hn, Eng.nd_false, if_neg hn]
    congr 1
    rw [IntKind.wrap_i64]
    generalize a.tmod 14 = y at h hn
    omega
theorem within_call (a : Int) (w : World) : Calls Try.prog 8 #[.int .i64 a, .int .i64 0, .int .i64 13] w fun e w' => e = .returned (.int .i64 (wth a)) ∧ Below w.heap.size w w' := by
  refine (Eng.calledF 1000000 8 _ intOut (wth a) ((within_run a).trans (within_eq a)) w #[.int .i64 a, .int .i64 0, .int .i64 13] (by simp [Eng.VRels, Eng.VRel])).mono fun e w' h => ?_
  obtain ⟨⟨v, h', x', cv, μ', h1, rfl, h2, _⟩, hb⟩ := h
  refine ⟨?_, hb⟩
  unfold intOut at h1
  split at h1
  · injection h1 with h1; subst h1; simp only [Eng.VRel] at h2; rw [h2]
  · injection h1 with h1; subst h1; simp only [Eng.VRel] at h2; rw [h2]
  · cases h1
/-! ### known -/
set_option maxHeartbeats 4000000 in
theorem known_run : Eng.fcallOf (β := Eng.AV) Try.prog (Eng.fexecT Try.prog T2 1000000) 10 [] Eng.f5 Eng.b0 (fun v _ _ => some v) = some (.bool true) := by kernel_rfl
theorem known_call (w : World) : Calls Try.prog 10 #[] w fun e w' => e = .returned (.bool true) ∧ Below w.heap.size w w' := by
  refine (Eng.calledFT tab2 1000000 10 [] _ _ known_run w #[] (by simp [Eng.VRels])).mono fun e w' h => ?_
  obtain ⟨⟨v, h', x', cv, μ', h1, rfl, h2, _⟩, hb⟩ := h
  have h1' : v = .bool true := Option.some.inj h1
  rw [h1'] at h2
  simp only [Eng.VRel] at h2
  exact ⟨by rw [h2], hb⟩
/-! ### they stand in -/
theorem plain_ok {μ : Eng.Inj} {h : Eng.Hp} {w w' : World} (hr : Eng.HR μ h.get w) (hb : Below w.heap.size w w') : Eng.HR μ h.get w' ∧ Eng.Fr μ h.get w μ h.get w' :=
  ⟨⟨fun b l hbl => (hr.ok b l hbl).of_block fun hl => hb.block l.blk ((hr.ok b l hbl).lt hl), hr.inj⟩, ⟨Eng.Le.refl _, fun b h h' => absurd h h', hb.os, hb.tape, hb.output, hb.size, fun c hc _ => hb.block c hc, fun c h => .inl h, fun _ h => h⟩⟩
def withinT {β : Type} : Eng.EF β
  | [.sint .i64 a g, .int .i64 (.ofNat 0), .int .i64 (.ofNat 13)], h, x, k => Eng.forkI g 14 (wth a) fun j => k (.int .i64 (.ofNat j)) h x
  | _, _, _, _ => none
def knownT {β : Type} : Eng.EF β
  | [], h, x, k => k (.bool true) h x
  | _, _, _, _ => none
def enc12T {β : Type} : Eng.EF β
  | [.agg [.int .i64 op, .int .i64 a, .int .i64 b, .sint .i32 n _]], h, x, k => match encU op a b n with
    | some (e, b0 :: bs) => Eng.resG e ((b0 :: bs).map fun n => .sint .u8 n 0) h x k
    | _ => none
  | vs, h, x, k => encT vs h x k
def T3 {β : Type} (call : Eng.CALL β) : Eng.CALL β := fun f vs h x k => match Nat.beq f 8 with
  | true => withinT vs h x k
  | false => match Nat.beq f 10 with
    | true => knownT vs h x k
    | false => match Nat.beq f 12 with
      | true => enc12T vs h x k
      | false => T2 call f vs h x k

end Go.Proofs.Ytjcjalmkjncoaaa.x86enc
