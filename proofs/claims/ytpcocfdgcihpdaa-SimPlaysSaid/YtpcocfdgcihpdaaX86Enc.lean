/-
  x86.Encode AND caraferef19.Encode MAKE THE SAME of every instruction: as trees of truths (plain law).
-/
import Derived.Test.YtpcocfdgcihpdaaProg
import Derived.Test.YtpcocfdgcihpdaaEngW
import Derived.KernelRfl
import Derived.IntWalk
set_option maxHeartbeats 64000000
set_option maxRecDepth 1000000
set_option linter.unusedVariables false
set_option linter.unusedSimpArgs false
namespace Go.Proofs.Ytpcocfdgcihpdaa.x86enc
open Go
open Go.Proofs.Ytpcocfdgcihpdaa
set_option linter.unusedVariables false
set_option linter.unusedSimpArgs false
theorem nd_congr {β : Type} {c : Bool} {x x' y y' : Option β} (h : c = true → x = x') (k : c = false → y = y') : Eng.nd c x y = Eng.nd c x' y' := by
  cases c
  · exact k rfl
  · exact h rfl
theorem reg_congr {β : Type} (a : Int) {L x x' : Option β} (h : (0 ≤ a ∧ a ≤ 15 ∧ a ≠ 4 ∧ a ≠ 5) → x = x') :
    Eng.nd (decide (0 ≤ a)) (Eng.nd (decide (a ≤ 15)) (Eng.nd (!decide (a = 4)) (Eng.nd (!!decide (a = 5)) L x) L) L) L = Eng.nd (decide (0 ≤ a)) (Eng.nd (decide (a ≤ 15)) (Eng.nd (!decide (a = 4)) (Eng.nd (!!decide (a = 5)) L x') L) L) L :=
  nd_congr (fun h1 => nd_congr (fun h2 => nd_congr (fun h3 => nd_congr (fun _ => rfl) fun h4 => h ⟨of_decide_eq_true h1, of_decide_eq_true h2, by simpa using h3, by simpa using h4⟩) fun _ => rfl) fun _ => rfl) fun _ => rfl
theorem lits {a : Int} (h : 0 ≤ a ∧ a ≤ 15 ∧ a ≠ 4 ∧ a ≠ 5) : a = 0 ∨ a = 1 ∨ a = 2 ∨ a = 3 ∨ a = 6 ∨ a = 7 ∨ a = 8 ∨ a = 9 ∨ a = 10 ∨ a = 11 ∨ a = 12 ∨ a = 13 ∨ a = 14 ∨ a = 15 := by omega
theorem fd0 (n : Int) : n.fdiv (2 ^ min (Int.ofNat Nat.zero).toNat IntKind.i32.bits) = n := by
  have : ((2 : Int) ^ min (Int.ofNat Nat.zero).toNat IntKind.i32.bits) = 1 := by decide
  rw [this]; exact Int.fdiv_one n
def t12_1 (a b n : Int) : Option (Int × List Int) :=
 (Eng.nd (decide (0 ≤ a))
 (Eng.nd (decide (a ≤ 15))
 (Eng.nd (!decide (a = 4))
 (Eng.nd (!!decide (a = 5)) (some ((Int.ofNat 1, [])))
 (Eng.nd (!decide (b = 0)) (some ((Int.ofNat 1, [])))
 (Eng.nd (decide (a = a))
 (Eng.nd (decide (b = b))
 (Eng.nd (decide (n = n))
 (Eng.nd (decide (a = a))
 (Eng.nd (decide (b = b))
 (Eng.nd (decide (n = n))
 (Eng.nd (decide (a = a))
 (Eng.nd (decide (b = b))
 (Eng.nd (decide (n = n))
 (Eng.nd (decide (64 < Go.IntKind.i64.wrap (Int.ofNat (Nat.succ 63) + Go.IntKind.i64.wrap (a.tdiv 8)))) (some ((Int.ofNat 0, [Go.IntKind.u8.wrap (Go.IntKind.i64.wrap (Int.ofNat (Nat.succ 63) + Go.IntKind.i64.wrap (a.tdiv 8))), Go.IntKind.u8.wrap (184 + Go.IntKind.u8.wrap (a.tmod 8)), Go.IntKind.u8.wrap (n.fdiv (2 ^ min (Int.ofNat Nat.zero).toNat Go.IntKind.i32.bits)), Go.IntKind.u8.wrap (n.fdiv (2 ^ min (Int.ofNat (Nat.succ 7)).toNat Go.IntKind.i32.bits)), Go.IntKind.u8.wrap (n.fdiv (2 ^ min (Int.ofNat (Nat.succ 15)).toNat Go.IntKind.i32.bits)), Go.IntKind.u8.wrap (n.fdiv (2 ^ min (Int.ofNat (Nat.succ 23)).toNat Go.IntKind.i32.bits))]))) (some ((Int.ofNat 0, [Go.IntKind.u8.wrap (184 + Go.IntKind.u8.wrap (a.tmod 8)), Go.IntKind.u8.wrap (n.fdiv (2 ^ min (Int.ofNat Nat.zero).toNat Go.IntKind.i32.bits)), Go.IntKind.u8.wrap (n.fdiv (2 ^ min (Int.ofNat (Nat.succ 7)).toNat Go.IntKind.i32.bits)), Go.IntKind.u8.wrap (n.fdiv (2 ^ min (Int.ofNat (Nat.succ 15)).toNat Go.IntKind.i32.bits)), Go.IntKind.u8.wrap (n.fdiv (2 ^ min (Int.ofNat (Nat.succ 23)).toNat Go.IntKind.i32.bits))])))) none) none) none) none) none) none) none) none) none))) (some ((Int.ofNat 1, [])))) (some ((Int.ofNat 1, [])))) (some ((Int.ofNat 1, []))))
def t13_1 (a b n : Int) : Option (Int × List Int) :=
 (Eng.nd (decide (0 ≤ a))
 (Eng.nd (decide (a ≤ 15))
 (Eng.nd (!decide (a = 4))
 (Eng.nd (!!decide (a = 5)) (some ((Int.ofNat 1, [])))
 (Eng.nd (!decide (b = 0)) (some ((Int.ofNat 1, [])))
 (Eng.nd (decide (7 < a))
 (Eng.nd (decide (n = n))
 (Eng.nd (decide (Go.IntKind.u8.wrap (Go.IntKind.i64.wrap (184 + a.tmod 8)) = Go.IntKind.u8.wrap (Go.IntKind.i64.wrap (184 + a.tmod 8))))
 (Eng.nd (decide (Go.IntKind.u8.wrap (Go.IntKind.i64.wrap (184 + a.tmod 8)) = Go.IntKind.u8.wrap (Go.IntKind.i64.wrap (184 + a.tmod 8))))
 (Eng.nd (decide (Go.IntKind.u8.wrap (Go.IntKind.i64.wrap (184 + a.tmod 8)) = Go.IntKind.u8.wrap (Go.IntKind.i64.wrap (184 + a.tmod 8))))
 (Eng.nd (decide (Go.IntKind.i64.wrap (184 + a.tmod 8) = Go.IntKind.i64.wrap (184 + a.tmod 8)))
 (Eng.nd (decide (a.tmod 8 = a.tmod 8))
 (Eng.nd (decide (a = a))
 (Eng.nd (decide (n = n)) (some ((Int.ofNat 0, [Int.ofNat 65, Go.IntKind.u8.wrap (Go.IntKind.i64.wrap (184 + a.tmod 8)), Go.IntKind.u8.wrap n, Go.IntKind.u8.wrap (n.fdiv (2 ^ min (Int.toNat 8) Go.IntKind.i32.bits)), Go.IntKind.u8.wrap (n.fdiv (2 ^ min (Int.toNat 16) Go.IntKind.i32.bits)), Go.IntKind.u8.wrap (n.fdiv (2 ^ min (Int.toNat 24) Go.IntKind.i32.bits))]))) none) none) none) none) none) none) none) none)
 (Eng.nd (decide (n = n))
 (Eng.nd (decide (Go.IntKind.u8.wrap (Go.IntKind.i64.wrap (184 + a.tmod 8)) = Go.IntKind.u8.wrap (Go.IntKind.i64.wrap (184 + a.tmod 8))))
 (Eng.nd (decide (Go.IntKind.u8.wrap (Go.IntKind.i64.wrap (184 + a.tmod 8)) = Go.IntKind.u8.wrap (Go.IntKind.i64.wrap (184 + a.tmod 8))))
 (Eng.nd (decide (Go.IntKind.u8.wrap (Go.IntKind.i64.wrap (184 + a.tmod 8)) = Go.IntKind.u8.wrap (Go.IntKind.i64.wrap (184 + a.tmod 8))))
 (Eng.nd (decide (Go.IntKind.i64.wrap (184 + a.tmod 8) = Go.IntKind.i64.wrap (184 + a.tmod 8)))
 (Eng.nd (decide (a.tmod 8 = a.tmod 8))
 (Eng.nd (decide (a = a))
 (Eng.nd (decide (n = n)) (some ((Int.ofNat 0, [Go.IntKind.u8.wrap (Go.IntKind.i64.wrap (184 + a.tmod 8)), Go.IntKind.u8.wrap n, Go.IntKind.u8.wrap (n.fdiv (2 ^ min (Int.toNat 8) Go.IntKind.i32.bits)), Go.IntKind.u8.wrap (n.fdiv (2 ^ min (Int.toNat 16) Go.IntKind.i32.bits)), Go.IntKind.u8.wrap (n.fdiv (2 ^ min (Int.toNat 24) Go.IntKind.i32.bits))]))) none) none) none) none) none) none) none) none)))) (some ((Int.ofNat 1, [])))) (some ((Int.ofNat 1, [])))) (some ((Int.ofNat 1, []))))
theorem eq_1 (a b n : Int) : t12_1 a b n = t13_1 a b n := by
  unfold t12_1 t13_1
  simp only [decide_true, Eng.nd_true, fd0]
  refine reg_congr a fun ha => ?_
  refine nd_congr (fun _ => rfl) fun h1 => ?_
  rcases lits ha with rfl | rfl | rfl | rfl | rfl | rfl | rfl | rfl | rfl | rfl | rfl | rfl | rfl | rfl <;> rfl
def t12_2 (a b n : Int) : Option (Int × List Int) :=
 (Eng.nd (decide (0 ≤ a))
 (Eng.nd (decide (a ≤ 15))
 (Eng.nd (!decide (a = 4))
 (Eng.nd (!!decide (a = 5)) (some ((Int.ofNat 1, [])))
 (Eng.nd (decide (0 ≤ b))
 (Eng.nd (decide (b ≤ 15))
 (Eng.nd (!decide (b = 4))
 (Eng.nd (!!decide (b = 5)) (some ((Int.ofNat 1, [])))
 (Eng.nd (!decide (n = 0)) (some ((Int.ofNat 1, [])))
 (Eng.nd (decide (a = a))
 (Eng.nd (decide (b = b))
 (Eng.nd (decide (n = n))
 (Eng.nd (decide (a = a))
 (Eng.nd (decide (b = b))
 (Eng.nd (decide (n = n))
 (Eng.nd (decide (a = a))
 (Eng.nd (decide (b = b))
 (Eng.nd (decide (n = n))
 (Eng.nd (decide (64 < Go.IntKind.i64.wrap (Go.IntKind.i64.wrap (64 + Go.IntKind.i64.wrap (4 * Go.IntKind.i64.wrap (b.tdiv 8))) + Go.IntKind.i64.wrap (a.tdiv 8)))) (some ((Int.ofNat 0, [Go.IntKind.u8.wrap (Go.IntKind.i64.wrap (Go.IntKind.i64.wrap (64 + Go.IntKind.i64.wrap (4 * Go.IntKind.i64.wrap (b.tdiv 8))) + Go.IntKind.i64.wrap (a.tdiv 8))), Int.ofNat 137, Go.IntKind.u8.wrap (Go.IntKind.i64.wrap (Go.IntKind.i64.wrap (192 + Go.IntKind.i64.wrap (8 * b.tmod 8)) + a.tmod 8))]))) (some ((Int.ofNat 0, [Int.ofNat 137, Go.IntKind.u8.wrap (Go.IntKind.i64.wrap (Go.IntKind.i64.wrap (192 + Go.IntKind.i64.wrap (8 * b.tmod 8)) + a.tmod 8))])))) none) none) none) none) none) none) none) none) none))) (some ((Int.ofNat 1, [])))) (some ((Int.ofNat 1, [])))) (some ((Int.ofNat 1, []))))) (some ((Int.ofNat 1, [])))) (some ((Int.ofNat 1, [])))) (some ((Int.ofNat 1, []))))
def t13_2 (a b n : Int) : Option (Int × List Int) :=
 (Eng.nd (decide (0 ≤ a))
 (Eng.nd (decide (a ≤ 15))
 (Eng.nd (!decide (a = 4))
 (Eng.nd (!!decide (a = 5)) (some ((Int.ofNat 1, [])))
 (Eng.nd (decide (0 ≤ b))
 (Eng.nd (decide (b ≤ 15))
 (Eng.nd (!decide (b = 4))
 (Eng.nd (!!decide (b = 5)) (some ((Int.ofNat 1, [])))
 (Eng.nd (!decide (n = 0)) (some ((Int.ofNat 1, [])))
 (Eng.nd (decide (a = a))
 (Eng.nd (decide (b = b))
 (Eng.nd (decide (7 < b))
 (Eng.nd (decide (7 < a)) (some ((Int.ofNat 0, [Int.ofNat (Nat.succ 68), Int.ofNat 137, Go.IntKind.u8.wrap (Go.IntKind.i64.wrap ↑(BitVec.ofInt Go.IntKind.i64.bits (Go.IntKind.i64.wrap ↑(BitVec.ofInt Go.IntKind.i64.bits 192 ||| BitVec.ofInt Go.IntKind.i64.bits (Go.IntKind.i64.wrap (b.tmod 8 * 2 ^ min (Int.toNat 3) Go.IntKind.i64.bits))).toNat) ||| BitVec.ofInt Go.IntKind.i64.bits (a.tmod 8)).toNat)]))) (some ((Int.ofNat 0, [Int.ofNat (Nat.succ 67), Int.ofNat 137, Go.IntKind.u8.wrap (Go.IntKind.i64.wrap ↑(BitVec.ofInt Go.IntKind.i64.bits (Go.IntKind.i64.wrap ↑(BitVec.ofInt Go.IntKind.i64.bits 192 ||| BitVec.ofInt Go.IntKind.i64.bits (Go.IntKind.i64.wrap (b.tmod 8 * 2 ^ min (Int.toNat 3) Go.IntKind.i64.bits))).toNat) ||| BitVec.ofInt Go.IntKind.i64.bits (a.tmod 8)).toNat)]))))
 (Eng.nd (decide (7 < a)) (some ((Int.ofNat 0, [Int.ofNat (Nat.succ 64), Int.ofNat 137, Go.IntKind.u8.wrap (Go.IntKind.i64.wrap ↑(BitVec.ofInt Go.IntKind.i64.bits (Go.IntKind.i64.wrap ↑(BitVec.ofInt Go.IntKind.i64.bits 192 ||| BitVec.ofInt Go.IntKind.i64.bits (Go.IntKind.i64.wrap (b.tmod 8 * 2 ^ min (Int.toNat 3) Go.IntKind.i64.bits))).toNat) ||| BitVec.ofInt Go.IntKind.i64.bits (a.tmod 8)).toNat)]))) (some ((Int.ofNat 0, [Int.ofNat 137, Go.IntKind.u8.wrap (Go.IntKind.i64.wrap ↑(BitVec.ofInt Go.IntKind.i64.bits (Go.IntKind.i64.wrap ↑(BitVec.ofInt Go.IntKind.i64.bits 192 ||| BitVec.ofInt Go.IntKind.i64.bits (Go.IntKind.i64.wrap (b.tmod 8 * 2 ^ min (Int.toNat 3) Go.IntKind.i64.bits))).toNat) ||| BitVec.ofInt Go.IntKind.i64.bits (a.tmod 8)).toNat)]))))) none) none))) (some ((Int.ofNat 1, [])))) (some ((Int.ofNat 1, [])))) (some ((Int.ofNat 1, []))))) (some ((Int.ofNat 1, [])))) (some ((Int.ofNat 1, [])))) (some ((Int.ofNat 1, []))))
theorem eq_2 (a b n : Int) : t12_2 a b n = t13_2 a b n := by
  unfold t12_2 t13_2
  simp only [decide_true, Eng.nd_true, fd0]
  refine reg_congr a fun ha => ?_
  refine reg_congr b fun hb => ?_
  refine nd_congr (fun _ => rfl) fun h2 => ?_
  rcases lits ha with rfl | rfl | rfl | rfl | rfl | rfl | rfl | rfl | rfl | rfl | rfl | rfl | rfl | rfl <;> rcases lits hb with rfl | rfl | rfl | rfl | rfl | rfl | rfl | rfl | rfl | rfl | rfl | rfl | rfl | rfl <;> rfl
def t12_3 (a b n : Int) : Option (Int × List Int) :=
 (Eng.nd (decide (0 ≤ a))
 (Eng.nd (decide (a ≤ 15))
 (Eng.nd (!decide (a = 4))
 (Eng.nd (!!decide (a = 5)) (some ((Int.ofNat 1, [])))
 (Eng.nd (!decide (b = 0)) (some ((Int.ofNat 1, [])))
 (Eng.nd (decide (a = a))
 (Eng.nd (decide (b = b))
 (Eng.nd (decide (n = n))
 (Eng.nd (decide (a = a))
 (Eng.nd (decide (b = b))
 (Eng.nd (decide (n = n))
 (Eng.nd (decide (a = a))
 (Eng.nd (decide (b = b))
 (Eng.nd (decide (n = n))
 (Eng.nd (decide (64 < Go.IntKind.i64.wrap (Go.IntKind.i64.wrap (64 + Go.IntKind.i64.wrap (4 * Go.IntKind.i64.wrap (a.tdiv 8))) + Int.ofNat Nat.zero))) (some ((Int.ofNat 0, [Go.IntKind.u8.wrap (Go.IntKind.i64.wrap (Go.IntKind.i64.wrap (64 + Go.IntKind.i64.wrap (4 * Go.IntKind.i64.wrap (a.tdiv 8))) + Int.ofNat Nat.zero)), Int.ofNat 139, Go.IntKind.u8.wrap (Go.IntKind.i64.wrap (133 + Go.IntKind.i64.wrap (8 * a.tmod 8))), Go.IntKind.u8.wrap (n.fdiv (2 ^ min (Int.ofNat Nat.zero).toNat Go.IntKind.i32.bits)), Go.IntKind.u8.wrap (n.fdiv (2 ^ min (Int.ofNat (Nat.succ 7)).toNat Go.IntKind.i32.bits)), Go.IntKind.u8.wrap (n.fdiv (2 ^ min (Int.ofNat (Nat.succ 15)).toNat Go.IntKind.i32.bits)), Go.IntKind.u8.wrap (n.fdiv (2 ^ min (Int.ofNat (Nat.succ 23)).toNat Go.IntKind.i32.bits))]))) (some ((Int.ofNat 0, [Int.ofNat 139, Go.IntKind.u8.wrap (Go.IntKind.i64.wrap (133 + Go.IntKind.i64.wrap (8 * a.tmod 8))), Go.IntKind.u8.wrap (n.fdiv (2 ^ min (Int.ofNat Nat.zero).toNat Go.IntKind.i32.bits)), Go.IntKind.u8.wrap (n.fdiv (2 ^ min (Int.ofNat (Nat.succ 7)).toNat Go.IntKind.i32.bits)), Go.IntKind.u8.wrap (n.fdiv (2 ^ min (Int.ofNat (Nat.succ 15)).toNat Go.IntKind.i32.bits)), Go.IntKind.u8.wrap (n.fdiv (2 ^ min (Int.ofNat (Nat.succ 23)).toNat Go.IntKind.i32.bits))])))) none) none) none) none) none) none) none) none) none))) (some ((Int.ofNat 1, [])))) (some ((Int.ofNat 1, [])))) (some ((Int.ofNat 1, []))))
def t13_3 (a b n : Int) : Option (Int × List Int) :=
 (Eng.nd (decide (0 ≤ a))
 (Eng.nd (decide (a ≤ 15))
 (Eng.nd (!decide (a = 4))
 (Eng.nd (!!decide (a = 5)) (some ((Int.ofNat 1, [])))
 (Eng.nd (!decide (b = 0)) (some ((Int.ofNat 1, [])))
 (Eng.nd (decide (n = n))
 (Eng.nd (decide (a = a))
 (Eng.nd (decide (7 < a))
 (Eng.nd (decide (n = n)) (some ((Int.ofNat 0, [Int.ofNat (Nat.succ 67), Int.ofNat 139, Go.IntKind.u8.wrap (Go.IntKind.i64.wrap ↑(BitVec.ofInt Go.IntKind.i64.bits (Go.IntKind.i64.wrap ↑(BitVec.ofInt Go.IntKind.i64.bits 128 ||| BitVec.ofInt Go.IntKind.i64.bits (Go.IntKind.i64.wrap (a.tmod 8 * 2 ^ min (Int.toNat 3) Go.IntKind.i64.bits))).toNat) ||| BitVec.ofInt Go.IntKind.i64.bits (Int.ofNat (Nat.succ 4))).toNat), Go.IntKind.u8.wrap n, Go.IntKind.u8.wrap (n.fdiv (2 ^ min (Int.toNat 8) Go.IntKind.i32.bits)), Go.IntKind.u8.wrap (n.fdiv (2 ^ min (Int.toNat 16) Go.IntKind.i32.bits)), Go.IntKind.u8.wrap (n.fdiv (2 ^ min (Int.toNat 24) Go.IntKind.i32.bits))]))) none)
 (Eng.nd (decide (n = n)) (some ((Int.ofNat 0, [Int.ofNat 139, Go.IntKind.u8.wrap (Go.IntKind.i64.wrap ↑(BitVec.ofInt Go.IntKind.i64.bits (Go.IntKind.i64.wrap ↑(BitVec.ofInt Go.IntKind.i64.bits 128 ||| BitVec.ofInt Go.IntKind.i64.bits (Go.IntKind.i64.wrap (a.tmod 8 * 2 ^ min (Int.toNat 3) Go.IntKind.i64.bits))).toNat) ||| BitVec.ofInt Go.IntKind.i64.bits (Int.ofNat (Nat.succ 4))).toNat), Go.IntKind.u8.wrap n, Go.IntKind.u8.wrap (n.fdiv (2 ^ min (Int.toNat 8) Go.IntKind.i32.bits)), Go.IntKind.u8.wrap (n.fdiv (2 ^ min (Int.toNat 16) Go.IntKind.i32.bits)), Go.IntKind.u8.wrap (n.fdiv (2 ^ min (Int.toNat 24) Go.IntKind.i32.bits))]))) none)) none) none))) (some ((Int.ofNat 1, [])))) (some ((Int.ofNat 1, [])))) (some ((Int.ofNat 1, []))))
theorem eq_3 (a b n : Int) : t12_3 a b n = t13_3 a b n := by
  unfold t12_3 t13_3
  simp only [decide_true, Eng.nd_true, fd0]
  refine reg_congr a fun ha => ?_
  refine nd_congr (fun _ => rfl) fun h1 => ?_
  rcases lits ha with rfl | rfl | rfl | rfl | rfl | rfl | rfl | rfl | rfl | rfl | rfl | rfl | rfl | rfl <;> rfl
def t12_4 (a b n : Int) : Option (Int × List Int) :=
 (Eng.nd (decide (0 ≤ a))
 (Eng.nd (decide (a ≤ 15))
 (Eng.nd (!decide (a = 4))
 (Eng.nd (!!decide (a = 5)) (some ((Int.ofNat 1, [])))
 (Eng.nd (!decide (b = 0)) (some ((Int.ofNat 1, [])))
 (Eng.nd (decide (a = a))
 (Eng.nd (decide (b = b))
 (Eng.nd (decide (n = n))
 (Eng.nd (decide (a = a))
 (Eng.nd (decide (b = b))
 (Eng.nd (decide (n = n))
 (Eng.nd (decide (a = a))
 (Eng.nd (decide (b = b))
 (Eng.nd (decide (n = n))
 (Eng.nd (decide (64 < Go.IntKind.i64.wrap (Go.IntKind.i64.wrap (64 + Go.IntKind.i64.wrap (4 * Go.IntKind.i64.wrap (a.tdiv 8))) + Int.ofNat Nat.zero))) (some ((Int.ofNat 0, [Go.IntKind.u8.wrap (Go.IntKind.i64.wrap (Go.IntKind.i64.wrap (64 + Go.IntKind.i64.wrap (4 * Go.IntKind.i64.wrap (a.tdiv 8))) + Int.ofNat Nat.zero)), Int.ofNat 137, Go.IntKind.u8.wrap (Go.IntKind.i64.wrap (133 + Go.IntKind.i64.wrap (8 * a.tmod 8))), Go.IntKind.u8.wrap (n.fdiv (2 ^ min (Int.ofNat Nat.zero).toNat Go.IntKind.i32.bits)), Go.IntKind.u8.wrap (n.fdiv (2 ^ min (Int.ofNat (Nat.succ 7)).toNat Go.IntKind.i32.bits)), Go.IntKind.u8.wrap (n.fdiv (2 ^ min (Int.ofNat (Nat.succ 15)).toNat Go.IntKind.i32.bits)), Go.IntKind.u8.wrap (n.fdiv (2 ^ min (Int.ofNat (Nat.succ 23)).toNat Go.IntKind.i32.bits))]))) (some ((Int.ofNat 0, [Int.ofNat 137, Go.IntKind.u8.wrap (Go.IntKind.i64.wrap (133 + Go.IntKind.i64.wrap (8 * a.tmod 8))), Go.IntKind.u8.wrap (n.fdiv (2 ^ min (Int.ofNat Nat.zero).toNat Go.IntKind.i32.bits)), Go.IntKind.u8.wrap (n.fdiv (2 ^ min (Int.ofNat (Nat.succ 7)).toNat Go.IntKind.i32.bits)), Go.IntKind.u8.wrap (n.fdiv (2 ^ min (Int.ofNat (Nat.succ 15)).toNat Go.IntKind.i32.bits)), Go.IntKind.u8.wrap (n.fdiv (2 ^ min (Int.ofNat (Nat.succ 23)).toNat Go.IntKind.i32.bits))])))) none) none) none) none) none) none) none) none) none))) (some ((Int.ofNat 1, [])))) (some ((Int.ofNat 1, [])))) (some ((Int.ofNat 1, []))))
def t13_4 (a b n : Int) : Option (Int × List Int) :=
 (Eng.nd (decide (0 ≤ a))
 (Eng.nd (decide (a ≤ 15))
 (Eng.nd (!decide (a = 4))
 (Eng.nd (!!decide (a = 5)) (some ((Int.ofNat 1, [])))
 (Eng.nd (!decide (b = 0)) (some ((Int.ofNat 1, [])))
 (Eng.nd (decide (n = n))
 (Eng.nd (decide (a = a))
 (Eng.nd (decide (7 < a))
 (Eng.nd (decide (n = n)) (some ((Int.ofNat 0, [Int.ofNat (Nat.succ 67), Int.ofNat 137, Go.IntKind.u8.wrap (Go.IntKind.i64.wrap ↑(BitVec.ofInt Go.IntKind.i64.bits (Go.IntKind.i64.wrap ↑(BitVec.ofInt Go.IntKind.i64.bits 128 ||| BitVec.ofInt Go.IntKind.i64.bits (Go.IntKind.i64.wrap (a.tmod 8 * 2 ^ min (Int.toNat 3) Go.IntKind.i64.bits))).toNat) ||| BitVec.ofInt Go.IntKind.i64.bits (Int.ofNat (Nat.succ 4))).toNat), Go.IntKind.u8.wrap n, Go.IntKind.u8.wrap (n.fdiv (2 ^ min (Int.toNat 8) Go.IntKind.i32.bits)), Go.IntKind.u8.wrap (n.fdiv (2 ^ min (Int.toNat 16) Go.IntKind.i32.bits)), Go.IntKind.u8.wrap (n.fdiv (2 ^ min (Int.toNat 24) Go.IntKind.i32.bits))]))) none)
 (Eng.nd (decide (n = n)) (some ((Int.ofNat 0, [Int.ofNat 137, Go.IntKind.u8.wrap (Go.IntKind.i64.wrap ↑(BitVec.ofInt Go.IntKind.i64.bits (Go.IntKind.i64.wrap ↑(BitVec.ofInt Go.IntKind.i64.bits 128 ||| BitVec.ofInt Go.IntKind.i64.bits (Go.IntKind.i64.wrap (a.tmod 8 * 2 ^ min (Int.toNat 3) Go.IntKind.i64.bits))).toNat) ||| BitVec.ofInt Go.IntKind.i64.bits (Int.ofNat (Nat.succ 4))).toNat), Go.IntKind.u8.wrap n, Go.IntKind.u8.wrap (n.fdiv (2 ^ min (Int.toNat 8) Go.IntKind.i32.bits)), Go.IntKind.u8.wrap (n.fdiv (2 ^ min (Int.toNat 16) Go.IntKind.i32.bits)), Go.IntKind.u8.wrap (n.fdiv (2 ^ min (Int.toNat 24) Go.IntKind.i32.bits))]))) none)) none) none))) (some ((Int.ofNat 1, [])))) (some ((Int.ofNat 1, [])))) (some ((Int.ofNat 1, []))))
theorem eq_4 (a b n : Int) : t12_4 a b n = t13_4 a b n := by
  unfold t12_4 t13_4
  simp only [decide_true, Eng.nd_true, fd0]
  refine reg_congr a fun ha => ?_
  refine nd_congr (fun _ => rfl) fun h1 => ?_
  rcases lits ha with rfl | rfl | rfl | rfl | rfl | rfl | rfl | rfl | rfl | rfl | rfl | rfl | rfl | rfl <;> rfl
def t12_5 (a b n : Int) : Option (Int × List Int) :=
 (Eng.nd (decide (0 ≤ a))
 (Eng.nd (decide (a ≤ 15))
 (Eng.nd (!decide (a = 4))
 (Eng.nd (!!decide (a = 5)) (some ((Int.ofNat 1, [])))
 (Eng.nd (decide (0 ≤ b))
 (Eng.nd (decide (b ≤ 15))
 (Eng.nd (!decide (b = 4))
 (Eng.nd (!!decide (b = 5)) (some ((Int.ofNat 1, [])))
 (Eng.nd (!decide (n = 0)) (some ((Int.ofNat 1, [])))
 (Eng.nd (decide (a = a))
 (Eng.nd (decide (b = b))
 (Eng.nd (decide (n = n))
 (Eng.nd (decide (a = a))
 (Eng.nd (decide (b = b))
 (Eng.nd (decide (n = n))
 (Eng.nd (decide (a = a))
 (Eng.nd (decide (b = b))
 (Eng.nd (decide (n = n))
 (Eng.nd (decide (64 < Go.IntKind.i64.wrap (Go.IntKind.i64.wrap (64 + Go.IntKind.i64.wrap (4 * Go.IntKind.i64.wrap (b.tdiv 8))) + Go.IntKind.i64.wrap (a.tdiv 8)))) (some ((Int.ofNat 0, [Go.IntKind.u8.wrap (Go.IntKind.i64.wrap (Go.IntKind.i64.wrap (64 + Go.IntKind.i64.wrap (4 * Go.IntKind.i64.wrap (b.tdiv 8))) + Go.IntKind.i64.wrap (a.tdiv 8))), Int.ofNat 1, Go.IntKind.u8.wrap (Go.IntKind.i64.wrap (Go.IntKind.i64.wrap (192 + Go.IntKind.i64.wrap (8 * b.tmod 8)) + a.tmod 8))]))) (some ((Int.ofNat 0, [Int.ofNat 1, Go.IntKind.u8.wrap (Go.IntKind.i64.wrap (Go.IntKind.i64.wrap (192 + Go.IntKind.i64.wrap (8 * b.tmod 8)) + a.tmod 8))])))) none) none) none) none) none) none) none) none) none))) (some ((Int.ofNat 1, [])))) (some ((Int.ofNat 1, [])))) (some ((Int.ofNat 1, []))))) (some ((Int.ofNat 1, [])))) (some ((Int.ofNat 1, [])))) (some ((Int.ofNat 1, []))))
def t13_5 (a b n : Int) : Option (Int × List Int) :=
 (Eng.nd (decide (0 ≤ a))
 (Eng.nd (decide (a ≤ 15))
 (Eng.nd (!decide (a = 4))
 (Eng.nd (!!decide (a = 5)) (some ((Int.ofNat 1, [])))
 (Eng.nd (decide (0 ≤ b))
 (Eng.nd (decide (b ≤ 15))
 (Eng.nd (!decide (b = 4))
 (Eng.nd (!!decide (b = 5)) (some ((Int.ofNat 1, [])))
 (Eng.nd (!decide (n = 0)) (some ((Int.ofNat 1, [])))
 (Eng.nd (decide (a = a))
 (Eng.nd (decide (b = b))
 (Eng.nd (decide (7 < b))
 (Eng.nd (decide (7 < a)) (some ((Int.ofNat 0, [Int.ofNat (Nat.succ 68), Int.ofNat 1, Go.IntKind.u8.wrap (Go.IntKind.i64.wrap ↑(BitVec.ofInt Go.IntKind.i64.bits (Go.IntKind.i64.wrap ↑(BitVec.ofInt Go.IntKind.i64.bits 192 ||| BitVec.ofInt Go.IntKind.i64.bits (Go.IntKind.i64.wrap (b.tmod 8 * 2 ^ min (Int.toNat 3) Go.IntKind.i64.bits))).toNat) ||| BitVec.ofInt Go.IntKind.i64.bits (a.tmod 8)).toNat)]))) (some ((Int.ofNat 0, [Int.ofNat (Nat.succ 67), Int.ofNat 1, Go.IntKind.u8.wrap (Go.IntKind.i64.wrap ↑(BitVec.ofInt Go.IntKind.i64.bits (Go.IntKind.i64.wrap ↑(BitVec.ofInt Go.IntKind.i64.bits 192 ||| BitVec.ofInt Go.IntKind.i64.bits (Go.IntKind.i64.wrap (b.tmod 8 * 2 ^ min (Int.toNat 3) Go.IntKind.i64.bits))).toNat) ||| BitVec.ofInt Go.IntKind.i64.bits (a.tmod 8)).toNat)]))))
 (Eng.nd (decide (7 < a)) (some ((Int.ofNat 0, [Int.ofNat (Nat.succ 64), Int.ofNat 1, Go.IntKind.u8.wrap (Go.IntKind.i64.wrap ↑(BitVec.ofInt Go.IntKind.i64.bits (Go.IntKind.i64.wrap ↑(BitVec.ofInt Go.IntKind.i64.bits 192 ||| BitVec.ofInt Go.IntKind.i64.bits (Go.IntKind.i64.wrap (b.tmod 8 * 2 ^ min (Int.toNat 3) Go.IntKind.i64.bits))).toNat) ||| BitVec.ofInt Go.IntKind.i64.bits (a.tmod 8)).toNat)]))) (some ((Int.ofNat 0, [Int.ofNat 1, Go.IntKind.u8.wrap (Go.IntKind.i64.wrap ↑(BitVec.ofInt Go.IntKind.i64.bits (Go.IntKind.i64.wrap ↑(BitVec.ofInt Go.IntKind.i64.bits 192 ||| BitVec.ofInt Go.IntKind.i64.bits (Go.IntKind.i64.wrap (b.tmod 8 * 2 ^ min (Int.toNat 3) Go.IntKind.i64.bits))).toNat) ||| BitVec.ofInt Go.IntKind.i64.bits (a.tmod 8)).toNat)]))))) none) none))) (some ((Int.ofNat 1, [])))) (some ((Int.ofNat 1, [])))) (some ((Int.ofNat 1, []))))) (some ((Int.ofNat 1, [])))) (some ((Int.ofNat 1, [])))) (some ((Int.ofNat 1, []))))
theorem eq_5 (a b n : Int) : t12_5 a b n = t13_5 a b n := by
  unfold t12_5 t13_5
  simp only [decide_true, Eng.nd_true, fd0]
  refine reg_congr a fun ha => ?_
  refine reg_congr b fun hb => ?_
  refine nd_congr (fun _ => rfl) fun h2 => ?_
  rcases lits ha with rfl | rfl | rfl | rfl | rfl | rfl | rfl | rfl | rfl | rfl | rfl | rfl | rfl | rfl <;> rcases lits hb with rfl | rfl | rfl | rfl | rfl | rfl | rfl | rfl | rfl | rfl | rfl | rfl | rfl | rfl <;> rfl
def t12_6 (a b n : Int) : Option (Int × List Int) :=
 (Eng.nd (decide (0 ≤ a))
 (Eng.nd (decide (a ≤ 15))
 (Eng.nd (!decide (a = 4))
 (Eng.nd (!!decide (a = 5)) (some ((Int.ofNat 1, [])))
 (Eng.nd (decide (0 ≤ b))
 (Eng.nd (decide (b ≤ 15))
 (Eng.nd (!decide (b = 4))
 (Eng.nd (!!decide (b = 5)) (some ((Int.ofNat 1, [])))
 (Eng.nd (!decide (n = 0)) (some ((Int.ofNat 1, [])))
 (Eng.nd (decide (a = a))
 (Eng.nd (decide (b = b))
 (Eng.nd (decide (n = n))
 (Eng.nd (decide (a = a))
 (Eng.nd (decide (b = b))
 (Eng.nd (decide (n = n))
 (Eng.nd (decide (a = a))
 (Eng.nd (decide (b = b))
 (Eng.nd (decide (n = n))
 (Eng.nd (decide (64 < Go.IntKind.i64.wrap (Go.IntKind.i64.wrap (64 + Go.IntKind.i64.wrap (4 * Go.IntKind.i64.wrap (b.tdiv 8))) + Go.IntKind.i64.wrap (a.tdiv 8)))) (some ((Int.ofNat 0, [Go.IntKind.u8.wrap (Go.IntKind.i64.wrap (Go.IntKind.i64.wrap (64 + Go.IntKind.i64.wrap (4 * Go.IntKind.i64.wrap (b.tdiv 8))) + Go.IntKind.i64.wrap (a.tdiv 8))), Int.ofNat 9, Go.IntKind.u8.wrap (Go.IntKind.i64.wrap (Go.IntKind.i64.wrap (192 + Go.IntKind.i64.wrap (8 * b.tmod 8)) + a.tmod 8))]))) (some ((Int.ofNat 0, [Int.ofNat 9, Go.IntKind.u8.wrap (Go.IntKind.i64.wrap (Go.IntKind.i64.wrap (192 + Go.IntKind.i64.wrap (8 * b.tmod 8)) + a.tmod 8))])))) none) none) none) none) none) none) none) none) none))) (some ((Int.ofNat 1, [])))) (some ((Int.ofNat 1, [])))) (some ((Int.ofNat 1, []))))) (some ((Int.ofNat 1, [])))) (some ((Int.ofNat 1, [])))) (some ((Int.ofNat 1, []))))
def t13_6 (a b n : Int) : Option (Int × List Int) :=
 (Eng.nd (decide (0 ≤ a))
 (Eng.nd (decide (a ≤ 15))
 (Eng.nd (!decide (a = 4))
 (Eng.nd (!!decide (a = 5)) (some ((Int.ofNat 1, [])))
 (Eng.nd (decide (0 ≤ b))
 (Eng.nd (decide (b ≤ 15))
 (Eng.nd (!decide (b = 4))
 (Eng.nd (!!decide (b = 5)) (some ((Int.ofNat 1, [])))
 (Eng.nd (!decide (n = 0)) (some ((Int.ofNat 1, [])))
 (Eng.nd (decide (a = a))
 (Eng.nd (decide (b = b))
 (Eng.nd (decide (7 < b))
 (Eng.nd (decide (7 < a)) (some ((Int.ofNat 0, [Int.ofNat (Nat.succ 68), Int.ofNat 9, Go.IntKind.u8.wrap (Go.IntKind.i64.wrap ↑(BitVec.ofInt Go.IntKind.i64.bits (Go.IntKind.i64.wrap ↑(BitVec.ofInt Go.IntKind.i64.bits 192 ||| BitVec.ofInt Go.IntKind.i64.bits (Go.IntKind.i64.wrap (b.tmod 8 * 2 ^ min (Int.toNat 3) Go.IntKind.i64.bits))).toNat) ||| BitVec.ofInt Go.IntKind.i64.bits (a.tmod 8)).toNat)]))) (some ((Int.ofNat 0, [Int.ofNat (Nat.succ 67), Int.ofNat 9, Go.IntKind.u8.wrap (Go.IntKind.i64.wrap ↑(BitVec.ofInt Go.IntKind.i64.bits (Go.IntKind.i64.wrap ↑(BitVec.ofInt Go.IntKind.i64.bits 192 ||| BitVec.ofInt Go.IntKind.i64.bits (Go.IntKind.i64.wrap (b.tmod 8 * 2 ^ min (Int.toNat 3) Go.IntKind.i64.bits))).toNat) ||| BitVec.ofInt Go.IntKind.i64.bits (a.tmod 8)).toNat)]))))
 (Eng.nd (decide (7 < a)) (some ((Int.ofNat 0, [Int.ofNat (Nat.succ 64), Int.ofNat 9, Go.IntKind.u8.wrap (Go.IntKind.i64.wrap ↑(BitVec.ofInt Go.IntKind.i64.bits (Go.IntKind.i64.wrap ↑(BitVec.ofInt Go.IntKind.i64.bits 192 ||| BitVec.ofInt Go.IntKind.i64.bits (Go.IntKind.i64.wrap (b.tmod 8 * 2 ^ min (Int.toNat 3) Go.IntKind.i64.bits))).toNat) ||| BitVec.ofInt Go.IntKind.i64.bits (a.tmod 8)).toNat)]))) (some ((Int.ofNat 0, [Int.ofNat 9, Go.IntKind.u8.wrap (Go.IntKind.i64.wrap ↑(BitVec.ofInt Go.IntKind.i64.bits (Go.IntKind.i64.wrap ↑(BitVec.ofInt Go.IntKind.i64.bits 192 ||| BitVec.ofInt Go.IntKind.i64.bits (Go.IntKind.i64.wrap (b.tmod 8 * 2 ^ min (Int.toNat 3) Go.IntKind.i64.bits))).toNat) ||| BitVec.ofInt Go.IntKind.i64.bits (a.tmod 8)).toNat)]))))) none) none))) (some ((Int.ofNat 1, [])))) (some ((Int.ofNat 1, [])))) (some ((Int.ofNat 1, []))))) (some ((Int.ofNat 1, [])))) (some ((Int.ofNat 1, [])))) (some ((Int.ofNat 1, []))))
theorem eq_6 (a b n : Int) : t12_6 a b n = t13_6 a b n := by
  unfold t12_6 t13_6
  simp only [decide_true, Eng.nd_true, fd0]
  refine reg_congr a fun ha => ?_
  refine reg_congr b fun hb => ?_
  refine nd_congr (fun _ => rfl) fun h2 => ?_
  rcases lits ha with rfl | rfl | rfl | rfl | rfl | rfl | rfl | rfl | rfl | rfl | rfl | rfl | rfl | rfl <;> rcases lits hb with rfl | rfl | rfl | rfl | rfl | rfl | rfl | rfl | rfl | rfl | rfl | rfl | rfl | rfl <;> rfl
def t12_7 (a b n : Int) : Option (Int × List Int) :=
 (Eng.nd (decide (0 ≤ a))
 (Eng.nd (decide (a ≤ 15))
 (Eng.nd (!decide (a = 4))
 (Eng.nd (!!decide (a = 5)) (some ((Int.ofNat 1, [])))
 (Eng.nd (decide (0 ≤ b))
 (Eng.nd (decide (b ≤ 15))
 (Eng.nd (!decide (b = 4))
 (Eng.nd (!!decide (b = 5)) (some ((Int.ofNat 1, [])))
 (Eng.nd (!decide (n = 0)) (some ((Int.ofNat 1, [])))
 (Eng.nd (decide (a = a))
 (Eng.nd (decide (b = b))
 (Eng.nd (decide (n = n))
 (Eng.nd (decide (a = a))
 (Eng.nd (decide (b = b))
 (Eng.nd (decide (n = n))
 (Eng.nd (decide (a = a))
 (Eng.nd (decide (b = b))
 (Eng.nd (decide (n = n))
 (Eng.nd (decide (64 < Go.IntKind.i64.wrap (Go.IntKind.i64.wrap (64 + Go.IntKind.i64.wrap (4 * Go.IntKind.i64.wrap (b.tdiv 8))) + Go.IntKind.i64.wrap (a.tdiv 8)))) (some ((Int.ofNat 0, [Go.IntKind.u8.wrap (Go.IntKind.i64.wrap (Go.IntKind.i64.wrap (64 + Go.IntKind.i64.wrap (4 * Go.IntKind.i64.wrap (b.tdiv 8))) + Go.IntKind.i64.wrap (a.tdiv 8))), Int.ofNat 33, Go.IntKind.u8.wrap (Go.IntKind.i64.wrap (Go.IntKind.i64.wrap (192 + Go.IntKind.i64.wrap (8 * b.tmod 8)) + a.tmod 8))]))) (some ((Int.ofNat 0, [Int.ofNat 33, Go.IntKind.u8.wrap (Go.IntKind.i64.wrap (Go.IntKind.i64.wrap (192 + Go.IntKind.i64.wrap (8 * b.tmod 8)) + a.tmod 8))])))) none) none) none) none) none) none) none) none) none))) (some ((Int.ofNat 1, [])))) (some ((Int.ofNat 1, [])))) (some ((Int.ofNat 1, []))))) (some ((Int.ofNat 1, [])))) (some ((Int.ofNat 1, [])))) (some ((Int.ofNat 1, []))))
def t13_7 (a b n : Int) : Option (Int × List Int) :=
 (Eng.nd (decide (0 ≤ a))
 (Eng.nd (decide (a ≤ 15))
 (Eng.nd (!decide (a = 4))
 (Eng.nd (!!decide (a = 5)) (some ((Int.ofNat 1, [])))
 (Eng.nd (decide (0 ≤ b))
 (Eng.nd (decide (b ≤ 15))
 (Eng.nd (!decide (b = 4))
 (Eng.nd (!!decide (b = 5)) (some ((Int.ofNat 1, [])))
 (Eng.nd (!decide (n = 0)) (some ((Int.ofNat 1, [])))
 (Eng.nd (decide (a = a))
 (Eng.nd (decide (b = b))
 (Eng.nd (decide (7 < b))
 (Eng.nd (decide (7 < a)) (some ((Int.ofNat 0, [Int.ofNat (Nat.succ 68), Int.ofNat 33, Go.IntKind.u8.wrap (Go.IntKind.i64.wrap ↑(BitVec.ofInt Go.IntKind.i64.bits (Go.IntKind.i64.wrap ↑(BitVec.ofInt Go.IntKind.i64.bits 192 ||| BitVec.ofInt Go.IntKind.i64.bits (Go.IntKind.i64.wrap (b.tmod 8 * 2 ^ min (Int.toNat 3) Go.IntKind.i64.bits))).toNat) ||| BitVec.ofInt Go.IntKind.i64.bits (a.tmod 8)).toNat)]))) (some ((Int.ofNat 0, [Int.ofNat (Nat.succ 67), Int.ofNat 33, Go.IntKind.u8.wrap (Go.IntKind.i64.wrap ↑(BitVec.ofInt Go.IntKind.i64.bits (Go.IntKind.i64.wrap ↑(BitVec.ofInt Go.IntKind.i64.bits 192 ||| BitVec.ofInt Go.IntKind.i64.bits (Go.IntKind.i64.wrap (b.tmod 8 * 2 ^ min (Int.toNat 3) Go.IntKind.i64.bits))).toNat) ||| BitVec.ofInt Go.IntKind.i64.bits (a.tmod 8)).toNat)]))))
 (Eng.nd (decide (7 < a)) (some ((Int.ofNat 0, [Int.ofNat (Nat.succ 64), Int.ofNat 33, Go.IntKind.u8.wrap (Go.IntKind.i64.wrap ↑(BitVec.ofInt Go.IntKind.i64.bits (Go.IntKind.i64.wrap ↑(BitVec.ofInt Go.IntKind.i64.bits 192 ||| BitVec.ofInt Go.IntKind.i64.bits (Go.IntKind.i64.wrap (b.tmod 8 * 2 ^ min (Int.toNat 3) Go.IntKind.i64.bits))).toNat) ||| BitVec.ofInt Go.IntKind.i64.bits (a.tmod 8)).toNat)]))) (some ((Int.ofNat 0, [Int.ofNat 33, Go.IntKind.u8.wrap (Go.IntKind.i64.wrap ↑(BitVec.ofInt Go.IntKind.i64.bits (Go.IntKind.i64.wrap ↑(BitVec.ofInt Go.IntKind.i64.bits 192 ||| BitVec.ofInt Go.IntKind.i64.bits (Go.IntKind.i64.wrap (b.tmod 8 * 2 ^ min (Int.toNat 3) Go.IntKind.i64.bits))).toNat) ||| BitVec.ofInt Go.IntKind.i64.bits (a.tmod 8)).toNat)]))))) none) none))) (some ((Int.ofNat 1, [])))) (some ((Int.ofNat 1, [])))) (some ((Int.ofNat 1, []))))) (some ((Int.ofNat 1, [])))) (some ((Int.ofNat 1, [])))) (some ((Int.ofNat 1, []))))
theorem eq_7 (a b n : Int) : t12_7 a b n = t13_7 a b n := by
  unfold t12_7 t13_7
  simp only [decide_true, Eng.nd_true, fd0]
  refine reg_congr a fun ha => ?_
  refine reg_congr b fun hb => ?_
  refine nd_congr (fun _ => rfl) fun h2 => ?_
  rcases lits ha with rfl | rfl | rfl | rfl | rfl | rfl | rfl | rfl | rfl | rfl | rfl | rfl | rfl | rfl <;> rcases lits hb with rfl | rfl | rfl | rfl | rfl | rfl | rfl | rfl | rfl | rfl | rfl | rfl | rfl | rfl <;> rfl
def t12_8 (a b n : Int) : Option (Int × List Int) :=
 (Eng.nd (decide (0 ≤ a))
 (Eng.nd (decide (a ≤ 15))
 (Eng.nd (!decide (a = 4))
 (Eng.nd (!!decide (a = 5)) (some ((Int.ofNat 1, [])))
 (Eng.nd (decide (0 ≤ b))
 (Eng.nd (decide (b ≤ 15))
 (Eng.nd (!decide (b = 4))
 (Eng.nd (!!decide (b = 5)) (some ((Int.ofNat 1, [])))
 (Eng.nd (!decide (n = 0)) (some ((Int.ofNat 1, [])))
 (Eng.nd (decide (a = a))
 (Eng.nd (decide (b = b))
 (Eng.nd (decide (n = n))
 (Eng.nd (decide (a = a))
 (Eng.nd (decide (b = b))
 (Eng.nd (decide (n = n))
 (Eng.nd (decide (a = a))
 (Eng.nd (decide (b = b))
 (Eng.nd (decide (n = n))
 (Eng.nd (decide (64 < Go.IntKind.i64.wrap (Go.IntKind.i64.wrap (64 + Go.IntKind.i64.wrap (4 * Go.IntKind.i64.wrap (b.tdiv 8))) + Go.IntKind.i64.wrap (a.tdiv 8)))) (some ((Int.ofNat 0, [Go.IntKind.u8.wrap (Go.IntKind.i64.wrap (Go.IntKind.i64.wrap (64 + Go.IntKind.i64.wrap (4 * Go.IntKind.i64.wrap (b.tdiv 8))) + Go.IntKind.i64.wrap (a.tdiv 8))), Int.ofNat 41, Go.IntKind.u8.wrap (Go.IntKind.i64.wrap (Go.IntKind.i64.wrap (192 + Go.IntKind.i64.wrap (8 * b.tmod 8)) + a.tmod 8))]))) (some ((Int.ofNat 0, [Int.ofNat 41, Go.IntKind.u8.wrap (Go.IntKind.i64.wrap (Go.IntKind.i64.wrap (192 + Go.IntKind.i64.wrap (8 * b.tmod 8)) + a.tmod 8))])))) none) none) none) none) none) none) none) none) none))) (some ((Int.ofNat 1, [])))) (some ((Int.ofNat 1, [])))) (some ((Int.ofNat 1, []))))) (some ((Int.ofNat 1, [])))) (some ((Int.ofNat 1, [])))) (some ((Int.ofNat 1, []))))
def t13_8 (a b n : Int) : Option (Int × List Int) :=
 (Eng.nd (decide (0 ≤ a))
 (Eng.nd (decide (a ≤ 15))
 (Eng.nd (!decide (a = 4))
 (Eng.nd (!!decide (a = 5)) (some ((Int.ofNat 1, [])))
 (Eng.nd (decide (0 ≤ b))
 (Eng.nd (decide (b ≤ 15))
 (Eng.nd (!decide (b = 4))
 (Eng.nd (!!decide (b = 5)) (some ((Int.ofNat 1, [])))
 (Eng.nd (!decide (n = 0)) (some ((Int.ofNat 1, [])))
 (Eng.nd (decide (a = a))
 (Eng.nd (decide (b = b))
 (Eng.nd (decide (7 < b))
 (Eng.nd (decide (7 < a)) (some ((Int.ofNat 0, [Int.ofNat (Nat.succ 68), Int.ofNat 41, Go.IntKind.u8.wrap (Go.IntKind.i64.wrap ↑(BitVec.ofInt Go.IntKind.i64.bits (Go.IntKind.i64.wrap ↑(BitVec.ofInt Go.IntKind.i64.bits 192 ||| BitVec.ofInt Go.IntKind.i64.bits (Go.IntKind.i64.wrap (b.tmod 8 * 2 ^ min (Int.toNat 3) Go.IntKind.i64.bits))).toNat) ||| BitVec.ofInt Go.IntKind.i64.bits (a.tmod 8)).toNat)]))) (some ((Int.ofNat 0, [Int.ofNat (Nat.succ 67), Int.ofNat 41, Go.IntKind.u8.wrap (Go.IntKind.i64.wrap ↑(BitVec.ofInt Go.IntKind.i64.bits (Go.IntKind.i64.wrap ↑(BitVec.ofInt Go.IntKind.i64.bits 192 ||| BitVec.ofInt Go.IntKind.i64.bits (Go.IntKind.i64.wrap (b.tmod 8 * 2 ^ min (Int.toNat 3) Go.IntKind.i64.bits))).toNat) ||| BitVec.ofInt Go.IntKind.i64.bits (a.tmod 8)).toNat)]))))
 (Eng.nd (decide (7 < a)) (some ((Int.ofNat 0, [Int.ofNat (Nat.succ 64), Int.ofNat 41, Go.IntKind.u8.wrap (Go.IntKind.i64.wrap ↑(BitVec.ofInt Go.IntKind.i64.bits (Go.IntKind.i64.wrap ↑(BitVec.ofInt Go.IntKind.i64.bits 192 ||| BitVec.ofInt Go.IntKind.i64.bits (Go.IntKind.i64.wrap (b.tmod 8 * 2 ^ min (Int.toNat 3) Go.IntKind.i64.bits))).toNat) ||| BitVec.ofInt Go.IntKind.i64.bits (a.tmod 8)).toNat)]))) (some ((Int.ofNat 0, [Int.ofNat 41, Go.IntKind.u8.wrap (Go.IntKind.i64.wrap ↑(BitVec.ofInt Go.IntKind.i64.bits (Go.IntKind.i64.wrap ↑(BitVec.ofInt Go.IntKind.i64.bits 192 ||| BitVec.ofInt Go.IntKind.i64.bits (Go.IntKind.i64.wrap (b.tmod 8 * 2 ^ min (Int.toNat 3) Go.IntKind.i64.bits))).toNat) ||| BitVec.ofInt Go.IntKind.i64.bits (a.tmod 8)).toNat)]))))) none) none))) (some ((Int.ofNat 1, [])))) (some ((Int.ofNat 1, [])))) (some ((Int.ofNat 1, []))))) (some ((Int.ofNat 1, [])))) (some ((Int.ofNat 1, [])))) (some ((Int.ofNat 1, []))))
theorem eq_8 (a b n : Int) : t12_8 a b n = t13_8 a b n := by
  unfold t12_8 t13_8
  simp only [decide_true, Eng.nd_true, fd0]
  refine reg_congr a fun ha => ?_
  refine reg_congr b fun hb => ?_
  refine nd_congr (fun _ => rfl) fun h2 => ?_
  rcases lits ha with rfl | rfl | rfl | rfl | rfl | rfl | rfl | rfl | rfl | rfl | rfl | rfl | rfl | rfl <;> rcases lits hb with rfl | rfl | rfl | rfl | rfl | rfl | rfl | rfl | rfl | rfl | rfl | rfl | rfl | rfl <;> rfl
def t12_9 (a b n : Int) : Option (Int × List Int) :=
 (Eng.nd (decide (0 ≤ a))
 (Eng.nd (decide (a ≤ 15))
 (Eng.nd (!decide (a = 4))
 (Eng.nd (!!decide (a = 5)) (some ((Int.ofNat 1, [])))
 (Eng.nd (decide (0 ≤ b))
 (Eng.nd (decide (b ≤ 15))
 (Eng.nd (!decide (b = 4))
 (Eng.nd (!!decide (b = 5)) (some ((Int.ofNat 1, [])))
 (Eng.nd (!decide (n = 0)) (some ((Int.ofNat 1, [])))
 (Eng.nd (decide (a = a))
 (Eng.nd (decide (b = b))
 (Eng.nd (decide (n = n))
 (Eng.nd (decide (a = a))
 (Eng.nd (decide (b = b))
 (Eng.nd (decide (n = n))
 (Eng.nd (decide (a = a))
 (Eng.nd (decide (b = b))
 (Eng.nd (decide (n = n))
 (Eng.nd (decide (64 < Go.IntKind.i64.wrap (Go.IntKind.i64.wrap (64 + Go.IntKind.i64.wrap (4 * Go.IntKind.i64.wrap (b.tdiv 8))) + Go.IntKind.i64.wrap (a.tdiv 8)))) (some ((Int.ofNat 0, [Go.IntKind.u8.wrap (Go.IntKind.i64.wrap (Go.IntKind.i64.wrap (64 + Go.IntKind.i64.wrap (4 * Go.IntKind.i64.wrap (b.tdiv 8))) + Go.IntKind.i64.wrap (a.tdiv 8))), Int.ofNat 49, Go.IntKind.u8.wrap (Go.IntKind.i64.wrap (Go.IntKind.i64.wrap (192 + Go.IntKind.i64.wrap (8 * b.tmod 8)) + a.tmod 8))]))) (some ((Int.ofNat 0, [Int.ofNat 49, Go.IntKind.u8.wrap (Go.IntKind.i64.wrap (Go.IntKind.i64.wrap (192 + Go.IntKind.i64.wrap (8 * b.tmod 8)) + a.tmod 8))])))) none) none) none) none) none) none) none) none) none))) (some ((Int.ofNat 1, [])))) (some ((Int.ofNat 1, [])))) (some ((Int.ofNat 1, []))))) (some ((Int.ofNat 1, [])))) (some ((Int.ofNat 1, [])))) (some ((Int.ofNat 1, []))))
def t13_9 (a b n : Int) : Option (Int × List Int) :=
 (Eng.nd (decide (0 ≤ a))
 (Eng.nd (decide (a ≤ 15))
 (Eng.nd (!decide (a = 4))
 (Eng.nd (!!decide (a = 5)) (some ((Int.ofNat 1, [])))
 (Eng.nd (decide (0 ≤ b))
 (Eng.nd (decide (b ≤ 15))
 (Eng.nd (!decide (b = 4))
 (Eng.nd (!!decide (b = 5)) (some ((Int.ofNat 1, [])))
 (Eng.nd (!decide (n = 0)) (some ((Int.ofNat 1, [])))
 (Eng.nd (decide (a = a))
 (Eng.nd (decide (b = b))
 (Eng.nd (decide (7 < b))
 (Eng.nd (decide (7 < a)) (some ((Int.ofNat 0, [Int.ofNat (Nat.succ 68), Int.ofNat 49, Go.IntKind.u8.wrap (Go.IntKind.i64.wrap ↑(BitVec.ofInt Go.IntKind.i64.bits (Go.IntKind.i64.wrap ↑(BitVec.ofInt Go.IntKind.i64.bits 192 ||| BitVec.ofInt Go.IntKind.i64.bits (Go.IntKind.i64.wrap (b.tmod 8 * 2 ^ min (Int.toNat 3) Go.IntKind.i64.bits))).toNat) ||| BitVec.ofInt Go.IntKind.i64.bits (a.tmod 8)).toNat)]))) (some ((Int.ofNat 0, [Int.ofNat (Nat.succ 67), Int.ofNat 49, Go.IntKind.u8.wrap (Go.IntKind.i64.wrap ↑(BitVec.ofInt Go.IntKind.i64.bits (Go.IntKind.i64.wrap ↑(BitVec.ofInt Go.IntKind.i64.bits 192 ||| BitVec.ofInt Go.IntKind.i64.bits (Go.IntKind.i64.wrap (b.tmod 8 * 2 ^ min (Int.toNat 3) Go.IntKind.i64.bits))).toNat) ||| BitVec.ofInt Go.IntKind.i64.bits (a.tmod 8)).toNat)]))))
 (Eng.nd (decide (7 < a)) (some ((Int.ofNat 0, [Int.ofNat (Nat.succ 64), Int.ofNat 49, Go.IntKind.u8.wrap (Go.IntKind.i64.wrap ↑(BitVec.ofInt Go.IntKind.i64.bits (Go.IntKind.i64.wrap ↑(BitVec.ofInt Go.IntKind.i64.bits 192 ||| BitVec.ofInt Go.IntKind.i64.bits (Go.IntKind.i64.wrap (b.tmod 8 * 2 ^ min (Int.toNat 3) Go.IntKind.i64.bits))).toNat) ||| BitVec.ofInt Go.IntKind.i64.bits (a.tmod 8)).toNat)]))) (some ((Int.ofNat 0, [Int.ofNat 49, Go.IntKind.u8.wrap (Go.IntKind.i64.wrap ↑(BitVec.ofInt Go.IntKind.i64.bits (Go.IntKind.i64.wrap ↑(BitVec.ofInt Go.IntKind.i64.bits 192 ||| BitVec.ofInt Go.IntKind.i64.bits (Go.IntKind.i64.wrap (b.tmod 8 * 2 ^ min (Int.toNat 3) Go.IntKind.i64.bits))).toNat) ||| BitVec.ofInt Go.IntKind.i64.bits (a.tmod 8)).toNat)]))))) none) none))) (some ((Int.ofNat 1, [])))) (some ((Int.ofNat 1, [])))) (some ((Int.ofNat 1, []))))) (some ((Int.ofNat 1, [])))) (some ((Int.ofNat 1, [])))) (some ((Int.ofNat 1, []))))
theorem eq_9 (a b n : Int) : t12_9 a b n = t13_9 a b n := by
  unfold t12_9 t13_9
  simp only [decide_true, Eng.nd_true, fd0]
  refine reg_congr a fun ha => ?_
  refine reg_congr b fun hb => ?_
  refine nd_congr (fun _ => rfl) fun h2 => ?_
  rcases lits ha with rfl | rfl | rfl | rfl | rfl | rfl | rfl | rfl | rfl | rfl | rfl | rfl | rfl | rfl <;> rcases lits hb with rfl | rfl | rfl | rfl | rfl | rfl | rfl | rfl | rfl | rfl | rfl | rfl | rfl | rfl <;> rfl
def t12_10 (a b n : Int) : Option (Int × List Int) :=
 (Eng.nd (decide (0 ≤ a))
 (Eng.nd (decide (a ≤ 15))
 (Eng.nd (!decide (a = 4))
 (Eng.nd (!!decide (a = 5)) (some ((Int.ofNat 1, [])))
 (Eng.nd (decide (0 ≤ b))
 (Eng.nd (decide (b ≤ 15))
 (Eng.nd (!decide (b = 4))
 (Eng.nd (!!decide (b = 5)) (some ((Int.ofNat 1, [])))
 (Eng.nd (!decide (n = 0)) (some ((Int.ofNat 1, [])))
 (Eng.nd (decide (a = a))
 (Eng.nd (decide (b = b))
 (Eng.nd (decide (n = n))
 (Eng.nd (decide (a = a))
 (Eng.nd (decide (b = b))
 (Eng.nd (decide (n = n))
 (Eng.nd (decide (a = a))
 (Eng.nd (decide (b = b))
 (Eng.nd (decide (n = n))
 (Eng.nd (decide (64 < Go.IntKind.i64.wrap (Go.IntKind.i64.wrap (64 + Go.IntKind.i64.wrap (4 * Go.IntKind.i64.wrap (b.tdiv 8))) + Go.IntKind.i64.wrap (a.tdiv 8)))) (some ((Int.ofNat 0, [Go.IntKind.u8.wrap (Go.IntKind.i64.wrap (Go.IntKind.i64.wrap (64 + Go.IntKind.i64.wrap (4 * Go.IntKind.i64.wrap (b.tdiv 8))) + Go.IntKind.i64.wrap (a.tdiv 8))), Int.ofNat 57, Go.IntKind.u8.wrap (Go.IntKind.i64.wrap (Go.IntKind.i64.wrap (192 + Go.IntKind.i64.wrap (8 * b.tmod 8)) + a.tmod 8))]))) (some ((Int.ofNat 0, [Int.ofNat 57, Go.IntKind.u8.wrap (Go.IntKind.i64.wrap (Go.IntKind.i64.wrap (192 + Go.IntKind.i64.wrap (8 * b.tmod 8)) + a.tmod 8))])))) none) none) none) none) none) none) none) none) none))) (some ((Int.ofNat 1, [])))) (some ((Int.ofNat 1, [])))) (some ((Int.ofNat 1, []))))) (some ((Int.ofNat 1, [])))) (some ((Int.ofNat 1, [])))) (some ((Int.ofNat 1, []))))
def t13_10 (a b n : Int) : Option (Int × List Int) :=
 (Eng.nd (decide (0 ≤ a))
 (Eng.nd (decide (a ≤ 15))
 (Eng.nd (!decide (a = 4))
 (Eng.nd (!!decide (a = 5)) (some ((Int.ofNat 1, [])))
 (Eng.nd (decide (0 ≤ b))
 (Eng.nd (decide (b ≤ 15))
 (Eng.nd (!decide (b = 4))
 (Eng.nd (!!decide (b = 5)) (some ((Int.ofNat 1, [])))
 (Eng.nd (!decide (n = 0)) (some ((Int.ofNat 1, [])))
 (Eng.nd (decide (a = a))
 (Eng.nd (decide (b = b))
 (Eng.nd (decide (7 < b))
 (Eng.nd (decide (7 < a)) (some ((Int.ofNat 0, [Int.ofNat (Nat.succ 68), Int.ofNat 57, Go.IntKind.u8.wrap (Go.IntKind.i64.wrap ↑(BitVec.ofInt Go.IntKind.i64.bits (Go.IntKind.i64.wrap ↑(BitVec.ofInt Go.IntKind.i64.bits 192 ||| BitVec.ofInt Go.IntKind.i64.bits (Go.IntKind.i64.wrap (b.tmod 8 * 2 ^ min (Int.toNat 3) Go.IntKind.i64.bits))).toNat) ||| BitVec.ofInt Go.IntKind.i64.bits (a.tmod 8)).toNat)]))) (some ((Int.ofNat 0, [Int.ofNat (Nat.succ 67), Int.ofNat 57, Go.IntKind.u8.wrap (Go.IntKind.i64.wrap ↑(BitVec.ofInt Go.IntKind.i64.bits (Go.IntKind.i64.wrap ↑(BitVec.ofInt Go.IntKind.i64.bits 192 ||| BitVec.ofInt Go.IntKind.i64.bits (Go.IntKind.i64.wrap (b.tmod 8 * 2 ^ min (Int.toNat 3) Go.IntKind.i64.bits))).toNat) ||| BitVec.ofInt Go.IntKind.i64.bits (a.tmod 8)).toNat)]))))
 (Eng.nd (decide (7 < a)) (some ((Int.ofNat 0, [Int.ofNat (Nat.succ 64), Int.ofNat 57, Go.IntKind.u8.wrap (Go.IntKind.i64.wrap ↑(BitVec.ofInt Go.IntKind.i64.bits (Go.IntKind.i64.wrap ↑(BitVec.ofInt Go.IntKind.i64.bits 192 ||| BitVec.ofInt Go.IntKind.i64.bits (Go.IntKind.i64.wrap (b.tmod 8 * 2 ^ min (Int.toNat 3) Go.IntKind.i64.bits))).toNat) ||| BitVec.ofInt Go.IntKind.i64.bits (a.tmod 8)).toNat)]))) (some ((Int.ofNat 0, [Int.ofNat 57, Go.IntKind.u8.wrap (Go.IntKind.i64.wrap ↑(BitVec.ofInt Go.IntKind.i64.bits (Go.IntKind.i64.wrap ↑(BitVec.ofInt Go.IntKind.i64.bits 192 ||| BitVec.ofInt Go.IntKind.i64.bits (Go.IntKind.i64.wrap (b.tmod 8 * 2 ^ min (Int.toNat 3) Go.IntKind.i64.bits))).toNat) ||| BitVec.ofInt Go.IntKind.i64.bits (a.tmod 8)).toNat)]))))) none) none))) (some ((Int.ofNat 1, [])))) (some ((Int.ofNat 1, [])))) (some ((Int.ofNat 1, []))))) (some ((Int.ofNat 1, [])))) (some ((Int.ofNat 1, [])))) (some ((Int.ofNat 1, []))))
theorem eq_10 (a b n : Int) : t12_10 a b n = t13_10 a b n := by
  unfold t12_10 t13_10
  simp only [decide_true, Eng.nd_true, fd0]
  refine reg_congr a fun ha => ?_
  refine reg_congr b fun hb => ?_
  refine nd_congr (fun _ => rfl) fun h2 => ?_
  rcases lits ha with rfl | rfl | rfl | rfl | rfl | rfl | rfl | rfl | rfl | rfl | rfl | rfl | rfl | rfl <;> rcases lits hb with rfl | rfl | rfl | rfl | rfl | rfl | rfl | rfl | rfl | rfl | rfl | rfl | rfl | rfl <;> rfl
def t12_11 (a b n : Int) : Option (Int × List Int) :=
 (Eng.nd (decide (0 ≤ a))
 (Eng.nd (decide (a ≤ 15))
 (Eng.nd (!decide (a = 4))
 (Eng.nd (!!decide (a = 5)) (some ((Int.ofNat 1, [])))
 (Eng.nd (decide (0 ≤ b))
 (Eng.nd (decide (b ≤ 15))
 (Eng.nd (!decide (b = 4))
 (Eng.nd (!!decide (b = 5)) (some ((Int.ofNat 1, [])))
 (Eng.nd (!decide (n = 0)) (some ((Int.ofNat 1, [])))
 (Eng.nd (decide (a = a))
 (Eng.nd (decide (b = b))
 (Eng.nd (decide (n = n))
 (Eng.nd (decide (a = a))
 (Eng.nd (decide (b = b))
 (Eng.nd (decide (n = n))
 (Eng.nd (decide (a = a))
 (Eng.nd (decide (b = b))
 (Eng.nd (decide (n = n))
 (Eng.nd (decide (64 < Go.IntKind.i64.wrap (Go.IntKind.i64.wrap (64 + Go.IntKind.i64.wrap (4 * Go.IntKind.i64.wrap (a.tdiv 8))) + Go.IntKind.i64.wrap (b.tdiv 8)))) (some ((Int.ofNat 0, [Go.IntKind.u8.wrap (Go.IntKind.i64.wrap (Go.IntKind.i64.wrap (64 + Go.IntKind.i64.wrap (4 * Go.IntKind.i64.wrap (a.tdiv 8))) + Go.IntKind.i64.wrap (b.tdiv 8))), Int.ofNat 15, Int.ofNat 175, Go.IntKind.u8.wrap (Go.IntKind.i64.wrap (Go.IntKind.i64.wrap (192 + Go.IntKind.i64.wrap (8 * a.tmod 8)) + b.tmod 8))]))) (some ((Int.ofNat 0, [Int.ofNat 15, Int.ofNat 175, Go.IntKind.u8.wrap (Go.IntKind.i64.wrap (Go.IntKind.i64.wrap (192 + Go.IntKind.i64.wrap (8 * a.tmod 8)) + b.tmod 8))])))) none) none) none) none) none) none) none) none) none))) (some ((Int.ofNat 1, [])))) (some ((Int.ofNat 1, [])))) (some ((Int.ofNat 1, []))))) (some ((Int.ofNat 1, [])))) (some ((Int.ofNat 1, [])))) (some ((Int.ofNat 1, []))))
def t13_11 (a b n : Int) : Option (Int × List Int) :=
 (Eng.nd (decide (0 ≤ a))
 (Eng.nd (decide (a ≤ 15))
 (Eng.nd (!decide (a = 4))
 (Eng.nd (!!decide (a = 5)) (some ((Int.ofNat 1, [])))
 (Eng.nd (decide (0 ≤ b))
 (Eng.nd (decide (b ≤ 15))
 (Eng.nd (!decide (b = 4))
 (Eng.nd (!!decide (b = 5)) (some ((Int.ofNat 1, [])))
 (Eng.nd (!decide (n = 0)) (some ((Int.ofNat 1, [])))
 (Eng.nd (decide (7 < a))
 (Eng.nd (decide (7 < b)) (some ((Int.ofNat 0, [Int.ofNat (Nat.succ 68), Int.ofNat 15, Int.ofNat 175, Go.IntKind.u8.wrap (Go.IntKind.i64.wrap ↑(BitVec.ofInt Go.IntKind.i64.bits (Go.IntKind.i64.wrap ↑(BitVec.ofInt Go.IntKind.i64.bits 192 ||| BitVec.ofInt Go.IntKind.i64.bits (Go.IntKind.i64.wrap (a.tmod 8 * 2 ^ min (Int.toNat 3) Go.IntKind.i64.bits))).toNat) ||| BitVec.ofInt Go.IntKind.i64.bits (b.tmod 8)).toNat)]))) (some ((Int.ofNat 0, [Int.ofNat (Nat.succ 67), Int.ofNat 15, Int.ofNat 175, Go.IntKind.u8.wrap (Go.IntKind.i64.wrap ↑(BitVec.ofInt Go.IntKind.i64.bits (Go.IntKind.i64.wrap ↑(BitVec.ofInt Go.IntKind.i64.bits 192 ||| BitVec.ofInt Go.IntKind.i64.bits (Go.IntKind.i64.wrap (a.tmod 8 * 2 ^ min (Int.toNat 3) Go.IntKind.i64.bits))).toNat) ||| BitVec.ofInt Go.IntKind.i64.bits (b.tmod 8)).toNat)]))))
 (Eng.nd (decide (7 < b)) (some ((Int.ofNat 0, [Int.ofNat (Nat.succ 64), Int.ofNat 15, Int.ofNat 175, Go.IntKind.u8.wrap (Go.IntKind.i64.wrap ↑(BitVec.ofInt Go.IntKind.i64.bits (Go.IntKind.i64.wrap ↑(BitVec.ofInt Go.IntKind.i64.bits 192 ||| BitVec.ofInt Go.IntKind.i64.bits (Go.IntKind.i64.wrap (a.tmod 8 * 2 ^ min (Int.toNat 3) Go.IntKind.i64.bits))).toNat) ||| BitVec.ofInt Go.IntKind.i64.bits (b.tmod 8)).toNat)]))) (some ((Int.ofNat 0, [Int.ofNat 15, Int.ofNat 175, Go.IntKind.u8.wrap (Go.IntKind.i64.wrap ↑(BitVec.ofInt Go.IntKind.i64.bits (Go.IntKind.i64.wrap ↑(BitVec.ofInt Go.IntKind.i64.bits 192 ||| BitVec.ofInt Go.IntKind.i64.bits (Go.IntKind.i64.wrap (a.tmod 8 * 2 ^ min (Int.toNat 3) Go.IntKind.i64.bits))).toNat) ||| BitVec.ofInt Go.IntKind.i64.bits (b.tmod 8)).toNat)]))))))) (some ((Int.ofNat 1, [])))) (some ((Int.ofNat 1, [])))) (some ((Int.ofNat 1, []))))) (some ((Int.ofNat 1, [])))) (some ((Int.ofNat 1, [])))) (some ((Int.ofNat 1, []))))
theorem eq_11 (a b n : Int) : t12_11 a b n = t13_11 a b n := by
  unfold t12_11 t13_11
  simp only [decide_true, Eng.nd_true, fd0]
  refine reg_congr a fun ha => ?_
  refine reg_congr b fun hb => ?_
  refine nd_congr (fun _ => rfl) fun h2 => ?_
  rcases lits ha with rfl | rfl | rfl | rfl | rfl | rfl | rfl | rfl | rfl | rfl | rfl | rfl | rfl | rfl <;> rcases lits hb with rfl | rfl | rfl | rfl | rfl | rfl | rfl | rfl | rfl | rfl | rfl | rfl | rfl | rfl <;> rfl
def t12_12 (a b n : Int) : Option (Int × List Int) :=
 (Eng.nd (decide (0 ≤ a))
 (Eng.nd (decide (a ≤ 15))
 (Eng.nd (!decide (a = 4))
 (Eng.nd (!!decide (a = 5)) (some ((Int.ofNat 1, [])))
 (Eng.nd (!decide (b = 0)) (some ((Int.ofNat 1, [])))
 (Eng.nd (!decide (n = 0)) (some ((Int.ofNat 1, [])))
 (Eng.nd (decide (a = a))
 (Eng.nd (decide (b = b))
 (Eng.nd (decide (n = n))
 (Eng.nd (decide (a = a))
 (Eng.nd (decide (b = b))
 (Eng.nd (decide (n = n))
 (Eng.nd (decide (a = a))
 (Eng.nd (decide (b = b))
 (Eng.nd (decide (n = n))
 (Eng.nd (decide (64 < Go.IntKind.i64.wrap (Int.ofNat (Nat.succ 63) + Go.IntKind.i64.wrap (a.tdiv 8)))) (some ((Int.ofNat 0, [Go.IntKind.u8.wrap (Go.IntKind.i64.wrap (Int.ofNat (Nat.succ 63) + Go.IntKind.i64.wrap (a.tdiv 8))), Int.ofNat 247, Go.IntKind.u8.wrap (Go.IntKind.i64.wrap (Int.ofNat (Nat.succ 215) + a.tmod 8))]))) (some ((Int.ofNat 0, [Int.ofNat 247, Go.IntKind.u8.wrap (Go.IntKind.i64.wrap (Int.ofNat (Nat.succ 215) + a.tmod 8))])))) none) none) none) none) none) none) none) none) none)))) (some ((Int.ofNat 1, [])))) (some ((Int.ofNat 1, [])))) (some ((Int.ofNat 1, []))))
def t13_12 (a b n : Int) : Option (Int × List Int) :=
 (Eng.nd (decide (0 ≤ a))
 (Eng.nd (decide (a ≤ 15))
 (Eng.nd (!decide (a = 4))
 (Eng.nd (!!decide (a = 5)) (some ((Int.ofNat 1, [])))
 (Eng.nd (!decide (b = 0)) (some ((Int.ofNat 1, [])))
 (Eng.nd (!decide (n = 0)) (some ((Int.ofNat 1, [])))
 (Eng.nd (decide (7 < a)) (some ((Int.ofNat 0, [Int.ofNat (Nat.succ 64), Int.ofNat 247, Go.IntKind.u8.wrap (Go.IntKind.i64.wrap ↑(BitVec.ofInt Go.IntKind.i64.bits (Int.ofNat (Nat.succ 215)) ||| BitVec.ofInt Go.IntKind.i64.bits (a.tmod 8)).toNat)]))) (some ((Int.ofNat 0, [Int.ofNat 247, Go.IntKind.u8.wrap (Go.IntKind.i64.wrap ↑(BitVec.ofInt Go.IntKind.i64.bits (Int.ofNat (Nat.succ 215)) ||| BitVec.ofInt Go.IntKind.i64.bits (a.tmod 8)).toNat)]))))))) (some ((Int.ofNat 1, [])))) (some ((Int.ofNat 1, [])))) (some ((Int.ofNat 1, []))))
theorem eq_12 (a b n : Int) : t12_12 a b n = t13_12 a b n := by
  unfold t12_12 t13_12
  simp only [decide_true, Eng.nd_true, fd0]
  refine reg_congr a fun ha => ?_
  refine nd_congr (fun _ => rfl) fun h1 => ?_
  refine nd_congr (fun _ => rfl) fun h2 => ?_
  rcases lits ha with rfl | rfl | rfl | rfl | rfl | rfl | rfl | rfl | rfl | rfl | rfl | rfl | rfl | rfl <;> rfl
def t12_13 (a b n : Int) : Option (Int × List Int) :=
 (Eng.nd (!decide (a = 0)) (some ((Int.ofNat 1, [])))
 (Eng.nd (!decide (b = 0)) (some ((Int.ofNat 1, [])))
 (Eng.nd (!decide (n = 0)) (some ((Int.ofNat 1, [])))
 (Eng.nd (decide (a = a))
 (Eng.nd (decide (b = b))
 (Eng.nd (decide (n = n))
 (Eng.nd (decide (a = a))
 (Eng.nd (decide (b = b))
 (Eng.nd (decide (n = n))
 (Eng.nd (decide (a = a))
 (Eng.nd (decide (b = b))
 (Eng.nd (decide (n = n)) (some ((Int.ofNat 0, [Int.ofNat 153]))) none) none) none) none) none) none) none) none) none))))
def t13_13 (a b n : Int) : Option (Int × List Int) :=
 (Eng.nd (!decide (a = 0)) (some ((Int.ofNat 1, [])))
 (Eng.nd (!decide (b = 0)) (some ((Int.ofNat 1, [])))
 (Eng.nd (!decide (n = 0)) (some ((Int.ofNat 1, []))) (some ((Int.ofNat 0, [Int.ofNat 153]))))))
theorem eq_13 (a b n : Int) : t12_13 a b n = t13_13 a b n := by
  unfold t12_13 t13_13
  simp only [decide_true, Eng.nd_true, fd0]
def t12_14 (a b n : Int) : Option (Int × List Int) :=
 (Eng.nd (decide (0 ≤ a))
 (Eng.nd (decide (a ≤ 15))
 (Eng.nd (!decide (a = 4))
 (Eng.nd (!!decide (a = 5)) (some ((Int.ofNat 1, [])))
 (Eng.nd (!decide (b = 0)) (some ((Int.ofNat 1, [])))
 (Eng.nd (!decide (n = 0)) (some ((Int.ofNat 1, [])))
 (Eng.nd (decide (a = a))
 (Eng.nd (decide (b = b))
 (Eng.nd (decide (n = n))
 (Eng.nd (decide (a = a))
 (Eng.nd (decide (b = b))
 (Eng.nd (decide (n = n))
 (Eng.nd (decide (a = a))
 (Eng.nd (decide (b = b))
 (Eng.nd (decide (n = n))
 (Eng.nd (decide (64 < Go.IntKind.i64.wrap (Int.ofNat (Nat.succ 63) + Go.IntKind.i64.wrap (a.tdiv 8)))) (some ((Int.ofNat 0, [Go.IntKind.u8.wrap (Go.IntKind.i64.wrap (Int.ofNat (Nat.succ 63) + Go.IntKind.i64.wrap (a.tdiv 8))), Int.ofNat 247, Go.IntKind.u8.wrap (Go.IntKind.i64.wrap (Int.ofNat (Nat.succ 247) + a.tmod 8))]))) (some ((Int.ofNat 0, [Int.ofNat 247, Go.IntKind.u8.wrap (Go.IntKind.i64.wrap (Int.ofNat (Nat.succ 247) + a.tmod 8))])))) none) none) none) none) none) none) none) none) none)))) (some ((Int.ofNat 1, [])))) (some ((Int.ofNat 1, [])))) (some ((Int.ofNat 1, []))))
def t13_14 (a b n : Int) : Option (Int × List Int) :=
 (Eng.nd (decide (0 ≤ a))
 (Eng.nd (decide (a ≤ 15))
 (Eng.nd (!decide (a = 4))
 (Eng.nd (!!decide (a = 5)) (some ((Int.ofNat 1, [])))
 (Eng.nd (!decide (b = 0)) (some ((Int.ofNat 1, [])))
 (Eng.nd (!decide (n = 0)) (some ((Int.ofNat 1, [])))
 (Eng.nd (decide (7 < a)) (some ((Int.ofNat 0, [Int.ofNat (Nat.succ 64), Int.ofNat 247, Go.IntKind.u8.wrap (Go.IntKind.i64.wrap ↑(BitVec.ofInt Go.IntKind.i64.bits (Int.ofNat (Nat.succ 247)) ||| BitVec.ofInt Go.IntKind.i64.bits (a.tmod 8)).toNat)]))) (some ((Int.ofNat 0, [Int.ofNat 247, Go.IntKind.u8.wrap (Go.IntKind.i64.wrap ↑(BitVec.ofInt Go.IntKind.i64.bits (Int.ofNat (Nat.succ 247)) ||| BitVec.ofInt Go.IntKind.i64.bits (a.tmod 8)).toNat)]))))))) (some ((Int.ofNat 1, [])))) (some ((Int.ofNat 1, [])))) (some ((Int.ofNat 1, []))))
theorem eq_14 (a b n : Int) : t12_14 a b n = t13_14 a b n := by
  unfold t12_14 t13_14
  simp only [decide_true, Eng.nd_true, fd0]
  refine reg_congr a fun ha => ?_
  refine nd_congr (fun _ => rfl) fun h1 => ?_
  refine nd_congr (fun _ => rfl) fun h2 => ?_
  rcases lits ha with rfl | rfl | rfl | rfl | rfl | rfl | rfl | rfl | rfl | rfl | rfl | rfl | rfl | rfl <;> rfl
def t12_15 (a b n : Int) : Option (Int × List Int) :=
 (Eng.nd (decide (0 ≤ a))
 (Eng.nd (decide (a ≤ 15))
 (Eng.nd (!decide (a = 4))
 (Eng.nd (!!decide (a = 5)) (some ((Int.ofNat 1, [])))
 (Eng.nd (!decide (b = 0)) (some ((Int.ofNat 1, [])))
 (Eng.nd (!decide (n = 0)) (some ((Int.ofNat 1, [])))
 (Eng.nd (decide (a = a))
 (Eng.nd (decide (b = b))
 (Eng.nd (decide (n = n))
 (Eng.nd (decide (a = a))
 (Eng.nd (decide (b = b))
 (Eng.nd (decide (n = n))
 (Eng.nd (decide (a = a))
 (Eng.nd (decide (b = b))
 (Eng.nd (decide (n = n))
 (Eng.nd (decide (64 < Go.IntKind.i64.wrap (Int.ofNat (Nat.succ 63) + Go.IntKind.i64.wrap (a.tdiv 8)))) (some ((Int.ofNat 0, [Go.IntKind.u8.wrap (Go.IntKind.i64.wrap (Int.ofNat (Nat.succ 63) + Go.IntKind.i64.wrap (a.tdiv 8))), Int.ofNat 211, Go.IntKind.u8.wrap (Go.IntKind.i64.wrap (Int.ofNat (Nat.succ 223) + a.tmod 8))]))) (some ((Int.ofNat 0, [Int.ofNat 211, Go.IntKind.u8.wrap (Go.IntKind.i64.wrap (Int.ofNat (Nat.succ 223) + a.tmod 8))])))) none) none) none) none) none) none) none) none) none)))) (some ((Int.ofNat 1, [])))) (some ((Int.ofNat 1, [])))) (some ((Int.ofNat 1, []))))
def t13_15 (a b n : Int) : Option (Int × List Int) :=
 (Eng.nd (decide (0 ≤ a))
 (Eng.nd (decide (a ≤ 15))
 (Eng.nd (!decide (a = 4))
 (Eng.nd (!!decide (a = 5)) (some ((Int.ofNat 1, [])))
 (Eng.nd (!decide (b = 0)) (some ((Int.ofNat 1, [])))
 (Eng.nd (!decide (n = 0)) (some ((Int.ofNat 1, [])))
 (Eng.nd (decide (7 < a)) (some ((Int.ofNat 0, [Int.ofNat (Nat.succ 64), Int.ofNat 211, Go.IntKind.u8.wrap (Go.IntKind.i64.wrap ↑(BitVec.ofInt Go.IntKind.i64.bits (Int.ofNat (Nat.succ 223)) ||| BitVec.ofInt Go.IntKind.i64.bits (a.tmod 8)).toNat)]))) (some ((Int.ofNat 0, [Int.ofNat 211, Go.IntKind.u8.wrap (Go.IntKind.i64.wrap ↑(BitVec.ofInt Go.IntKind.i64.bits (Int.ofNat (Nat.succ 223)) ||| BitVec.ofInt Go.IntKind.i64.bits (a.tmod 8)).toNat)]))))))) (some ((Int.ofNat 1, [])))) (some ((Int.ofNat 1, [])))) (some ((Int.ofNat 1, []))))
theorem eq_15 (a b n : Int) : t12_15 a b n = t13_15 a b n := by
  unfold t12_15 t13_15
  simp only [decide_true, Eng.nd_true, fd0]
  refine reg_congr a fun ha => ?_
  refine nd_congr (fun _ => rfl) fun h1 => ?_
  refine nd_congr (fun _ => rfl) fun h2 => ?_
  rcases lits ha with rfl | rfl | rfl | rfl | rfl | rfl | rfl | rfl | rfl | rfl | rfl | rfl | rfl | rfl <;> rfl
def t12_16 (a b n : Int) : Option (Int × List Int) :=
 (Eng.nd (decide (0 ≤ a))
 (Eng.nd (decide (a ≤ 15))
 (Eng.nd (!decide (a = 4))
 (Eng.nd (!!decide (a = 5)) (some ((Int.ofNat 1, [])))
 (Eng.nd (!decide (b = 0)) (some ((Int.ofNat 1, [])))
 (Eng.nd (!decide (n = 0)) (some ((Int.ofNat 1, [])))
 (Eng.nd (decide (a = a))
 (Eng.nd (decide (b = b))
 (Eng.nd (decide (n = n))
 (Eng.nd (decide (a = a))
 (Eng.nd (decide (b = b))
 (Eng.nd (decide (n = n))
 (Eng.nd (decide (a = a))
 (Eng.nd (decide (b = b))
 (Eng.nd (decide (n = n))
 (Eng.nd (decide (64 < Go.IntKind.i64.wrap (Int.ofNat (Nat.succ 63) + Go.IntKind.i64.wrap (a.tdiv 8)))) (some ((Int.ofNat 0, [Go.IntKind.u8.wrap (Go.IntKind.i64.wrap (Int.ofNat (Nat.succ 63) + Go.IntKind.i64.wrap (a.tdiv 8))), Int.ofNat 211, Go.IntKind.u8.wrap (Go.IntKind.i64.wrap (Int.ofNat (Nat.succ 247) + a.tmod 8))]))) (some ((Int.ofNat 0, [Int.ofNat 211, Go.IntKind.u8.wrap (Go.IntKind.i64.wrap (Int.ofNat (Nat.succ 247) + a.tmod 8))])))) none) none) none) none) none) none) none) none) none)))) (some ((Int.ofNat 1, [])))) (some ((Int.ofNat 1, [])))) (some ((Int.ofNat 1, []))))
def t13_16 (a b n : Int) : Option (Int × List Int) :=
 (Eng.nd (decide (0 ≤ a))
 (Eng.nd (decide (a ≤ 15))
 (Eng.nd (!decide (a = 4))
 (Eng.nd (!!decide (a = 5)) (some ((Int.ofNat 1, [])))
 (Eng.nd (!decide (b = 0)) (some ((Int.ofNat 1, [])))
 (Eng.nd (!decide (n = 0)) (some ((Int.ofNat 1, [])))
 (Eng.nd (decide (7 < a)) (some ((Int.ofNat 0, [Int.ofNat (Nat.succ 64), Int.ofNat 211, Go.IntKind.u8.wrap (Go.IntKind.i64.wrap ↑(BitVec.ofInt Go.IntKind.i64.bits (Int.ofNat (Nat.succ 247)) ||| BitVec.ofInt Go.IntKind.i64.bits (a.tmod 8)).toNat)]))) (some ((Int.ofNat 0, [Int.ofNat 211, Go.IntKind.u8.wrap (Go.IntKind.i64.wrap ↑(BitVec.ofInt Go.IntKind.i64.bits (Int.ofNat (Nat.succ 247)) ||| BitVec.ofInt Go.IntKind.i64.bits (a.tmod 8)).toNat)]))))))) (some ((Int.ofNat 1, [])))) (some ((Int.ofNat 1, [])))) (some ((Int.ofNat 1, []))))
theorem eq_16 (a b n : Int) : t12_16 a b n = t13_16 a b n := by
  unfold t12_16 t13_16
  simp only [decide_true, Eng.nd_true, fd0]
  refine reg_congr a fun ha => ?_
  refine nd_congr (fun _ => rfl) fun h1 => ?_
  refine nd_congr (fun _ => rfl) fun h2 => ?_
  rcases lits ha with rfl | rfl | rfl | rfl | rfl | rfl | rfl | rfl | rfl | rfl | rfl | rfl | rfl | rfl <;> rfl
def t12_17 (a b n : Int) : Option (Int × List Int) :=
 (Eng.nd (decide (0 ≤ a))
 (Eng.nd (decide (a ≤ 15))
 (Eng.nd (!decide (a = 4))
 (Eng.nd (!!decide (a = 5)) (some ((Int.ofNat 1, [])))
 (Eng.nd (!decide (b = 0)) (some ((Int.ofNat 1, [])))
 (Eng.nd (!decide (n = 0)) (some ((Int.ofNat 1, [])))
 (Eng.nd (decide (a = a))
 (Eng.nd (decide (b = b))
 (Eng.nd (decide (n = n))
 (Eng.nd (decide (a = a))
 (Eng.nd (decide (b = b))
 (Eng.nd (decide (n = n))
 (Eng.nd (decide (a = a))
 (Eng.nd (decide (b = b))
 (Eng.nd (decide (n = n))
 (Eng.nd (decide (64 < Go.IntKind.i64.wrap (Int.ofNat (Nat.succ 63) + Go.IntKind.i64.wrap (a.tdiv 8)))) (some ((Int.ofNat 0, [Go.IntKind.u8.wrap (Go.IntKind.i64.wrap (Int.ofNat (Nat.succ 63) + Go.IntKind.i64.wrap (a.tdiv 8))), Int.ofNat 211, Go.IntKind.u8.wrap (Go.IntKind.i64.wrap (Int.ofNat (Nat.succ 231) + a.tmod 8))]))) (some ((Int.ofNat 0, [Int.ofNat 211, Go.IntKind.u8.wrap (Go.IntKind.i64.wrap (Int.ofNat (Nat.succ 231) + a.tmod 8))])))) none) none) none) none) none) none) none) none) none)))) (some ((Int.ofNat 1, [])))) (some ((Int.ofNat 1, [])))) (some ((Int.ofNat 1, []))))
def t13_17 (a b n : Int) : Option (Int × List Int) :=
 (Eng.nd (decide (0 ≤ a))
 (Eng.nd (decide (a ≤ 15))
 (Eng.nd (!decide (a = 4))
 (Eng.nd (!!decide (a = 5)) (some ((Int.ofNat 1, [])))
 (Eng.nd (!decide (b = 0)) (some ((Int.ofNat 1, [])))
 (Eng.nd (!decide (n = 0)) (some ((Int.ofNat 1, [])))
 (Eng.nd (decide (7 < a)) (some ((Int.ofNat 0, [Int.ofNat (Nat.succ 64), Int.ofNat 211, Go.IntKind.u8.wrap (Go.IntKind.i64.wrap ↑(BitVec.ofInt Go.IntKind.i64.bits (Int.ofNat (Nat.succ 231)) ||| BitVec.ofInt Go.IntKind.i64.bits (a.tmod 8)).toNat)]))) (some ((Int.ofNat 0, [Int.ofNat 211, Go.IntKind.u8.wrap (Go.IntKind.i64.wrap ↑(BitVec.ofInt Go.IntKind.i64.bits (Int.ofNat (Nat.succ 231)) ||| BitVec.ofInt Go.IntKind.i64.bits (a.tmod 8)).toNat)]))))))) (some ((Int.ofNat 1, [])))) (some ((Int.ofNat 1, [])))) (some ((Int.ofNat 1, []))))
theorem eq_17 (a b n : Int) : t12_17 a b n = t13_17 a b n := by
  unfold t12_17 t13_17
  simp only [decide_true, Eng.nd_true, fd0]
  refine reg_congr a fun ha => ?_
  refine nd_congr (fun _ => rfl) fun h1 => ?_
  refine nd_congr (fun _ => rfl) fun h2 => ?_
  rcases lits ha with rfl | rfl | rfl | rfl | rfl | rfl | rfl | rfl | rfl | rfl | rfl | rfl | rfl | rfl <;> rfl
def t12_18 (a b n : Int) : Option (Int × List Int) :=
 (Eng.nd (!decide (a = 0)) (some ((Int.ofNat 1, [])))
 (Eng.nd (!decide (b = 0)) (some ((Int.ofNat 1, [])))
 (Eng.nd (decide (a = a))
 (Eng.nd (decide (b = b))
 (Eng.nd (decide (n = n))
 (Eng.nd (decide (a = a))
 (Eng.nd (decide (b = b))
 (Eng.nd (decide (n = n))
 (Eng.nd (decide (a = a))
 (Eng.nd (decide (b = b))
 (Eng.nd (decide (n = n)) (some ((Int.ofNat 0, [Int.ofNat 233, Go.IntKind.u8.wrap (n.fdiv (2 ^ min (Int.ofNat Nat.zero).toNat Go.IntKind.i32.bits)), Go.IntKind.u8.wrap (n.fdiv (2 ^ min (Int.ofNat (Nat.succ 7)).toNat Go.IntKind.i32.bits)), Go.IntKind.u8.wrap (n.fdiv (2 ^ min (Int.ofNat (Nat.succ 15)).toNat Go.IntKind.i32.bits)), Go.IntKind.u8.wrap (n.fdiv (2 ^ min (Int.ofNat (Nat.succ 23)).toNat Go.IntKind.i32.bits))]))) none) none) none) none) none) none) none) none) none)))
def t13_18 (a b n : Int) : Option (Int × List Int) :=
 (Eng.nd (!decide (a = 0)) (some ((Int.ofNat 1, [])))
 (Eng.nd (!decide (b = 0)) (some ((Int.ofNat 1, []))) (some ((Int.ofNat 0, [Int.ofNat 233, Go.IntKind.u8.wrap n, Go.IntKind.u8.wrap (n.fdiv (2 ^ min (Int.toNat 8) Go.IntKind.i32.bits)), Go.IntKind.u8.wrap (n.fdiv (2 ^ min (Int.toNat 16) Go.IntKind.i32.bits)), Go.IntKind.u8.wrap (n.fdiv (2 ^ min (Int.toNat 24) Go.IntKind.i32.bits))])))))
theorem eq_18 (a b n : Int) : t12_18 a b n = t13_18 a b n := by
  unfold t12_18 t13_18
  simp only [decide_true, Eng.nd_true, fd0]
  refine nd_congr (fun _ => rfl) fun h0 => ?_
  refine nd_congr (fun _ => rfl) fun h1 => ?_
  all_goals rfl
def t12_19 (a b n : Int) : Option (Int × List Int) :=
 (Eng.nd (!decide (a = 0)) (some ((Int.ofNat 1, [])))
 (Eng.nd (!decide (b = 0)) (some ((Int.ofNat 1, [])))
 (Eng.nd (decide (a = a))
 (Eng.nd (decide (b = b))
 (Eng.nd (decide (n = n))
 (Eng.nd (decide (a = a))
 (Eng.nd (decide (b = b))
 (Eng.nd (decide (n = n))
 (Eng.nd (decide (a = a))
 (Eng.nd (decide (b = b))
 (Eng.nd (decide (n = n)) (some ((Int.ofNat 0, [Int.ofNat 15, Int.ofNat 132, Go.IntKind.u8.wrap (n.fdiv (2 ^ min (Int.ofNat Nat.zero).toNat Go.IntKind.i32.bits)), Go.IntKind.u8.wrap (n.fdiv (2 ^ min (Int.ofNat (Nat.succ 7)).toNat Go.IntKind.i32.bits)), Go.IntKind.u8.wrap (n.fdiv (2 ^ min (Int.ofNat (Nat.succ 15)).toNat Go.IntKind.i32.bits)), Go.IntKind.u8.wrap (n.fdiv (2 ^ min (Int.ofNat (Nat.succ 23)).toNat Go.IntKind.i32.bits))]))) none) none) none) none) none) none) none) none) none)))
def t13_19 (a b n : Int) : Option (Int × List Int) :=
 (Eng.nd (!decide (a = 0)) (some ((Int.ofNat 1, [])))
 (Eng.nd (!decide (b = 0)) (some ((Int.ofNat 1, [])))
 (Eng.nd (decide (n = n)) (some ((Int.ofNat 0, [Int.ofNat 15, Int.ofNat 132, Go.IntKind.u8.wrap n, Go.IntKind.u8.wrap (n.fdiv (2 ^ min (Int.toNat 8) Go.IntKind.i32.bits)), Go.IntKind.u8.wrap (n.fdiv (2 ^ min (Int.toNat 16) Go.IntKind.i32.bits)), Go.IntKind.u8.wrap (n.fdiv (2 ^ min (Int.toNat 24) Go.IntKind.i32.bits))]))) none)))
theorem eq_19 (a b n : Int) : t12_19 a b n = t13_19 a b n := by
  unfold t12_19 t13_19
  simp only [decide_true, Eng.nd_true, fd0]
  refine nd_congr (fun _ => rfl) fun h0 => ?_
  refine nd_congr (fun _ => rfl) fun h1 => ?_
  all_goals rfl
def t12_20 (a b n : Int) : Option (Int × List Int) :=
 (Eng.nd (!decide (a = 0)) (some ((Int.ofNat 1, [])))
 (Eng.nd (!decide (b = 0)) (some ((Int.ofNat 1, [])))
 (Eng.nd (decide (a = a))
 (Eng.nd (decide (b = b))
 (Eng.nd (decide (n = n))
 (Eng.nd (decide (a = a))
 (Eng.nd (decide (b = b))
 (Eng.nd (decide (n = n))
 (Eng.nd (decide (a = a))
 (Eng.nd (decide (b = b))
 (Eng.nd (decide (n = n)) (some ((Int.ofNat 0, [Int.ofNat 15, Int.ofNat (Nat.succ 132), Go.IntKind.u8.wrap (n.fdiv (2 ^ min (Int.ofNat Nat.zero).toNat Go.IntKind.i32.bits)), Go.IntKind.u8.wrap (n.fdiv (2 ^ min (Int.ofNat (Nat.succ 7)).toNat Go.IntKind.i32.bits)), Go.IntKind.u8.wrap (n.fdiv (2 ^ min (Int.ofNat (Nat.succ 15)).toNat Go.IntKind.i32.bits)), Go.IntKind.u8.wrap (n.fdiv (2 ^ min (Int.ofNat (Nat.succ 23)).toNat Go.IntKind.i32.bits))]))) none) none) none) none) none) none) none) none) none)))
def t13_20 (a b n : Int) : Option (Int × List Int) :=
 (Eng.nd (!decide (a = 0)) (some ((Int.ofNat 1, [])))
 (Eng.nd (!decide (b = 0)) (some ((Int.ofNat 1, [])))
 (Eng.nd (decide (n = n)) (some ((Int.ofNat 0, [Int.ofNat 15, Int.ofNat 133, Go.IntKind.u8.wrap n, Go.IntKind.u8.wrap (n.fdiv (2 ^ min (Int.toNat 8) Go.IntKind.i32.bits)), Go.IntKind.u8.wrap (n.fdiv (2 ^ min (Int.toNat 16) Go.IntKind.i32.bits)), Go.IntKind.u8.wrap (n.fdiv (2 ^ min (Int.toNat 24) Go.IntKind.i32.bits))]))) none)))
theorem eq_20 (a b n : Int) : t12_20 a b n = t13_20 a b n := by
  unfold t12_20 t13_20
  simp only [decide_true, Eng.nd_true, fd0]
  refine nd_congr (fun _ => rfl) fun h0 => ?_
  refine nd_congr (fun _ => rfl) fun h1 => ?_
  all_goals rfl
def t12_21 (a b n : Int) : Option (Int × List Int) :=
 (Eng.nd (!decide (a = 0)) (some ((Int.ofNat 1, [])))
 (Eng.nd (!decide (b = 0)) (some ((Int.ofNat 1, [])))
 (Eng.nd (decide (a = a))
 (Eng.nd (decide (b = b))
 (Eng.nd (decide (n = n))
 (Eng.nd (decide (a = a))
 (Eng.nd (decide (b = b))
 (Eng.nd (decide (n = n))
 (Eng.nd (decide (a = a))
 (Eng.nd (decide (b = b))
 (Eng.nd (decide (n = n)) (some ((Int.ofNat 0, [Int.ofNat 15, Int.ofNat (Nat.succ 139), Go.IntKind.u8.wrap (n.fdiv (2 ^ min (Int.ofNat Nat.zero).toNat Go.IntKind.i32.bits)), Go.IntKind.u8.wrap (n.fdiv (2 ^ min (Int.ofNat (Nat.succ 7)).toNat Go.IntKind.i32.bits)), Go.IntKind.u8.wrap (n.fdiv (2 ^ min (Int.ofNat (Nat.succ 15)).toNat Go.IntKind.i32.bits)), Go.IntKind.u8.wrap (n.fdiv (2 ^ min (Int.ofNat (Nat.succ 23)).toNat Go.IntKind.i32.bits))]))) none) none) none) none) none) none) none) none) none)))
def t13_21 (a b n : Int) : Option (Int × List Int) :=
 (Eng.nd (!decide (a = 0)) (some ((Int.ofNat 1, [])))
 (Eng.nd (!decide (b = 0)) (some ((Int.ofNat 1, [])))
 (Eng.nd (decide (n = n)) (some ((Int.ofNat 0, [Int.ofNat 15, Int.ofNat 140, Go.IntKind.u8.wrap n, Go.IntKind.u8.wrap (n.fdiv (2 ^ min (Int.toNat 8) Go.IntKind.i32.bits)), Go.IntKind.u8.wrap (n.fdiv (2 ^ min (Int.toNat 16) Go.IntKind.i32.bits)), Go.IntKind.u8.wrap (n.fdiv (2 ^ min (Int.toNat 24) Go.IntKind.i32.bits))]))) none)))
theorem eq_21 (a b n : Int) : t12_21 a b n = t13_21 a b n := by
  unfold t12_21 t13_21
  simp only [decide_true, Eng.nd_true, fd0]
  refine nd_congr (fun _ => rfl) fun h0 => ?_
  refine nd_congr (fun _ => rfl) fun h1 => ?_
  all_goals rfl
def t12_22 (a b n : Int) : Option (Int × List Int) :=
 (Eng.nd (!decide (a = 0)) (some ((Int.ofNat 1, [])))
 (Eng.nd (!decide (b = 0)) (some ((Int.ofNat 1, [])))
 (Eng.nd (decide (a = a))
 (Eng.nd (decide (b = b))
 (Eng.nd (decide (n = n))
 (Eng.nd (decide (a = a))
 (Eng.nd (decide (b = b))
 (Eng.nd (decide (n = n))
 (Eng.nd (decide (a = a))
 (Eng.nd (decide (b = b))
 (Eng.nd (decide (n = n)) (some ((Int.ofNat 0, [Int.ofNat 15, Int.ofNat (Nat.succ 140), Go.IntKind.u8.wrap (n.fdiv (2 ^ min (Int.ofNat Nat.zero).toNat Go.IntKind.i32.bits)), Go.IntKind.u8.wrap (n.fdiv (2 ^ min (Int.ofNat (Nat.succ 7)).toNat Go.IntKind.i32.bits)), Go.IntKind.u8.wrap (n.fdiv (2 ^ min (Int.ofNat (Nat.succ 15)).toNat Go.IntKind.i32.bits)), Go.IntKind.u8.wrap (n.fdiv (2 ^ min (Int.ofNat (Nat.succ 23)).toNat Go.IntKind.i32.bits))]))) none) none) none) none) none) none) none) none) none)))
def t13_22 (a b n : Int) : Option (Int × List Int) :=
 (Eng.nd (!decide (a = 0)) (some ((Int.ofNat 1, [])))
 (Eng.nd (!decide (b = 0)) (some ((Int.ofNat 1, [])))
 (Eng.nd (decide (n = n)) (some ((Int.ofNat 0, [Int.ofNat 15, Int.ofNat 141, Go.IntKind.u8.wrap n, Go.IntKind.u8.wrap (n.fdiv (2 ^ min (Int.toNat 8) Go.IntKind.i32.bits)), Go.IntKind.u8.wrap (n.fdiv (2 ^ min (Int.toNat 16) Go.IntKind.i32.bits)), Go.IntKind.u8.wrap (n.fdiv (2 ^ min (Int.toNat 24) Go.IntKind.i32.bits))]))) none)))
theorem eq_22 (a b n : Int) : t12_22 a b n = t13_22 a b n := by
  unfold t12_22 t13_22
  simp only [decide_true, Eng.nd_true, fd0]
  refine nd_congr (fun _ => rfl) fun h0 => ?_
  refine nd_congr (fun _ => rfl) fun h1 => ?_
  all_goals rfl
def t12_23 (a b n : Int) : Option (Int × List Int) :=
 (Eng.nd (!decide (a = 0)) (some ((Int.ofNat 1, [])))
 (Eng.nd (!decide (b = 0)) (some ((Int.ofNat 1, [])))
 (Eng.nd (decide (a = a))
 (Eng.nd (decide (b = b))
 (Eng.nd (decide (n = n))
 (Eng.nd (decide (a = a))
 (Eng.nd (decide (b = b))
 (Eng.nd (decide (n = n))
 (Eng.nd (decide (a = a))
 (Eng.nd (decide (b = b))
 (Eng.nd (decide (n = n)) (some ((Int.ofNat 0, [Int.ofNat 15, Int.ofNat (Nat.succ 141), Go.IntKind.u8.wrap (n.fdiv (2 ^ min (Int.ofNat Nat.zero).toNat Go.IntKind.i32.bits)), Go.IntKind.u8.wrap (n.fdiv (2 ^ min (Int.ofNat (Nat.succ 7)).toNat Go.IntKind.i32.bits)), Go.IntKind.u8.wrap (n.fdiv (2 ^ min (Int.ofNat (Nat.succ 15)).toNat Go.IntKind.i32.bits)), Go.IntKind.u8.wrap (n.fdiv (2 ^ min (Int.ofNat (Nat.succ 23)).toNat Go.IntKind.i32.bits))]))) none) none) none) none) none) none) none) none) none)))
def t13_23 (a b n : Int) : Option (Int × List Int) :=
 (Eng.nd (!decide (a = 0)) (some ((Int.ofNat 1, [])))
 (Eng.nd (!decide (b = 0)) (some ((Int.ofNat 1, [])))
 (Eng.nd (decide (n = n)) (some ((Int.ofNat 0, [Int.ofNat 15, Int.ofNat 142, Go.IntKind.u8.wrap n, Go.IntKind.u8.wrap (n.fdiv (2 ^ min (Int.toNat 8) Go.IntKind.i32.bits)), Go.IntKind.u8.wrap (n.fdiv (2 ^ min (Int.toNat 16) Go.IntKind.i32.bits)), Go.IntKind.u8.wrap (n.fdiv (2 ^ min (Int.toNat 24) Go.IntKind.i32.bits))]))) none)))
theorem eq_23 (a b n : Int) : t12_23 a b n = t13_23 a b n := by
  unfold t12_23 t13_23
  simp only [decide_true, Eng.nd_true, fd0]
  refine nd_congr (fun _ => rfl) fun h0 => ?_
  refine nd_congr (fun _ => rfl) fun h1 => ?_
  all_goals rfl
def t12_24 (a b n : Int) : Option (Int × List Int) :=
 (Eng.nd (!decide (a = 0)) (some ((Int.ofNat 1, [])))
 (Eng.nd (!decide (b = 0)) (some ((Int.ofNat 1, [])))
 (Eng.nd (decide (a = a))
 (Eng.nd (decide (b = b))
 (Eng.nd (decide (n = n))
 (Eng.nd (decide (a = a))
 (Eng.nd (decide (b = b))
 (Eng.nd (decide (n = n))
 (Eng.nd (decide (a = a))
 (Eng.nd (decide (b = b))
 (Eng.nd (decide (n = n)) (some ((Int.ofNat 0, [Int.ofNat 15, Int.ofNat (Nat.succ 142), Go.IntKind.u8.wrap (n.fdiv (2 ^ min (Int.ofNat Nat.zero).toNat Go.IntKind.i32.bits)), Go.IntKind.u8.wrap (n.fdiv (2 ^ min (Int.ofNat (Nat.succ 7)).toNat Go.IntKind.i32.bits)), Go.IntKind.u8.wrap (n.fdiv (2 ^ min (Int.ofNat (Nat.succ 15)).toNat Go.IntKind.i32.bits)), Go.IntKind.u8.wrap (n.fdiv (2 ^ min (Int.ofNat (Nat.succ 23)).toNat Go.IntKind.i32.bits))]))) none) none) none) none) none) none) none) none) none)))
def t13_24 (a b n : Int) : Option (Int × List Int) :=
 (Eng.nd (!decide (a = 0)) (some ((Int.ofNat 1, [])))
 (Eng.nd (!decide (b = 0)) (some ((Int.ofNat 1, [])))
 (Eng.nd (decide (n = n)) (some ((Int.ofNat 0, [Int.ofNat 15, Int.ofNat 143, Go.IntKind.u8.wrap n, Go.IntKind.u8.wrap (n.fdiv (2 ^ min (Int.toNat 8) Go.IntKind.i32.bits)), Go.IntKind.u8.wrap (n.fdiv (2 ^ min (Int.toNat 16) Go.IntKind.i32.bits)), Go.IntKind.u8.wrap (n.fdiv (2 ^ min (Int.toNat 24) Go.IntKind.i32.bits))]))) none)))
theorem eq_24 (a b n : Int) : t12_24 a b n = t13_24 a b n := by
  unfold t12_24 t13_24
  simp only [decide_true, Eng.nd_true, fd0]
  refine nd_congr (fun _ => rfl) fun h0 => ?_
  refine nd_congr (fun _ => rfl) fun h1 => ?_
  all_goals rfl
def t12_25 (a b n : Int) : Option (Int × List Int) :=
 (Eng.nd (!decide (a = 0)) (some ((Int.ofNat 1, [])))
 (Eng.nd (!decide (b = 0)) (some ((Int.ofNat 1, [])))
 (Eng.nd (!decide (n = 0)) (some ((Int.ofNat 1, [])))
 (Eng.nd (decide (a = a))
 (Eng.nd (decide (b = b))
 (Eng.nd (decide (n = n))
 (Eng.nd (decide (a = a))
 (Eng.nd (decide (b = b))
 (Eng.nd (decide (n = n))
 (Eng.nd (decide (a = a))
 (Eng.nd (decide (b = b))
 (Eng.nd (decide (n = n)) (some ((Int.ofNat 0, [Int.ofNat 195]))) none) none) none) none) none) none) none) none) none))))
def t13_25 (a b n : Int) : Option (Int × List Int) :=
 (Eng.nd (!decide (a = 0)) (some ((Int.ofNat 1, [])))
 (Eng.nd (!decide (b = 0)) (some ((Int.ofNat 1, [])))
 (Eng.nd (!decide (n = 0)) (some ((Int.ofNat 1, []))) (some ((Int.ofNat 0, [Int.ofNat 195]))))))
theorem eq_25 (a b n : Int) : t12_25 a b n = t13_25 a b n := by
  unfold t12_25 t13_25
  simp only [decide_true, Eng.nd_true, fd0]
def t12_26 (a b n : Int) : Option (Int × List Int) :=
 (Eng.nd (!decide (a = 0)) (some ((Int.ofNat 1, [])))
 (Eng.nd (!decide (b = 0)) (some ((Int.ofNat 1, [])))
 (Eng.nd (decide (0 ≤ n))
 (Eng.nd (!decide (n ≤ 255)) (some ((Int.ofNat 1, [])))
 (Eng.nd (decide (a = a))
 (Eng.nd (decide (b = b))
 (Eng.nd (decide (n = n))
 (Eng.nd (decide (a = a))
 (Eng.nd (decide (b = b))
 (Eng.nd (decide (n = n))
 (Eng.nd (decide (a = a))
 (Eng.nd (decide (b = b))
 (Eng.nd (decide (n = n)) (some ((Int.ofNat 0, [Int.ofNat 205, Go.IntKind.u8.wrap (n.fdiv (2 ^ min (Int.ofNat Nat.zero).toNat Go.IntKind.i32.bits))]))) none) none) none) none) none) none) none) none) none)) (some ((Int.ofNat 1, []))))))
def t13_26 (a b n : Int) : Option (Int × List Int) :=
 (Eng.nd (!decide (a = 0)) (some ((Int.ofNat 1, [])))
 (Eng.nd (!decide (b = 0)) (some ((Int.ofNat 1, [])))
 (Eng.nd (decide (n < 0)) (some ((Int.ofNat 1, [])))
 (Eng.nd (decide (255 < n)) (some ((Int.ofNat 1, []))) (some ((Int.ofNat 0, [Int.ofNat 205, Go.IntKind.u8.wrap n])))))))
theorem eq_26 (a b n : Int) : t12_26 a b n = t13_26 a b n := by
  unfold t12_26 t13_26
  simp only [decide_true, Eng.nd_true, fd0]
  refine nd_congr (fun _ => rfl) fun h0 => ?_
  refine nd_congr (fun _ => rfl) fun h1 => ?_
  by_cases h2 : 0 ≤ n
  · by_cases h3 : n ≤ 255
    · simp only [decide_eq_true h2, decide_eq_true h3, decide_eq_false (show ¬ n < 0 by omega), decide_eq_false (show ¬ 255 < n by omega), Bool.not_true, Eng.nd_true, Eng.nd_false]
    · simp only [decide_eq_true h2, decide_eq_false h3, decide_eq_false (show ¬ n < 0 by omega), decide_eq_true (show 255 < n by omega), Bool.not_false, Eng.nd_true, Eng.nd_false]
  · simp only [decide_eq_false h2, decide_eq_true (show n < 0 by omega), Eng.nd_true, Eng.nd_false]
/-! ### what an instruction is written as -/
def encO (op a b n : Int) : Option (Int × List Int) :=
  (Eng.nd (decide (op = 1)) (t13_1 a b n)
  (Eng.nd (decide (op = 2)) (t13_2 a b n)
  (Eng.nd (decide (op = 3)) (t13_3 a b n)
  (Eng.nd (decide (op = 4)) (t13_4 a b n)
  (Eng.nd (decide (op = 5)) (t13_5 a b n)
  (Eng.nd (decide (op = 6)) (t13_6 a b n)
  (Eng.nd (decide (op = 7)) (t13_7 a b n)
  (Eng.nd (decide (op = 8)) (t13_8 a b n)
  (Eng.nd (decide (op = 9)) (t13_9 a b n)
  (Eng.nd (decide (op = 10)) (t13_10 a b n)
  (Eng.nd (decide (op = 11)) (t13_11 a b n)
  (Eng.nd (decide (op = 12)) (t13_12 a b n)
  (Eng.nd (decide (op = 13)) (t13_13 a b n)
  (Eng.nd (decide (op = 14)) (t13_14 a b n)
  (Eng.nd (decide (op = 15)) (t13_15 a b n)
  (Eng.nd (decide (op = 16)) (t13_16 a b n)
  (Eng.nd (decide (op = 17)) (t13_17 a b n)
  (Eng.nd (decide (op = 18)) (t13_18 a b n)
  (Eng.nd (decide (op = 19)) (t13_19 a b n)
  (Eng.nd (decide (op = 20)) (t13_20 a b n)
  (Eng.nd (decide (op = 21)) (t13_21 a b n)
  (Eng.nd (decide (op = 22)) (t13_22 a b n)
  (Eng.nd (decide (op = 23)) (t13_23 a b n)
  (Eng.nd (decide (op = 24)) (t13_24 a b n)
  (Eng.nd (decide (op = 25)) (t13_25 a b n)
  (Eng.nd (decide (op = 26)) (t13_26 a b n)
  (some (15, []))))))))))))))))))))))))))))
def encT {β : Type} : Eng.EF β
  | [.agg [.int .i64 op, .int .i64 a, .int .i64 b, .int .i32 n]], h, x, k => match encO op a b n with
    | some (e, bs) => Eng.resT e bs h x k
    | none => none
  | _, _, _, _ => none
def T {β : Type} (call : Eng.CALL β) : Eng.CALL β := fun f vs h x k => match Nat.beq f 56 || Nat.beq f 27 with
  | true => encT vs h x k
  | false => call f vs h x k
end Go.Proofs.Ytpcocfdgcihpdaa.x86enc
