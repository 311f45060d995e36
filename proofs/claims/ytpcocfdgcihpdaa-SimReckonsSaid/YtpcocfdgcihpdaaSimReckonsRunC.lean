/-
  SimReckons RUNS AS A TREE OF TRUTHS: the evaluator's run with two numbers that are not worked out (checked by the kernel), in some of six cases.
-/
import Derived.Test.YtpcocfdgcihpdaaProg
import Derived.Test.YtpcocfdgcihpdaaREngZ
import Derived.KernelRfl
namespace Go.Proofs.Ytpcocfdgcihpdaa.simReckons
open Go.Proofs.YtpcocfdgcihpdaaR
set_option maxRecDepth 1000000
def tree9 (a b : Int) : Option Eng.AV :=
 (Eng.nd (decide (Go.IntKind.i64.wrap b = Go.IntKind.i64.wrap b))
 (Eng.nd (decide (b = b))
 (Eng.nd (decide (Go.IntKind.i64.wrap a = Go.IntKind.i64.wrap a))
 (Eng.nd (decide (a = a))
 (Eng.nd (decide (Go.IntKind.i64.wrap b = Go.IntKind.i64.wrap b))
 (Eng.nd (decide (b = b))
 (Eng.nd (decide (Go.IntKind.i64.wrap (Go.IntKind.i64.wrap a + Go.IntKind.i64.wrap b) = Go.IntKind.i64.wrap (Go.IntKind.i64.wrap a + Go.IntKind.i64.wrap b)))
 (Eng.nd (decide (Go.IntKind.i64.wrap b = Go.IntKind.i64.wrap b))
 (Eng.nd (decide (Go.IntKind.i64.wrap a = Go.IntKind.i64.wrap a))
 (Eng.nd (!decide (Go.IntKind.i32.wrap (Go.IntKind.i64.wrap (Go.IntKind.i64.wrap a + Go.IntKind.i64.wrap b)) = Go.IntKind.i32.wrap (Go.IntKind.i64.wrap (Go.IntKind.i64.wrap a + Go.IntKind.i64.wrap b)))) none
 (Eng.nd (!decide (b = b)) none
 (Eng.nd (decide (Go.IntKind.i64.wrap b = Go.IntKind.i64.wrap b))
 (Eng.nd (decide (b = b))
 (Eng.nd (decide (Go.IntKind.i64.wrap a = Go.IntKind.i64.wrap a))
 (Eng.nd (decide (a = a))
 (Eng.nd (decide (Go.IntKind.i64.wrap b = Go.IntKind.i64.wrap b))
 (Eng.nd (decide (b = b))
 (Eng.nd (decide (Go.IntKind.i64.wrap (Go.IntKind.i64.wrap a - Go.IntKind.i64.wrap b) = Go.IntKind.i64.wrap (Go.IntKind.i64.wrap a - Go.IntKind.i64.wrap b)))
 (Eng.nd (decide (Go.IntKind.i64.wrap b = Go.IntKind.i64.wrap b))
 (Eng.nd (decide (Go.IntKind.i64.wrap a = Go.IntKind.i64.wrap a))
 (Eng.nd (!decide (Go.IntKind.i32.wrap (Go.IntKind.i64.wrap (Go.IntKind.i64.wrap a - Go.IntKind.i64.wrap b)) = Go.IntKind.i32.wrap (Go.IntKind.i64.wrap (Go.IntKind.i64.wrap a - Go.IntKind.i64.wrap b)))) none
 (Eng.nd (!decide (b = b)) none
 (Eng.nd (decide (b = b))
 (Eng.nd (decide (a = a))
 (Eng.nd (decide (b = b))
 (Eng.nd (decide (Go.IntKind.i64.wrap (Go.IntKind.i32.wrap ↑(BitVec.ofInt Go.IntKind.i32.bits a &&& BitVec.ofInt Go.IntKind.i32.bits b).toNat) = Go.IntKind.i64.wrap (Go.IntKind.i32.wrap ↑(BitVec.ofInt Go.IntKind.i32.bits a &&& BitVec.ofInt Go.IntKind.i32.bits b).toNat)))
 (Eng.nd (decide (Go.IntKind.i32.wrap ↑(BitVec.ofInt Go.IntKind.i32.bits a &&& BitVec.ofInt Go.IntKind.i32.bits b).toNat = Go.IntKind.i32.wrap ↑(BitVec.ofInt Go.IntKind.i32.bits a &&& BitVec.ofInt Go.IntKind.i32.bits b).toNat))
 (Eng.nd (!decide (Go.IntKind.i32.wrap (Go.IntKind.i64.wrap (Go.IntKind.i32.wrap ↑(BitVec.ofInt Go.IntKind.i32.bits a &&& BitVec.ofInt Go.IntKind.i32.bits b).toNat)) = Go.IntKind.i32.wrap ↑(BitVec.ofInt Go.IntKind.i32.bits a &&& BitVec.ofInt Go.IntKind.i32.bits b).toNat)) none
 (Eng.nd (!decide (b = b)) none
 (Eng.nd (decide (b = b))
 (Eng.nd (decide (a = a))
 (Eng.nd (decide (b = b))
 (Eng.nd (decide (Go.IntKind.i64.wrap (Go.IntKind.i32.wrap ↑(BitVec.ofInt Go.IntKind.i32.bits a ||| BitVec.ofInt Go.IntKind.i32.bits b).toNat) = Go.IntKind.i64.wrap (Go.IntKind.i32.wrap ↑(BitVec.ofInt Go.IntKind.i32.bits a ||| BitVec.ofInt Go.IntKind.i32.bits b).toNat)))
 (Eng.nd (decide (Go.IntKind.i32.wrap ↑(BitVec.ofInt Go.IntKind.i32.bits a ||| BitVec.ofInt Go.IntKind.i32.bits b).toNat = Go.IntKind.i32.wrap ↑(BitVec.ofInt Go.IntKind.i32.bits a ||| BitVec.ofInt Go.IntKind.i32.bits b).toNat))
 (Eng.nd (!decide (Go.IntKind.i32.wrap (Go.IntKind.i64.wrap (Go.IntKind.i32.wrap ↑(BitVec.ofInt Go.IntKind.i32.bits a ||| BitVec.ofInt Go.IntKind.i32.bits b).toNat)) = Go.IntKind.i32.wrap ↑(BitVec.ofInt Go.IntKind.i32.bits a ||| BitVec.ofInt Go.IntKind.i32.bits b).toNat)) none
 (Eng.nd (!decide (b = b)) none
 (Eng.nd (decide (b = b))
 (Eng.nd (decide (a = a))
 (Eng.nd (decide (b = b))
 (Eng.nd (decide (Go.IntKind.i64.wrap (Go.IntKind.i32.wrap ↑(BitVec.ofInt Go.IntKind.i32.bits a ^^^ BitVec.ofInt Go.IntKind.i32.bits b).toNat) = Go.IntKind.i64.wrap (Go.IntKind.i32.wrap ↑(BitVec.ofInt Go.IntKind.i32.bits a ^^^ BitVec.ofInt Go.IntKind.i32.bits b).toNat)))
 (Eng.nd (decide (Go.IntKind.i32.wrap ↑(BitVec.ofInt Go.IntKind.i32.bits a ^^^ BitVec.ofInt Go.IntKind.i32.bits b).toNat = Go.IntKind.i32.wrap ↑(BitVec.ofInt Go.IntKind.i32.bits a ^^^ BitVec.ofInt Go.IntKind.i32.bits b).toNat))
 (Eng.nd (!decide (Go.IntKind.i32.wrap (Go.IntKind.i64.wrap (Go.IntKind.i32.wrap ↑(BitVec.ofInt Go.IntKind.i32.bits a ^^^ BitVec.ofInt Go.IntKind.i32.bits b).toNat)) = Go.IntKind.i32.wrap ↑(BitVec.ofInt Go.IntKind.i32.bits a ^^^ BitVec.ofInt Go.IntKind.i32.bits b).toNat)) none
 (Eng.nd (!decide (b = b)) none
 (Eng.nd (decide (Go.IntKind.i32.wrap (a * b) = Go.IntKind.i32.wrap (a * b)))
 (Eng.nd (decide (b = b))
 (Eng.nd (decide (a = a))
 (Eng.nd (!decide (Go.IntKind.i32.wrap (a * b) = Go.IntKind.i32.wrap (Go.IntKind.i64.wrap (Go.IntKind.i64.wrap a * Go.IntKind.i64.wrap b)))) none
 (Eng.nd (!decide (b = b)) none
 (Eng.nd (decide (Go.IntKind.i32.wrap ↑(BitVec.ofInt Go.IntKind.i32.bits b &&& BitVec.ofInt Go.IntKind.i32.bits 31).toNat = Go.IntKind.i32.wrap ↑(BitVec.ofInt Go.IntKind.i32.bits b &&& BitVec.ofInt Go.IntKind.i32.bits 31).toNat))
 (Eng.nd (decide (b = b))
 (Eng.nd (decide (Go.IntKind.i32.wrap ↑(BitVec.ofInt Go.IntKind.i32.bits b &&& BitVec.ofInt Go.IntKind.i32.bits 31).toNat = Go.IntKind.i32.wrap ↑(BitVec.ofInt Go.IntKind.i32.bits b &&& BitVec.ofInt Go.IntKind.i32.bits 31).toNat))
 (Eng.nd (decide (b = b))
 (Eng.nd (decide (Go.IntKind.i32.wrap ↑(BitVec.ofInt Go.IntKind.i32.bits b &&& BitVec.ofInt Go.IntKind.i32.bits 31).toNat < 0)) none
 (Eng.nd (!decide (Go.IntKind.i32.wrap (a * 2 ^ min (Go.IntKind.i32.wrap ↑(BitVec.ofInt Go.IntKind.i32.bits b &&& BitVec.ofInt Go.IntKind.i32.bits 31).toNat).toNat Go.IntKind.i32.bits) = Go.IntKind.i32.wrap (Go.IntKind.i64.wrap (Go.IntKind.i64.wrap a * 2 ^ min (Go.IntKind.u64.wrap ↑(BitVec.ofInt Go.IntKind.u64.bits (Go.IntKind.u64.wrap b) &&& BitVec.ofInt Go.IntKind.u64.bits 31).toNat).toNat Go.IntKind.i64.bits)))) none
 (Eng.nd (decide (Go.IntKind.i32.wrap ↑(BitVec.ofInt Go.IntKind.i32.bits b &&& BitVec.ofInt Go.IntKind.i32.bits 31).toNat = Go.IntKind.i32.wrap ↑(BitVec.ofInt Go.IntKind.i32.bits b &&& BitVec.ofInt Go.IntKind.i32.bits 31).toNat))
 (Eng.nd (decide (b = b))
 (Eng.nd (decide (Go.IntKind.i32.wrap ↑(BitVec.ofInt Go.IntKind.i32.bits b &&& BitVec.ofInt Go.IntKind.i32.bits 31).toNat = Go.IntKind.i32.wrap ↑(BitVec.ofInt Go.IntKind.i32.bits b &&& BitVec.ofInt Go.IntKind.i32.bits 31).toNat))
 (Eng.nd (decide (b = b))
 (Eng.nd (decide (Go.IntKind.i32.wrap ↑(BitVec.ofInt Go.IntKind.i32.bits b &&& BitVec.ofInt Go.IntKind.i32.bits 31).toNat < 0)) none
 (Eng.nd (!decide (a.fdiv (2 ^ min (Go.IntKind.i32.wrap ↑(BitVec.ofInt Go.IntKind.i32.bits b &&& BitVec.ofInt Go.IntKind.i32.bits 31).toNat).toNat Go.IntKind.i32.bits) = Go.IntKind.i32.wrap ((Go.IntKind.i64.wrap a).fdiv (2 ^ min (Go.IntKind.u64.wrap ↑(BitVec.ofInt Go.IntKind.u64.bits (Go.IntKind.u64.wrap b) &&& BitVec.ofInt Go.IntKind.u64.bits 31).toNat).toNat Go.IntKind.i64.bits)))) none
 (Eng.nd (decide (Go.IntKind.i32.wrap ↑(BitVec.ofInt Go.IntKind.i32.bits b &&& BitVec.ofInt Go.IntKind.i32.bits 31).toNat = Go.IntKind.i32.wrap ↑(BitVec.ofInt Go.IntKind.i32.bits b &&& BitVec.ofInt Go.IntKind.i32.bits 31).toNat))
 (Eng.nd (decide (b = b))
 (Eng.nd (decide (Go.IntKind.i32.wrap ↑(BitVec.ofInt Go.IntKind.i32.bits b &&& BitVec.ofInt Go.IntKind.i32.bits 31).toNat = Go.IntKind.i32.wrap ↑(BitVec.ofInt Go.IntKind.i32.bits b &&& BitVec.ofInt Go.IntKind.i32.bits 31).toNat))
 (Eng.nd (decide (b = b))
 (Eng.nd (decide (Go.IntKind.i32.wrap ↑(BitVec.ofInt Go.IntKind.i32.bits b &&& BitVec.ofInt Go.IntKind.i32.bits 31).toNat < 0)) none
 (Eng.nd (!decide (Go.IntKind.i32.wrap ((Go.IntKind.u32.wrap a).fdiv (2 ^ min (Go.IntKind.i32.wrap ↑(BitVec.ofInt Go.IntKind.i32.bits b &&& BitVec.ofInt Go.IntKind.i32.bits 31).toNat).toNat Go.IntKind.u32.bits)) = Go.IntKind.i32.wrap ((Go.IntKind.i64.wrap ↑(BitVec.ofInt Go.IntKind.i64.bits (Go.IntKind.i64.wrap a) &&& BitVec.ofInt Go.IntKind.i64.bits 4294967295).toNat).fdiv (2 ^ min (Go.IntKind.u64.wrap ↑(BitVec.ofInt Go.IntKind.u64.bits (Go.IntKind.u64.wrap b) &&& BitVec.ofInt Go.IntKind.u64.bits 31).toNat).toNat Go.IntKind.i64.bits)))) none
 (Eng.nd (decide (a.fdiv (2 ^ min (Int.toNat 31) Go.IntKind.i32.bits) = a.fdiv (2 ^ min (Int.toNat 31) Go.IntKind.i32.bits)))
 (Eng.nd (decide (a = a))
 (Eng.nd (decide (Go.IntKind.i64.wrap ↑(BitVec.ofInt Go.IntKind.i64.bits (Go.IntKind.i64.wrap (Go.IntKind.i64.wrap (a.fdiv (2 ^ min (Int.toNat 31) Go.IntKind.i32.bits)) * 2 ^ min (Int.toNat 32) Go.IntKind.i64.bits)) ||| BitVec.ofInt Go.IntKind.i64.bits (Go.IntKind.i64.wrap (Go.IntKind.u32.wrap a))).toNat = Go.IntKind.i64.wrap ↑(BitVec.ofInt Go.IntKind.i64.bits (Go.IntKind.i64.wrap (Go.IntKind.i64.wrap (a.fdiv (2 ^ min (Int.toNat 31) Go.IntKind.i32.bits)) * 2 ^ min (Int.toNat 32) Go.IntKind.i64.bits)) ||| BitVec.ofInt Go.IntKind.i64.bits (Go.IntKind.i64.wrap (Go.IntKind.u32.wrap a))).toNat))
 (Eng.nd (decide (Go.IntKind.i64.wrap (Go.IntKind.u32.wrap a) = Go.IntKind.i64.wrap (Go.IntKind.u32.wrap a)))
 (Eng.nd (decide (Go.IntKind.u32.wrap a = Go.IntKind.u32.wrap a))
 (Eng.nd (decide (a = a))
 (Eng.nd (decide (Go.IntKind.i64.wrap (Go.IntKind.i64.wrap (a.fdiv (2 ^ min (Int.toNat 31) Go.IntKind.i32.bits)) * 2 ^ min (Int.toNat 32) Go.IntKind.i64.bits) = Go.IntKind.i64.wrap (Go.IntKind.i64.wrap (a.fdiv (2 ^ min (Int.toNat 31) Go.IntKind.i32.bits)) * 2 ^ min (Int.toNat 32) Go.IntKind.i64.bits)))
 (Eng.nd (decide (Go.IntKind.i64.wrap (a.fdiv (2 ^ min (Int.toNat 31) Go.IntKind.i32.bits)) = Go.IntKind.i64.wrap (a.fdiv (2 ^ min (Int.toNat 31) Go.IntKind.i32.bits))))
 (Eng.nd (decide (a.fdiv (2 ^ min (Int.toNat 31) Go.IntKind.i32.bits) = a.fdiv (2 ^ min (Int.toNat 31) Go.IntKind.i32.bits)))
 (Eng.nd (decide (Go.IntKind.i64.wrap b = Go.IntKind.i64.wrap b))
 (Eng.nd (decide (b = b))
 (Eng.nd (decide (Go.IntKind.i64.wrap b = 0)) none
 (Eng.nd (decide (Go.IntKind.i64.wrap ↑(BitVec.ofInt Go.IntKind.i64.bits (Go.IntKind.i64.wrap (Go.IntKind.i64.wrap (a.fdiv (2 ^ min (Int.toNat 31) Go.IntKind.i32.bits)) * 2 ^ min (Int.toNat 32) Go.IntKind.i64.bits)) ||| BitVec.ofInt Go.IntKind.i64.bits (Go.IntKind.i64.wrap (Go.IntKind.u32.wrap a))).toNat < 0))
 (Eng.nd (decide (Go.IntKind.i64.wrap b < 0))
 (Eng.nd (decide (Go.IntKind.u64.wrap (0 - Go.IntKind.u64.wrap (Go.IntKind.i64.wrap b)) = 0)) none
 (Eng.nd (decide (Go.IntKind.u64.wrap (0 - Go.IntKind.u64.wrap (Go.IntKind.i64.wrap b)) ≤ 0)) none
 (Eng.nd (decide (Go.IntKind.u64.wrap (0 - Go.IntKind.u64.wrap (Go.IntKind.i64.wrap b)) = 0)) none
 (Eng.nd (decide ((Go.IntKind.u64.wrap (0 - Go.IntKind.u64.wrap (Go.IntKind.i64.wrap ↑(BitVec.ofInt Go.IntKind.i64.bits (Go.IntKind.i64.wrap (Go.IntKind.i64.wrap (a.fdiv (2 ^ min (Int.toNat 31) Go.IntKind.i32.bits)) * 2 ^ min (Int.toNat 32) Go.IntKind.i64.bits)) ||| BitVec.ofInt Go.IntKind.i64.bits (Go.IntKind.i64.wrap (Go.IntKind.u32.wrap a))).toNat))).tmod (Go.IntKind.u64.wrap (0 - Go.IntKind.u64.wrap (Go.IntKind.i64.wrap b))) = (Go.IntKind.u64.wrap (0 - Go.IntKind.u64.wrap (Go.IntKind.i64.wrap ↑(BitVec.ofInt Go.IntKind.i64.bits (Go.IntKind.i64.wrap (Go.IntKind.i64.wrap (a.fdiv (2 ^ min (Int.toNat 31) Go.IntKind.i32.bits)) * 2 ^ min (Int.toNat 32) Go.IntKind.i64.bits)) ||| BitVec.ofInt Go.IntKind.i64.bits (Go.IntKind.i64.wrap (Go.IntKind.u32.wrap a))).toNat))).tmod (Go.IntKind.u64.wrap (0 - Go.IntKind.u64.wrap (Go.IntKind.i64.wrap b)))))
 (Eng.nd (decide (Go.IntKind.u64.wrap (0 - Go.IntKind.u64.wrap (Go.IntKind.i64.wrap b)) = Go.IntKind.u64.wrap (0 - Go.IntKind.u64.wrap (Go.IntKind.i64.wrap b))))
 (Eng.nd (decide (Go.IntKind.u64.wrap (0 - Go.IntKind.u64.wrap (Go.IntKind.i64.wrap ↑(BitVec.ofInt Go.IntKind.i64.bits (Go.IntKind.i64.wrap (Go.IntKind.i64.wrap (a.fdiv (2 ^ min (Int.toNat 31) Go.IntKind.i32.bits)) * 2 ^ min (Int.toNat 32) Go.IntKind.i64.bits)) ||| BitVec.ofInt Go.IntKind.i64.bits (Go.IntKind.i64.wrap (Go.IntKind.u32.wrap a))).toNat)) = Go.IntKind.u64.wrap (0 - Go.IntKind.u64.wrap (Go.IntKind.i64.wrap ↑(BitVec.ofInt Go.IntKind.i64.bits (Go.IntKind.i64.wrap (Go.IntKind.i64.wrap (a.fdiv (2 ^ min (Int.toNat 31) Go.IntKind.i32.bits)) * 2 ^ min (Int.toNat 32) Go.IntKind.i64.bits)) ||| BitVec.ofInt Go.IntKind.i64.bits (Go.IntKind.i64.wrap (Go.IntKind.u32.wrap a))).toNat))))
 (Eng.nd (decide (Go.IntKind.u64.wrap ((Go.IntKind.u64.wrap (0 - Go.IntKind.u64.wrap (Go.IntKind.i64.wrap ↑(BitVec.ofInt Go.IntKind.i64.bits (Go.IntKind.i64.wrap (Go.IntKind.i64.wrap (a.fdiv (2 ^ min (Int.toNat 31) Go.IntKind.i32.bits)) * 2 ^ min (Int.toNat 32) Go.IntKind.i64.bits)) ||| BitVec.ofInt Go.IntKind.i64.bits (Go.IntKind.i64.wrap (Go.IntKind.u32.wrap a))).toNat))).tdiv (Go.IntKind.u64.wrap (0 - Go.IntKind.u64.wrap (Go.IntKind.i64.wrap b)))) = Go.IntKind.u64.wrap ((Go.IntKind.u64.wrap (0 - Go.IntKind.u64.wrap (Go.IntKind.i64.wrap ↑(BitVec.ofInt Go.IntKind.i64.bits (Go.IntKind.i64.wrap (Go.IntKind.i64.wrap (a.fdiv (2 ^ min (Int.toNat 31) Go.IntKind.i32.bits)) * 2 ^ min (Int.toNat 32) Go.IntKind.i64.bits)) ||| BitVec.ofInt Go.IntKind.i64.bits (Go.IntKind.i64.wrap (Go.IntKind.u32.wrap a))).toNat))).tdiv (Go.IntKind.u64.wrap (0 - Go.IntKind.u64.wrap (Go.IntKind.i64.wrap b))))))
 (Eng.nd (decide (Go.IntKind.u64.wrap (0 - Go.IntKind.u64.wrap (Go.IntKind.i64.wrap b)) = Go.IntKind.u64.wrap (0 - Go.IntKind.u64.wrap (Go.IntKind.i64.wrap b))))
 (Eng.nd (decide (Go.IntKind.u64.wrap (0 - Go.IntKind.u64.wrap (Go.IntKind.i64.wrap ↑(BitVec.ofInt Go.IntKind.i64.bits (Go.IntKind.i64.wrap (Go.IntKind.i64.wrap (a.fdiv (2 ^ min (Int.toNat 31) Go.IntKind.i32.bits)) * 2 ^ min (Int.toNat 32) Go.IntKind.i64.bits)) ||| BitVec.ofInt Go.IntKind.i64.bits (Go.IntKind.i64.wrap (Go.IntKind.u32.wrap a))).toNat)) = Go.IntKind.u64.wrap (0 - Go.IntKind.u64.wrap (Go.IntKind.i64.wrap ↑(BitVec.ofInt Go.IntKind.i64.bits (Go.IntKind.i64.wrap (Go.IntKind.i64.wrap (a.fdiv (2 ^ min (Int.toNat 31) Go.IntKind.i32.bits)) * 2 ^ min (Int.toNat 32) Go.IntKind.i64.bits)) ||| BitVec.ofInt Go.IntKind.i64.bits (Go.IntKind.i64.wrap (Go.IntKind.u32.wrap a))).toNat))))
 (Eng.nd (decide ((Go.IntKind.u64.wrap (0 - Go.IntKind.u64.wrap (Go.IntKind.i64.wrap ↑(BitVec.ofInt Go.IntKind.i64.bits (Go.IntKind.i64.wrap (Go.IntKind.i64.wrap (a.fdiv (2 ^ min (Int.toNat 31) Go.IntKind.i32.bits)) * 2 ^ min (Int.toNat 32) Go.IntKind.i64.bits)) ||| BitVec.ofInt Go.IntKind.i64.bits (Go.IntKind.i64.wrap (Go.IntKind.u32.wrap a))).toNat))).tmod (Go.IntKind.u64.wrap (0 - Go.IntKind.u64.wrap (Go.IntKind.i64.wrap b))) = (Go.IntKind.u64.wrap (0 - Go.IntKind.u64.wrap (Go.IntKind.i64.wrap ↑(BitVec.ofInt Go.IntKind.i64.bits (Go.IntKind.i64.wrap (Go.IntKind.i64.wrap (a.fdiv (2 ^ min (Int.toNat 31) Go.IntKind.i32.bits)) * 2 ^ min (Int.toNat 32) Go.IntKind.i64.bits)) ||| BitVec.ofInt Go.IntKind.i64.bits (Go.IntKind.i64.wrap (Go.IntKind.u32.wrap a))).toNat))).tmod (Go.IntKind.u64.wrap (0 - Go.IntKind.u64.wrap (Go.IntKind.i64.wrap b)))))
 (Eng.nd (decide (Go.IntKind.u64.wrap (0 - Go.IntKind.u64.wrap (Go.IntKind.i64.wrap b)) = Go.IntKind.u64.wrap (0 - Go.IntKind.u64.wrap (Go.IntKind.i64.wrap b))))
 (Eng.nd (decide (Go.IntKind.u64.wrap (0 - Go.IntKind.u64.wrap (Go.IntKind.i64.wrap ↑(BitVec.ofInt Go.IntKind.i64.bits (Go.IntKind.i64.wrap (Go.IntKind.i64.wrap (a.fdiv (2 ^ min (Int.toNat 31) Go.IntKind.i32.bits)) * 2 ^ min (Int.toNat 32) Go.IntKind.i64.bits)) ||| BitVec.ofInt Go.IntKind.i64.bits (Go.IntKind.i64.wrap (Go.IntKind.u32.wrap a))).toNat)) = Go.IntKind.u64.wrap (0 - Go.IntKind.u64.wrap (Go.IntKind.i64.wrap ↑(BitVec.ofInt Go.IntKind.i64.bits (Go.IntKind.i64.wrap (Go.IntKind.i64.wrap (a.fdiv (2 ^ min (Int.toNat 31) Go.IntKind.i32.bits)) * 2 ^ min (Int.toNat 32) Go.IntKind.i64.bits)) ||| BitVec.ofInt Go.IntKind.i64.bits (Go.IntKind.i64.wrap (Go.IntKind.u32.wrap a))).toNat))))
 (Eng.nd (decide (2147483648 < Go.IntKind.u64.wrap ((Go.IntKind.u64.wrap (0 - Go.IntKind.u64.wrap (Go.IntKind.i64.wrap ↑(BitVec.ofInt Go.IntKind.i64.bits (Go.IntKind.i64.wrap (Go.IntKind.i64.wrap (a.fdiv (2 ^ min (Int.toNat 31) Go.IntKind.i32.bits)) * 2 ^ min (Int.toNat 32) Go.IntKind.i64.bits)) ||| BitVec.ofInt Go.IntKind.i64.bits (Go.IntKind.i64.wrap (Go.IntKind.u32.wrap a))).toNat))).tdiv (Go.IntKind.u64.wrap (0 - Go.IntKind.u64.wrap (Go.IntKind.i64.wrap b)))))) none
 (Eng.nd ((decide (Go.IntKind.i64.wrap ↑(BitVec.ofInt Go.IntKind.i64.bits (Go.IntKind.i64.wrap (Go.IntKind.i64.wrap (a.fdiv (2 ^ min (Int.toNat 31) Go.IntKind.i32.bits)) * 2 ^ min (Int.toNat 32) Go.IntKind.i64.bits)) ||| BitVec.ofInt Go.IntKind.i64.bits (Go.IntKind.i64.wrap (Go.IntKind.u32.wrap a))).toNat < 0) == decide (Go.IntKind.i64.wrap b < 0)) != true) none
 (Eng.nd (decide (Go.IntKind.i64.wrap ↑(BitVec.ofInt Go.IntKind.i64.bits (Go.IntKind.i64.wrap (Go.IntKind.i64.wrap (a.fdiv (2 ^ min (Int.toNat 31) Go.IntKind.i32.bits)) * 2 ^ min (Int.toNat 32) Go.IntKind.i64.bits)) ||| BitVec.ofInt Go.IntKind.i64.bits (Go.IntKind.i64.wrap (Go.IntKind.u32.wrap a))).toNat < 0))
 (Eng.nd (decide (2147483647 < Go.IntKind.i64.wrap (Go.IntKind.u64.wrap ((Go.IntKind.u64.wrap (0 - Go.IntKind.u64.wrap (Go.IntKind.i64.wrap ↑(BitVec.ofInt Go.IntKind.i64.bits (Go.IntKind.i64.wrap (Go.IntKind.i64.wrap (a.fdiv (2 ^ min (Int.toNat 31) Go.IntKind.i32.bits)) * 2 ^ min (Int.toNat 32) Go.IntKind.i64.bits)) ||| BitVec.ofInt Go.IntKind.i64.bits (Go.IntKind.i64.wrap (Go.IntKind.u32.wrap a))).toNat))).tdiv (Go.IntKind.u64.wrap (0 - Go.IntKind.u64.wrap (Go.IntKind.i64.wrap b)))))))
 (Eng.nd (decide (Go.IntKind.i64.wrap b = 0)) none
 (Eng.nd (decide (Go.IntKind.i64.wrap b = 0)) none
 (Eng.nd (decide (Go.IntKind.i64.wrap b = 0)) none
 (Eng.nd (decide (Go.IntKind.i64.wrap b = 0)) none
 (Eng.nd (decide (a = -2147483648))
 (Eng.nd (decide (b = -1)) (some (Eng.AV.bool true)) none) none))))) none) none))) none) none) none) none) none) none) none) none) none)))) none) none)) none) none) none) none) none) none) none) none) none) none) none))) none) none) none) none))) none) none) none) none))) none) none) none) none))) none) none) none))) none) none) none) none) none))) none) none) none) none) none))) none) none) none) none) none))) none) none) none) none) none) none) none) none) none))) none) none) none) none) none) none) none) none) none)
theorem run9 (a b : Int) : Eng.fcallOf (β := Eng.AV) Try.prog (Eng.fexec Try.prog 1000000) 4 [.sint .i32 a 91, .sint .i32 b 92] Eng.f5 Eng.b0 (fun v _ _ => some v) = tree9 a b := by kernel_rfl
def tree4 (a b : Int) : Option Eng.AV :=
 (Eng.nd (decide (Go.IntKind.i64.wrap b = Go.IntKind.i64.wrap b))
 (Eng.nd (decide (b = b))
 (Eng.nd (decide (Go.IntKind.i64.wrap a = Go.IntKind.i64.wrap a))
 (Eng.nd (decide (a = a))
 (Eng.nd (decide (Go.IntKind.i64.wrap b = Go.IntKind.i64.wrap b))
 (Eng.nd (decide (b = b))
 (Eng.nd (decide (Go.IntKind.i64.wrap (Go.IntKind.i64.wrap a + Go.IntKind.i64.wrap b) = Go.IntKind.i64.wrap (Go.IntKind.i64.wrap a + Go.IntKind.i64.wrap b)))
 (Eng.nd (decide (Go.IntKind.i64.wrap b = Go.IntKind.i64.wrap b))
 (Eng.nd (decide (Go.IntKind.i64.wrap a = Go.IntKind.i64.wrap a))
 (Eng.nd (!decide (Go.IntKind.i32.wrap (Go.IntKind.i64.wrap (Go.IntKind.i64.wrap a + Go.IntKind.i64.wrap b)) = Go.IntKind.i32.wrap (Go.IntKind.i64.wrap (Go.IntKind.i64.wrap a + Go.IntKind.i64.wrap b)))) none
 (Eng.nd (!decide (b = b)) none
 (Eng.nd (decide (Go.IntKind.i64.wrap b = Go.IntKind.i64.wrap b))
 (Eng.nd (decide (b = b))
 (Eng.nd (decide (Go.IntKind.i64.wrap a = Go.IntKind.i64.wrap a))
 (Eng.nd (decide (a = a))
 (Eng.nd (decide (Go.IntKind.i64.wrap b = Go.IntKind.i64.wrap b))
 (Eng.nd (decide (b = b))
 (Eng.nd (decide (Go.IntKind.i64.wrap (Go.IntKind.i64.wrap a - Go.IntKind.i64.wrap b) = Go.IntKind.i64.wrap (Go.IntKind.i64.wrap a - Go.IntKind.i64.wrap b)))
 (Eng.nd (decide (Go.IntKind.i64.wrap b = Go.IntKind.i64.wrap b))
 (Eng.nd (decide (Go.IntKind.i64.wrap a = Go.IntKind.i64.wrap a))
 (Eng.nd (!decide (Go.IntKind.i32.wrap (Go.IntKind.i64.wrap (Go.IntKind.i64.wrap a - Go.IntKind.i64.wrap b)) = Go.IntKind.i32.wrap (Go.IntKind.i64.wrap (Go.IntKind.i64.wrap a - Go.IntKind.i64.wrap b)))) none
 (Eng.nd (!decide (b = b)) none
 (Eng.nd (decide (b = b))
 (Eng.nd (decide (a = a))
 (Eng.nd (decide (b = b))
 (Eng.nd (decide (Go.IntKind.i64.wrap (Go.IntKind.i32.wrap ↑(BitVec.ofInt Go.IntKind.i32.bits a &&& BitVec.ofInt Go.IntKind.i32.bits b).toNat) = Go.IntKind.i64.wrap (Go.IntKind.i32.wrap ↑(BitVec.ofInt Go.IntKind.i32.bits a &&& BitVec.ofInt Go.IntKind.i32.bits b).toNat)))
 (Eng.nd (decide (Go.IntKind.i32.wrap ↑(BitVec.ofInt Go.IntKind.i32.bits a &&& BitVec.ofInt Go.IntKind.i32.bits b).toNat = Go.IntKind.i32.wrap ↑(BitVec.ofInt Go.IntKind.i32.bits a &&& BitVec.ofInt Go.IntKind.i32.bits b).toNat))
 (Eng.nd (!decide (Go.IntKind.i32.wrap (Go.IntKind.i64.wrap (Go.IntKind.i32.wrap ↑(BitVec.ofInt Go.IntKind.i32.bits a &&& BitVec.ofInt Go.IntKind.i32.bits b).toNat)) = Go.IntKind.i32.wrap ↑(BitVec.ofInt Go.IntKind.i32.bits a &&& BitVec.ofInt Go.IntKind.i32.bits b).toNat)) none
 (Eng.nd (!decide (b = b)) none
 (Eng.nd (decide (b = b))
 (Eng.nd (decide (a = a))
 (Eng.nd (decide (b = b))
 (Eng.nd (decide (Go.IntKind.i64.wrap (Go.IntKind.i32.wrap ↑(BitVec.ofInt Go.IntKind.i32.bits a ||| BitVec.ofInt Go.IntKind.i32.bits b).toNat) = Go.IntKind.i64.wrap (Go.IntKind.i32.wrap ↑(BitVec.ofInt Go.IntKind.i32.bits a ||| BitVec.ofInt Go.IntKind.i32.bits b).toNat)))
 (Eng.nd (decide (Go.IntKind.i32.wrap ↑(BitVec.ofInt Go.IntKind.i32.bits a ||| BitVec.ofInt Go.IntKind.i32.bits b).toNat = Go.IntKind.i32.wrap ↑(BitVec.ofInt Go.IntKind.i32.bits a ||| BitVec.ofInt Go.IntKind.i32.bits b).toNat))
 (Eng.nd (!decide (Go.IntKind.i32.wrap (Go.IntKind.i64.wrap (Go.IntKind.i32.wrap ↑(BitVec.ofInt Go.IntKind.i32.bits a ||| BitVec.ofInt Go.IntKind.i32.bits b).toNat)) = Go.IntKind.i32.wrap ↑(BitVec.ofInt Go.IntKind.i32.bits a ||| BitVec.ofInt Go.IntKind.i32.bits b).toNat)) none
 (Eng.nd (!decide (b = b)) none
 (Eng.nd (decide (b = b))
 (Eng.nd (decide (a = a))
 (Eng.nd (decide (b = b))
 (Eng.nd (decide (Go.IntKind.i64.wrap (Go.IntKind.i32.wrap ↑(BitVec.ofInt Go.IntKind.i32.bits a ^^^ BitVec.ofInt Go.IntKind.i32.bits b).toNat) = Go.IntKind.i64.wrap (Go.IntKind.i32.wrap ↑(BitVec.ofInt Go.IntKind.i32.bits a ^^^ BitVec.ofInt Go.IntKind.i32.bits b).toNat)))
 (Eng.nd (decide (Go.IntKind.i32.wrap ↑(BitVec.ofInt Go.IntKind.i32.bits a ^^^ BitVec.ofInt Go.IntKind.i32.bits b).toNat = Go.IntKind.i32.wrap ↑(BitVec.ofInt Go.IntKind.i32.bits a ^^^ BitVec.ofInt Go.IntKind.i32.bits b).toNat))
 (Eng.nd (!decide (Go.IntKind.i32.wrap (Go.IntKind.i64.wrap (Go.IntKind.i32.wrap ↑(BitVec.ofInt Go.IntKind.i32.bits a ^^^ BitVec.ofInt Go.IntKind.i32.bits b).toNat)) = Go.IntKind.i32.wrap ↑(BitVec.ofInt Go.IntKind.i32.bits a ^^^ BitVec.ofInt Go.IntKind.i32.bits b).toNat)) none
 (Eng.nd (!decide (b = b)) none
 (Eng.nd (decide (Go.IntKind.i32.wrap (a * b) = Go.IntKind.i32.wrap (a * b)))
 (Eng.nd (decide (b = b))
 (Eng.nd (decide (a = a))
 (Eng.nd (!decide (Go.IntKind.i32.wrap (a * b) = Go.IntKind.i32.wrap (Go.IntKind.i64.wrap (Go.IntKind.i64.wrap a * Go.IntKind.i64.wrap b)))) none
 (Eng.nd (!decide (b = b)) none
 (Eng.nd (decide (Go.IntKind.i32.wrap ↑(BitVec.ofInt Go.IntKind.i32.bits b &&& BitVec.ofInt Go.IntKind.i32.bits 31).toNat = Go.IntKind.i32.wrap ↑(BitVec.ofInt Go.IntKind.i32.bits b &&& BitVec.ofInt Go.IntKind.i32.bits 31).toNat))
 (Eng.nd (decide (b = b))
 (Eng.nd (decide (Go.IntKind.i32.wrap ↑(BitVec.ofInt Go.IntKind.i32.bits b &&& BitVec.ofInt Go.IntKind.i32.bits 31).toNat = Go.IntKind.i32.wrap ↑(BitVec.ofInt Go.IntKind.i32.bits b &&& BitVec.ofInt Go.IntKind.i32.bits 31).toNat))
 (Eng.nd (decide (b = b))
 (Eng.nd (decide (Go.IntKind.i32.wrap ↑(BitVec.ofInt Go.IntKind.i32.bits b &&& BitVec.ofInt Go.IntKind.i32.bits 31).toNat < 0)) none
 (Eng.nd (!decide (Go.IntKind.i32.wrap (a * 2 ^ min (Go.IntKind.i32.wrap ↑(BitVec.ofInt Go.IntKind.i32.bits b &&& BitVec.ofInt Go.IntKind.i32.bits 31).toNat).toNat Go.IntKind.i32.bits) = Go.IntKind.i32.wrap (Go.IntKind.i64.wrap (Go.IntKind.i64.wrap a * 2 ^ min (Go.IntKind.u64.wrap ↑(BitVec.ofInt Go.IntKind.u64.bits (Go.IntKind.u64.wrap b) &&& BitVec.ofInt Go.IntKind.u64.bits 31).toNat).toNat Go.IntKind.i64.bits)))) none
 (Eng.nd (decide (Go.IntKind.i32.wrap ↑(BitVec.ofInt Go.IntKind.i32.bits b &&& BitVec.ofInt Go.IntKind.i32.bits 31).toNat = Go.IntKind.i32.wrap ↑(BitVec.ofInt Go.IntKind.i32.bits b &&& BitVec.ofInt Go.IntKind.i32.bits 31).toNat))
 (Eng.nd (decide (b = b))
 (Eng.nd (decide (Go.IntKind.i32.wrap ↑(BitVec.ofInt Go.IntKind.i32.bits b &&& BitVec.ofInt Go.IntKind.i32.bits 31).toNat = Go.IntKind.i32.wrap ↑(BitVec.ofInt Go.IntKind.i32.bits b &&& BitVec.ofInt Go.IntKind.i32.bits 31).toNat))
 (Eng.nd (decide (b = b))
 (Eng.nd (decide (Go.IntKind.i32.wrap ↑(BitVec.ofInt Go.IntKind.i32.bits b &&& BitVec.ofInt Go.IntKind.i32.bits 31).toNat < 0)) none
 (Eng.nd (!decide (a.fdiv (2 ^ min (Go.IntKind.i32.wrap ↑(BitVec.ofInt Go.IntKind.i32.bits b &&& BitVec.ofInt Go.IntKind.i32.bits 31).toNat).toNat Go.IntKind.i32.bits) = Go.IntKind.i32.wrap ((Go.IntKind.i64.wrap a).fdiv (2 ^ min (Go.IntKind.u64.wrap ↑(BitVec.ofInt Go.IntKind.u64.bits (Go.IntKind.u64.wrap b) &&& BitVec.ofInt Go.IntKind.u64.bits 31).toNat).toNat Go.IntKind.i64.bits)))) none
 (Eng.nd (decide (Go.IntKind.i32.wrap ↑(BitVec.ofInt Go.IntKind.i32.bits b &&& BitVec.ofInt Go.IntKind.i32.bits 31).toNat = Go.IntKind.i32.wrap ↑(BitVec.ofInt Go.IntKind.i32.bits b &&& BitVec.ofInt Go.IntKind.i32.bits 31).toNat))
 (Eng.nd (decide (b = b))
 (Eng.nd (decide (Go.IntKind.i32.wrap ↑(BitVec.ofInt Go.IntKind.i32.bits b &&& BitVec.ofInt Go.IntKind.i32.bits 31).toNat = Go.IntKind.i32.wrap ↑(BitVec.ofInt Go.IntKind.i32.bits b &&& BitVec.ofInt Go.IntKind.i32.bits 31).toNat))
 (Eng.nd (decide (b = b))
 (Eng.nd (decide (Go.IntKind.i32.wrap ↑(BitVec.ofInt Go.IntKind.i32.bits b &&& BitVec.ofInt Go.IntKind.i32.bits 31).toNat < 0)) none
 (Eng.nd (!decide (Go.IntKind.i32.wrap ((Go.IntKind.u32.wrap a).fdiv (2 ^ min (Go.IntKind.i32.wrap ↑(BitVec.ofInt Go.IntKind.i32.bits b &&& BitVec.ofInt Go.IntKind.i32.bits 31).toNat).toNat Go.IntKind.u32.bits)) = Go.IntKind.i32.wrap ((Go.IntKind.i64.wrap ↑(BitVec.ofInt Go.IntKind.i64.bits (Go.IntKind.i64.wrap a) &&& BitVec.ofInt Go.IntKind.i64.bits 4294967295).toNat).fdiv (2 ^ min (Go.IntKind.u64.wrap ↑(BitVec.ofInt Go.IntKind.u64.bits (Go.IntKind.u64.wrap b) &&& BitVec.ofInt Go.IntKind.u64.bits 31).toNat).toNat Go.IntKind.i64.bits)))) none
 (Eng.nd (decide (a.fdiv (2 ^ min (Int.toNat 31) Go.IntKind.i32.bits) = a.fdiv (2 ^ min (Int.toNat 31) Go.IntKind.i32.bits)))
 (Eng.nd (decide (a = a))
 (Eng.nd (decide (Go.IntKind.i64.wrap ↑(BitVec.ofInt Go.IntKind.i64.bits (Go.IntKind.i64.wrap (Go.IntKind.i64.wrap (a.fdiv (2 ^ min (Int.toNat 31) Go.IntKind.i32.bits)) * 2 ^ min (Int.toNat 32) Go.IntKind.i64.bits)) ||| BitVec.ofInt Go.IntKind.i64.bits (Go.IntKind.i64.wrap (Go.IntKind.u32.wrap a))).toNat = Go.IntKind.i64.wrap ↑(BitVec.ofInt Go.IntKind.i64.bits (Go.IntKind.i64.wrap (Go.IntKind.i64.wrap (a.fdiv (2 ^ min (Int.toNat 31) Go.IntKind.i32.bits)) * 2 ^ min (Int.toNat 32) Go.IntKind.i64.bits)) ||| BitVec.ofInt Go.IntKind.i64.bits (Go.IntKind.i64.wrap (Go.IntKind.u32.wrap a))).toNat))
 (Eng.nd (decide (Go.IntKind.i64.wrap (Go.IntKind.u32.wrap a) = Go.IntKind.i64.wrap (Go.IntKind.u32.wrap a)))
 (Eng.nd (decide (Go.IntKind.u32.wrap a = Go.IntKind.u32.wrap a))
 (Eng.nd (decide (a = a))
 (Eng.nd (decide (Go.IntKind.i64.wrap (Go.IntKind.i64.wrap (a.fdiv (2 ^ min (Int.toNat 31) Go.IntKind.i32.bits)) * 2 ^ min (Int.toNat 32) Go.IntKind.i64.bits) = Go.IntKind.i64.wrap (Go.IntKind.i64.wrap (a.fdiv (2 ^ min (Int.toNat 31) Go.IntKind.i32.bits)) * 2 ^ min (Int.toNat 32) Go.IntKind.i64.bits)))
 (Eng.nd (decide (Go.IntKind.i64.wrap (a.fdiv (2 ^ min (Int.toNat 31) Go.IntKind.i32.bits)) = Go.IntKind.i64.wrap (a.fdiv (2 ^ min (Int.toNat 31) Go.IntKind.i32.bits))))
 (Eng.nd (decide (a.fdiv (2 ^ min (Int.toNat 31) Go.IntKind.i32.bits) = a.fdiv (2 ^ min (Int.toNat 31) Go.IntKind.i32.bits)))
 (Eng.nd (decide (Go.IntKind.i64.wrap b = Go.IntKind.i64.wrap b))
 (Eng.nd (decide (b = b))
 (Eng.nd (decide (Go.IntKind.i64.wrap b = 0))
 (Eng.nd (decide (Go.IntKind.i64.wrap b = 0))
 (Eng.nd (decide (Go.IntKind.i64.wrap b = 0)) (some (Eng.AV.bool true)) none) none) none) none) none) none) none) none) none) none) none) none) none) none))) none) none) none) none))) none) none) none) none))) none) none) none) none))) none) none) none))) none) none) none) none) none))) none) none) none) none) none))) none) none) none) none) none))) none) none) none) none) none) none) none) none) none))) none) none) none) none) none) none) none) none) none)
theorem run4 (a b : Int) : Eng.fcallOf (β := Eng.AV) Try.prog (Eng.fexec Try.prog 1000000) 4 [.sint .i32 a 41, .sint .i32 b 42] Eng.f5 Eng.b0 (fun v _ _ => some v) = tree4 a b := by kernel_rfl
end Go.Proofs.Ytpcocfdgcihpdaa.simReckons
