/-
  X86Numbers: rounds 20 to 30 of its outer loop, each checked by the kernel (the contract of both Encode's stands in).
-/
import Derived.Test.YtjcjalmkjncoaaaX86NumA
namespace Go.Proofs.Ytjcjalmkjncoaaa.x86enc.num
open Go
open Go.Proofs.Ytjcjalmkjncoaaa Go.Proofs.Ytjcjalmkjncoaaa.x86enc
set_option maxRecDepth 1000000

set_option maxHeartbeats 4000000 in
theorem n20 : Eng.Piece Try.prog 154 lb (S 20) .nrm (S 21) :=
  Eng.piece_quick (T := T) tab 1000000 (by decide) xb (by kernel_rfl) (by kernel_rfl)
set_option maxHeartbeats 4000000 in
theorem n21 : Eng.Piece Try.prog 154 lb (S 21) .nrm (S 22) :=
  Eng.piece_quick (T := T) tab 1000000 (by decide) xb (by kernel_rfl) (by kernel_rfl)
set_option maxHeartbeats 4000000 in
theorem n22 : Eng.Piece Try.prog 154 lb (S 22) .nrm (S 23) :=
  Eng.piece_quick (T := T) tab 1000000 (by decide) xb (by kernel_rfl) (by kernel_rfl)
set_option maxHeartbeats 4000000 in
theorem n23 : Eng.Piece Try.prog 154 lb (S 23) .nrm (S 24) :=
  Eng.piece_quick (T := T) tab 1000000 (by decide) xb (by kernel_rfl) (by kernel_rfl)
set_option maxHeartbeats 4000000 in
theorem n24 : Eng.Piece Try.prog 154 lb (S 24) .nrm (S 25) :=
  Eng.piece_quick (T := T) tab 1000000 (by decide) xb (by kernel_rfl) (by kernel_rfl)
set_option maxHeartbeats 4000000 in
theorem n25 : Eng.Piece Try.prog 154 lb (S 25) .nrm (S 26) :=
  Eng.piece_quick (T := T) tab 1000000 (by decide) xb (by kernel_rfl) (by kernel_rfl)
set_option maxHeartbeats 4000000 in
theorem n26 : Eng.Piece Try.prog 154 lb (S 26) .nrm (S 27) :=
  Eng.piece_quick (T := T) tab 1000000 (by decide) xb (by kernel_rfl) (by kernel_rfl)
set_option maxHeartbeats 4000000 in
theorem n27 : Eng.Piece Try.prog 154 lb (S 27) .nrm (S 28) :=
  Eng.piece_quick (T := T) tab 1000000 (by decide) xb (by kernel_rfl) (by kernel_rfl)
set_option maxHeartbeats 4000000 in
theorem n28 : Eng.Piece Try.prog 154 lb (S 28) .nrm (S 29) :=
  Eng.piece_quick (T := T) tab 1000000 (by decide) xb (by kernel_rfl) (by kernel_rfl)
set_option maxHeartbeats 4000000 in
theorem n29 : Eng.Piece Try.prog 154 lb (S 29) .nrm (S 30) :=
  Eng.piece_quick (T := T) tab 1000000 (by decide) xb (by kernel_rfl) (by kernel_rfl)
set_option maxHeartbeats 4000000 in
theorem n30 : Eng.Piece Try.prog 154 lb (S 30) .nrm (S 31) :=
  Eng.piece_quick (T := T) tab 1000000 (by decide) xb (by kernel_rfl) (by kernel_rfl)
end Go.Proofs.Ytjcjalmkjncoaaa.x86enc.num
