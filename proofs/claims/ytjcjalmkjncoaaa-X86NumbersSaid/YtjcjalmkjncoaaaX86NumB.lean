/-
  X86Numbers: rounds 10 to 19 of its outer loop, each checked by the kernel (the contract of both Encode's stands in).
-/
import Derived.Test.YtjcjalmkjncoaaaX86NumA
namespace Go.Proofs.Ytjcjalmkjncoaaa.x86enc.num
open Go
open Go.Proofs.Ytjcjalmkjncoaaa Go.Proofs.Ytjcjalmkjncoaaa.x86enc
set_option maxRecDepth 1000000

set_option maxHeartbeats 4000000 in
theorem n10 : Eng.Piece Try.prog 154 lb (S 10) .nrm (S 11) :=
  Eng.piece_quick (T := T) tab 1000000 (by decide) xb (by kernel_rfl) (by kernel_rfl)
set_option maxHeartbeats 4000000 in
theorem n11 : Eng.Piece Try.prog 154 lb (S 11) .nrm (S 12) :=
  Eng.piece_quick (T := T) tab 1000000 (by decide) xb (by kernel_rfl) (by kernel_rfl)
set_option maxHeartbeats 4000000 in
theorem n12 : Eng.Piece Try.prog 154 lb (S 12) .nrm (S 13) :=
  Eng.piece_quick (T := T) tab 1000000 (by decide) xb (by kernel_rfl) (by kernel_rfl)
set_option maxHeartbeats 4000000 in
theorem n13 : Eng.Piece Try.prog 154 lb (S 13) .nrm (S 14) :=
  Eng.piece_quick (T := T) tab 1000000 (by decide) xb (by kernel_rfl) (by kernel_rfl)
set_option maxHeartbeats 4000000 in
theorem n14 : Eng.Piece Try.prog 154 lb (S 14) .nrm (S 15) :=
  Eng.piece_quick (T := T) tab 1000000 (by decide) xb (by kernel_rfl) (by kernel_rfl)
set_option maxHeartbeats 4000000 in
theorem n15 : Eng.Piece Try.prog 154 lb (S 15) .nrm (S 16) :=
  Eng.piece_quick (T := T) tab 1000000 (by decide) xb (by kernel_rfl) (by kernel_rfl)
set_option maxHeartbeats 4000000 in
theorem n16 : Eng.Piece Try.prog 154 lb (S 16) .nrm (S 17) :=
  Eng.piece_quick (T := T) tab 1000000 (by decide) xb (by kernel_rfl) (by kernel_rfl)
set_option maxHeartbeats 4000000 in
theorem n17 : Eng.Piece Try.prog 154 lb (S 17) .nrm (S 18) :=
  Eng.piece_quick (T := T) tab 1000000 (by decide) xb (by kernel_rfl) (by kernel_rfl)
set_option maxHeartbeats 4000000 in
theorem n18 : Eng.Piece Try.prog 154 lb (S 18) .nrm (S 19) :=
  Eng.piece_quick (T := T) tab 1000000 (by decide) xb (by kernel_rfl) (by kernel_rfl)
set_option maxHeartbeats 4000000 in
theorem n19 : Eng.Piece Try.prog 154 lb (S 19) .nrm (S 20) :=
  Eng.piece_quick (T := T) tab 1000000 (by decide) xb (by kernel_rfl) (by kernel_rfl)
end Go.Proofs.Ytjcjalmkjncoaaa.x86enc.num
