/-
  X86Numbers: rounds 0 to 9 of its outer loop, each checked by the kernel (the contract of both Encode's stands in).
-/
import Derived.Test.YtjcjalmkjncoaaaX86Tab
import Derived.Test.YtjcjalmkjncoaaaEngV
namespace Go.Proofs.Ytjcjalmkjncoaaa.x86enc.num
open Go
open Go.Proofs.Ytjcjalmkjncoaaa Go.Proofs.Ytjcjalmkjncoaaa.x86enc
set_option maxRecDepth 1000000
def cl : Code → Code
  | .seq a _ => a
  | c => c
def cr : Code → Code
  | .seq _ b => b
  | c => c
def cin : Code → Code
  | .block _ c => c
  | .loop c => c
  | c => c
noncomputable def bd : Code := (Try.f5.body).getD .skip
noncomputable def r0 : Code := cl bd
noncomputable def r1 : Code := cl (cl (cr bd))
noncomputable def lb : Code := cin (cin (cr (cl (cr bd))))
noncomputable def r2 : Code := cr (cr bd)
theorem bd_eq : Try.f5.body = some (.seq r0 (.seq (.seq r1 (.block 0 (.loop lb))) r2)) := by kernel_rfl
def xb : Eng.Bid := ⟨.d0, .d0, .d0, .d0, .d1⟩
def opI : Nat → Int
  | 0 => .negSucc 0
  | n + 1 => .ofNat n
def c0 : Eng.Ck := ⟨[], []⟩
def c1 : Eng.Ck := ⟨[(.ofNat 0, .bool false)], []⟩
def S (i : Nat) : Eng.Ck := ⟨[(.ofNat 0, .bool false), (.ofNat 1, .int .i64 (opI i))], []⟩
theorem p0 : Eng.Piece Try.prog 154 r0 c0 .nrm c1 :=
  Eng.piece_quick (T := T) tab 1000000 (by decide) xb (by kernel_rfl) (by kernel_rfl)
theorem p1 : Eng.Piece Try.prog 154 r1 c1 .nrm (S 0) :=
  Eng.piece_quick (T := T) tab 1000000 (by decide) xb (by kernel_rfl) (by kernel_rfl)
theorem pE : Eng.Piece Try.prog 154 lb (S 31) (.ext 0) c1 :=
  Eng.piece_quick (T := T) tab 1000000 (by decide) xb (by kernel_rfl) (by kernel_rfl)

set_option maxHeartbeats 4000000 in
theorem n0 : Eng.Piece Try.prog 154 lb (S 0) .nrm (S 1) :=
  Eng.piece_quick (T := T) tab 1000000 (by decide) xb (by kernel_rfl) (by kernel_rfl)
set_option maxHeartbeats 4000000 in
theorem n1 : Eng.Piece Try.prog 154 lb (S 1) .nrm (S 2) :=
  Eng.piece_quick (T := T) tab 1000000 (by decide) xb (by kernel_rfl) (by kernel_rfl)
set_option maxHeartbeats 4000000 in
theorem n2 : Eng.Piece Try.prog 154 lb (S 2) .nrm (S 3) :=
  Eng.piece_quick (T := T) tab 1000000 (by decide) xb (by kernel_rfl) (by kernel_rfl)
set_option maxHeartbeats 4000000 in
theorem n3 : Eng.Piece Try.prog 154 lb (S 3) .nrm (S 4) :=
  Eng.piece_quick (T := T) tab 1000000 (by decide) xb (by kernel_rfl) (by kernel_rfl)
set_option maxHeartbeats 4000000 in
theorem n4 : Eng.Piece Try.prog 154 lb (S 4) .nrm (S 5) :=
  Eng.piece_quick (T := T) tab 1000000 (by decide) xb (by kernel_rfl) (by kernel_rfl)
set_option maxHeartbeats 4000000 in
theorem n5 : Eng.Piece Try.prog 154 lb (S 5) .nrm (S 6) :=
  Eng.piece_quick (T := T) tab 1000000 (by decide) xb (by kernel_rfl) (by kernel_rfl)
set_option maxHeartbeats 4000000 in
theorem n6 : Eng.Piece Try.prog 154 lb (S 6) .nrm (S 7) :=
  Eng.piece_quick (T := T) tab 1000000 (by decide) xb (by kernel_rfl) (by kernel_rfl)
set_option maxHeartbeats 4000000 in
theorem n7 : Eng.Piece Try.prog 154 lb (S 7) .nrm (S 8) :=
  Eng.piece_quick (T := T) tab 1000000 (by decide) xb (by kernel_rfl) (by kernel_rfl)
set_option maxHeartbeats 4000000 in
theorem n8 : Eng.Piece Try.prog 154 lb (S 8) .nrm (S 9) :=
  Eng.piece_quick (T := T) tab 1000000 (by decide) xb (by kernel_rfl) (by kernel_rfl)
set_option maxHeartbeats 4000000 in
theorem n9 : Eng.Piece Try.prog 154 lb (S 9) .nrm (S 10) :=
  Eng.piece_quick (T := T) tab 1000000 (by decide) xb (by kernel_rfl) (by kernel_rfl)
end Go.Proofs.Ytjcjalmkjncoaaa.x86enc.num
