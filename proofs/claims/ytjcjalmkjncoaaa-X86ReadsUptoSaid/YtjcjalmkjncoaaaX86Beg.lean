/-
  x86.begins OF THE BYTES 40 99: the loop over the operations, round by round, each round checked by the kernel (Encode's contract stands in).
-/
import Derived.Test.YtjcjalmkjncoaaaX86Tab
import Derived.Test.YtjcjalmkjncoaaaEngV
namespace Go.Proofs.Ytjcjalmkjncoaaa.x86enc
open Go
open Go.Proofs.Ytjcjalmkjncoaaa
set_option maxRecDepth 1000000
def cl : Code → Code
  | .seq a _ => a
  | c => c
def cr : Code → Code
  | .seq _ b => b
  | c => c
def cin : Code → Code
  | .block _ c => c
  | .loop c => c
  | c => c
noncomputable def bd : Code := (Try.f33.body).getD .skip
noncomputable def r0 : Code := cl bd
noncomputable def r1 : Code := cl (cl (cr bd))
noncomputable def lb : Code := cin (cin (cr (cl (cr bd))))
noncomputable def r22 : Code := cr (cr bd)
theorem bd_eq : Try.f33.body = some (.seq r0 (.seq (.seq r1 (.block 0 (.loop lb))) r22)) := by kernel_rfl
def a0 : Eng.P3 × Eng.AV := (.ofNat 0, .slice Eng.b0 0 2 (.ex 2))
def m0 : List (Eng.Bid × Eng.AObj) := [(Eng.b0, .cells [.int .u8 64, .int .u8 153])]
def xb : Eng.Bid := ⟨.d0, .d0, .d0, .d0, .d1⟩
def c0 : Eng.Ck := ⟨[a0], m0⟩
def c1 : Eng.Ck := ⟨[a0, (.ofNat 2, .bool false)], m0⟩
def S (i : Nat) : Eng.Ck := ⟨[a0, (.ofNat 2, .bool false), (.ofNat 3, .int .i64 (.ofNat (i + 1)))], m0⟩

set_option maxHeartbeats 4000000 in
theorem p0 : Eng.Piece Try.prog 77 r0 c0 .nrm c1 :=
  Eng.piece_quick (T := T) tab 100000 (by decide) xb (by kernel_rfl) (by kernel_rfl)
set_option maxHeartbeats 4000000 in
theorem p1 : Eng.Piece Try.prog 77 r1 c1 .nrm (S 0) :=
  Eng.piece_quick (T := T) tab 100000 (by decide) xb (by kernel_rfl) (by kernel_rfl)
set_option maxHeartbeats 4000000 in
theorem q0 : Eng.Piece Try.prog 77 lb (S 0) .nrm (S 1) :=
  Eng.piece_quick (T := T) tab 100000 (by decide) xb (by kernel_rfl) (by kernel_rfl)
set_option maxHeartbeats 4000000 in
theorem q1 : Eng.Piece Try.prog 77 lb (S 1) .nrm (S 2) :=
  Eng.piece_quick (T := T) tab 100000 (by decide) xb (by kernel_rfl) (by kernel_rfl)
set_option maxHeartbeats 4000000 in
theorem q2 : Eng.Piece Try.prog 77 lb (S 2) .nrm (S 3) :=
  Eng.piece_quick (T := T) tab 100000 (by decide) xb (by kernel_rfl) (by kernel_rfl)
set_option maxHeartbeats 4000000 in
theorem q3 : Eng.Piece Try.prog 77 lb (S 3) .nrm (S 4) :=
  Eng.piece_quick (T := T) tab 100000 (by decide) xb (by kernel_rfl) (by kernel_rfl)
set_option maxHeartbeats 4000000 in
theorem q4 : Eng.Piece Try.prog 77 lb (S 4) .nrm (S 5) :=
  Eng.piece_quick (T := T) tab 100000 (by decide) xb (by kernel_rfl) (by kernel_rfl)
set_option maxHeartbeats 4000000 in
theorem q5 : Eng.Piece Try.prog 77 lb (S 5) .nrm (S 6) :=
  Eng.piece_quick (T := T) tab 100000 (by decide) xb (by kernel_rfl) (by kernel_rfl)
set_option maxHeartbeats 4000000 in
theorem q6 : Eng.Piece Try.prog 77 lb (S 6) .nrm (S 7) :=
  Eng.piece_quick (T := T) tab 100000 (by decide) xb (by kernel_rfl) (by kernel_rfl)
set_option maxHeartbeats 4000000 in
theorem q7 : Eng.Piece Try.prog 77 lb (S 7) .nrm (S 8) :=
  Eng.piece_quick (T := T) tab 100000 (by decide) xb (by kernel_rfl) (by kernel_rfl)
set_option maxHeartbeats 4000000 in
theorem q8 : Eng.Piece Try.prog 77 lb (S 8) .nrm (S 9) :=
  Eng.piece_quick (T := T) tab 100000 (by decide) xb (by kernel_rfl) (by kernel_rfl)
set_option maxHeartbeats 4000000 in
theorem q9 : Eng.Piece Try.prog 77 lb (S 9) .nrm (S 10) :=
  Eng.piece_quick (T := T) tab 100000 (by decide) xb (by kernel_rfl) (by kernel_rfl)
set_option maxHeartbeats 4000000 in
theorem q10 : Eng.Piece Try.prog 77 lb (S 10) .nrm (S 11) :=
  Eng.piece_quick (T := T) tab 100000 (by decide) xb (by kernel_rfl) (by kernel_rfl)
set_option maxHeartbeats 4000000 in
theorem q11 : Eng.Piece Try.prog 77 lb (S 11) .nrm (S 12) :=
  Eng.piece_quick (T := T) tab 100000 (by decide) xb (by kernel_rfl) (by kernel_rfl)
set_option maxHeartbeats 4000000 in
theorem q12 : Eng.Piece Try.prog 77 lb (S 12) .nrm (S 13) :=
  Eng.piece_quick (T := T) tab 100000 (by decide) xb (by kernel_rfl) (by kernel_rfl)
set_option maxHeartbeats 4000000 in
theorem q13 : Eng.Piece Try.prog 77 lb (S 13) .nrm (S 14) :=
  Eng.piece_quick (T := T) tab 100000 (by decide) xb (by kernel_rfl) (by kernel_rfl)
set_option maxHeartbeats 4000000 in
theorem q14 : Eng.Piece Try.prog 77 lb (S 14) .nrm (S 15) :=
  Eng.piece_quick (T := T) tab 100000 (by decide) xb (by kernel_rfl) (by kernel_rfl)
set_option maxHeartbeats 4000000 in
theorem q15 : Eng.Piece Try.prog 77 lb (S 15) .nrm (S 16) :=
  Eng.piece_quick (T := T) tab 100000 (by decide) xb (by kernel_rfl) (by kernel_rfl)
set_option maxHeartbeats 4000000 in
theorem q16 : Eng.Piece Try.prog 77 lb (S 16) .nrm (S 17) :=
  Eng.piece_quick (T := T) tab 100000 (by decide) xb (by kernel_rfl) (by kernel_rfl)
set_option maxHeartbeats 4000000 in
theorem q17 : Eng.Piece Try.prog 77 lb (S 17) .nrm (S 18) :=
  Eng.piece_quick (T := T) tab 100000 (by decide) xb (by kernel_rfl) (by kernel_rfl)
set_option maxHeartbeats 4000000 in
theorem q18 : Eng.Piece Try.prog 77 lb (S 18) .nrm (S 19) :=
  Eng.piece_quick (T := T) tab 100000 (by decide) xb (by kernel_rfl) (by kernel_rfl)
set_option maxHeartbeats 4000000 in
theorem q19 : Eng.Piece Try.prog 77 lb (S 19) .nrm (S 20) :=
  Eng.piece_quick (T := T) tab 100000 (by decide) xb (by kernel_rfl) (by kernel_rfl)
set_option maxHeartbeats 4000000 in
theorem q20 : Eng.Piece Try.prog 77 lb (S 20) .nrm (S 21) :=
  Eng.piece_quick (T := T) tab 100000 (by decide) xb (by kernel_rfl) (by kernel_rfl)
set_option maxHeartbeats 4000000 in
theorem q21 : Eng.Piece Try.prog 77 lb (S 21) .nrm (S 22) :=
  Eng.piece_quick (T := T) tab 100000 (by decide) xb (by kernel_rfl) (by kernel_rfl)
set_option maxHeartbeats 4000000 in
theorem q22 : Eng.Piece Try.prog 77 lb (S 22) .nrm (S 23) :=
  Eng.piece_quick (T := T) tab 100000 (by decide) xb (by kernel_rfl) (by kernel_rfl)
set_option maxHeartbeats 4000000 in
theorem q23 : Eng.Piece Try.prog 77 lb (S 23) .nrm (S 24) :=
  Eng.piece_quick (T := T) tab 100000 (by decide) xb (by kernel_rfl) (by kernel_rfl)
set_option maxHeartbeats 4000000 in
theorem q24 : Eng.Piece Try.prog 77 lb (S 24) .nrm (S 25) :=
  Eng.piece_quick (T := T) tab 100000 (by decide) xb (by kernel_rfl) (by kernel_rfl)
set_option maxHeartbeats 4000000 in
theorem q25 : Eng.Piece Try.prog 77 lb (S 25) .nrm (S 26) :=
  Eng.piece_quick (T := T) tab 100000 (by decide) xb (by kernel_rfl) (by kernel_rfl)
set_option maxHeartbeats 4000000 in
theorem qE : Eng.Piece Try.prog 77 lb (S 26) (.ext 0) c1 :=
  Eng.piece_quick (T := T) tab 100000 (by decide) xb (by kernel_rfl) (by kernel_rfl)
set_option maxHeartbeats 4000000 in
theorem p22 : Eng.Piece Try.prog 77 r22 c1 .ret c1 :=
  Eng.piece_quick (T := T) tab 100000 (by decide) xb (by kernel_rfl) (by kernel_rfl)
theorem rounds : ∀ i, i < 26 → Eng.Piece Try.prog 77 lb (S i) .nrm (S (i + 1))
  | 0, _ => q0
  | 1, _ => q1
  | 2, _ => q2
  | 3, _ => q3
  | 4, _ => q4
  | 5, _ => q5
  | 6, _ => q6
  | 7, _ => q7
  | 8, _ => q8
  | 9, _ => q9
  | 10, _ => q10
  | 11, _ => q11
  | 12, _ => q12
  | 13, _ => q13
  | 14, _ => q14
  | 15, _ => q15
  | 16, _ => q16
  | 17, _ => q17
  | 18, _ => q18
  | 19, _ => q19
  | 20, _ => q20
  | 21, _ => q21
  | 22, _ => q22
  | 23, _ => q23
  | 24, _ => q24
  | 25, _ => q25
  | n + 26, h => absurd h (by omega)
theorem begins_piece : Eng.Piece Try.prog 77 (.seq r0 (.seq (.seq r1 (.block 0 (.loop lb))) r22)) c0 .ret c1 :=
  Eng.piece_seq p0 (Eng.piece_seq (Eng.piece_seq p1 (Eng.piece_block (Eng.piece_loop S 26 rounds qE))) p22)
end Go.Proofs.Ytjcjalmkjncoaaa.x86enc
