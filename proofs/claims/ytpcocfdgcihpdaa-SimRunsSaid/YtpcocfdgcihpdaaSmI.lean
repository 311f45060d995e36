/-
  sim.Machine: registers and flags are asked and set.
-/
import Derived.Test.YtpcocfdgcihpdaaSmC
set_option maxHeartbeats 64000000
set_option maxRecDepth 1000000
set_option linter.unusedVariables false
set_option linter.unusedSimpArgs false
namespace Go.Proofs.Ytpcocfdgcihpdaa.rdw
open Go Go.RowKit Go.BigFrame
open Go.Proofs.Ytpcocfdgcihpdaa Go.Proofs.Ytpcocfdgcihpdaa.wr Go.Proofs.Ytpcocfdgcihpdaa.x86enc
set_option linter.unusedVariables false
set_option linter.unusedSimpArgs false
theorem setReg12 (g : Nat) (cv rv wv : Value) (m : Mach) (op a b n : Int) (r : Nat) (hr : r < 16) (v : Int) (w : World) (h : SMem w g cv rv wv m op a b n) :
    Calls Try.prog 12 #[ptr g, .int .i64 (r : Int), .int .i32 v] w fun e w' => e = .returned (.int .i64 (if RD.reg r = true then 0 else 1)) ∧ SMem w' g cv rv wv (if RD.reg r = true then { m with R := upd m.R r v } else m) op a b n ∧ Only [g] w w' := by
  have c2 := h.cell (2 + r) (mc_reg cv rv wv m op a b n hr)
  have f2 := h.froz (2 + r)
  have H := Lib.hid h; clear h
  have hr' : (r : Int) < 16 := by omega
  by_cases hx : RD.reg r = true
  · rw [if_pos hx, if_pos hx]
    go_enter Try.func12, Try.ntmps12
    go_wp2_with (go_at_call 28; with_reducible refine (is28 r hr _).mono ?_; rw [hx]; rintro e w1 ⟨rfl, rfl⟩)
    go_ret
    exact ⟨rfl, H.out.set (2 + r) _ (mc_setR cv rv wv m op a b n hr v), (Only.refl _ _).set _ (by simp)⟩
  · rw [if_neg hx, if_neg hx]
    have hx : RD.reg r = false := by simpa using hx
    go_enter Try.func12, Try.ntmps12
    go_wp2_with (go_at_call 28; with_reducible refine (is28 r hr _).mono ?_; rw [hx]; rintro e w1 ⟨rfl, rfl⟩)
    go_ret
    exact ⟨rfl, H.out, Only.refl _ _⟩
theorem at19 (g : Nat) (cv rv wv : Value) (m : Mach) (op a b n : Int) (w : World) (h : SMem w g cv rv wv m op a b n) :
    Calls Try.prog 19 #[ptr g] w fun e w' => e = .returned (.int .i64 m.at_) ∧ w' = w := by
  have c := h.cell 19 rfl
  have H := Lib.hid h; clear h
  go_enter Try.func19, Try.ntmps19
  go_wp2_with fail
  go_ret
  exact ⟨rfl, rfl⟩
end Go.Proofs.Ytpcocfdgcihpdaa.rdw
