/-
  sim.Machine: registers and flags are asked and set.
-/
import Derived.Test.YtpcocfdgcihpdaaSmC
set_option maxHeartbeats 64000000
set_option maxRecDepth 1000000
set_option linter.unusedVariables false
set_option linter.unusedSimpArgs false
namespace Go.Proofs.Ytpcocfdgcihpdaa.rdw
open Go Go.RowKit Go.BigFrame
open Go.Proofs.Ytpcocfdgcihpdaa Go.Proofs.Ytpcocfdgcihpdaa.wr Go.Proofs.Ytpcocfdgcihpdaa.x86enc
theorem reg16 (g : Nat) (cv rv wv : Value) (m : Mach) (op a b n : Int) (r : Nat) (hr : r < 16) (w : World) (h : SMem w g cv rv wv m op a b n) :
    Calls Try.prog 16 #[ptr g, .int .i64 (r : Int)] w fun e w' => e = .returned (.int .i32 (if RD.reg r = true then m.R r else 0)) ∧ w' = w := by
  have c2 := h.cell (2 + r) (mc_reg cv rv wv m op a b n hr)
  have H := Lib.hid h; clear h
  have hr' : (r : Int) < 16 := by omega
  by_cases hx : RD.reg r = true
  · rw [if_pos hx]
    have HX := Lib.hid hx
    go_enter Try.func16, Try.ntmps16
    go_wp2_with (go_at_call 28; with_reducible refine (is28 r hr _).mono ?_; rw [hx]; rintro e w1 ⟨rfl, rfl⟩)
    go_ret
    exact ⟨rfl, rfl⟩
  · rw [if_neg hx]
    have hx : RD.reg r = false := by simpa using hx
    go_enter Try.func16, Try.ntmps16
    go_wp2_with (go_at_call 28; with_reducible refine (is28 r hr _).mono ?_; rw [hx]; rintro e w1 ⟨rfl, rfl⟩)
    go_ret
    exact ⟨rfl, rfl⟩
theorem setReg12 (g : Nat) (cv rv wv : Value) (m : Mach) (op a b n : Int) (r : Nat) (hr : r < 16) (v : Int) (w : World) (h : SMem w g cv rv wv m op a b n) :
    Calls Try.prog 12 #[ptr g, .int .i64 (r : Int), .int .i32 v] w fun e w' => e = .returned (.int .i64 (if RD.reg r = true then 0 else 1)) ∧ SMem w' g cv rv wv (if RD.reg r = true then { m with R := upd m.R r v } else m) op a b n ∧ Only [g] w w' := by
  have c2 := h.cell (2 + r) (mc_reg cv rv wv m op a b n hr)
  have f2 := h.froz (2 + r)
  have H := Lib.hid h; clear h
  have hr' : (r : Int) < 16 := by omega
  by_cases hx : RD.reg r = true
  · rw [if_pos hx, if_pos hx]
    go_enter Try.func12, Try.ntmps12
    go_wp2_with (go_at_call 28; with_reducible refine (is28 r hr _).mono ?_; rw [hx]; rintro e w1 ⟨rfl, rfl⟩)
    go_ret
    exact ⟨rfl, H.out.set (2 + r) _ (mc_setR cv rv wv m op a b n hr v), (Only.refl _ _).set _ (by simp)⟩
  · rw [if_neg hx, if_neg hx]
    have hx : RD.reg r = false := by simpa using hx
    go_enter Try.func12, Try.ntmps12
    go_wp2_with (go_at_call 28; with_reducible refine (is28 r hr _).mono ?_; rw [hx]; rintro e w1 ⟨rfl, rfl⟩)
    go_ret
    exact ⟨rfl, H.out, Only.refl _ _⟩
theorem at19 (g : Nat) (cv rv wv : Value) (m : Mach) (op a b n : Int) (w : World) (h : SMem w g cv rv wv m op a b n) :
    Calls Try.prog 19 #[ptr g] w fun e w' => e = .returned (.int .i64 m.at_) ∧ w' = w := by
  have c := h.cell 19 rfl
  have H := Lib.hid h; clear h
  go_enter Try.func19, Try.ntmps19
  go_wp2_with fail
  go_ret
  exact ⟨rfl, rfl⟩
theorem results24 : Try.f24.results = #[.tmp 2, .tmp 3, .tmp 4] := by kernel_rfl
theorem flags24 (g : Nat) (cv rv wv : Value) (m : Mach) (op a b n : Int) (w : World) (h : SMem w g cv rv wv m op a b n) :
    Calls Try.prog 24 #[ptr g] w fun e w' => e = .returned (.tuple #[.bool m.Z, .bool m.S, .bool m.O]) ∧ ∃ j, w' = w.drewN j := by
  have c22 := h.cell 22 rfl
  have c23 := h.cell 23 rfl
  have c24 := h.cell 24 rfl
  have H := Lib.hid h; clear h
  go_enter Try.func24, Try.ntmps24
  go_wp2_with fail
  go_quiet (fail)
  go_wp2_with fail
  refine bodyPost_ret (v := .tuple #[.bool m.Z, .bool m.S, .bool m.O]) (by simp [results, results24, go_sem] <;> decide) rfl ⟨rfl, _, rfl⟩
theorem setWord20b (g gw : Nat) (cv rv : Value) (m : Mach) (op a b n : Int) (i nw : Nat) (v : Int) (W : List Int) (hW : W.length = nw) (hi : i < nw) (hgg : gw ≠ g) (w : World) (h : SMem w g cv rv (wsl gw nw) m op a b n) (hw : WMem w gw W) :
    Calls Try.prog 20 #[ptr g, .int .i64 (i : Int), .int .i32 v] w fun e w' => e = .returned (.int .i64 0) ∧ SMem w' g cv rv (wsl gw nw) m op a b n ∧ WMem w' gw (W.set i v) ∧ Only [gw] w w' := by
  have c18 := h.cell 18 rfl
  have cw := hw.cell i (by omega)
  have fw := hw.froz i
  have H := Lib.hid h; clear h
  have HW := Lib.hid hw; clear hw
  go_enter Try.func20, Try.ntmps20
  go_wp2_with fail
  go_ret
  have ho : Only [gw] w (w.setCell ⟨gw, i, none⟩ (.int .i32 v)) := (Only.refl _ _).set _ (by simp)
  exact ⟨rfl, H.out.keep ho (by simp; exact fun e => hgg e.symm), HW.out.set i v, ho⟩
theorem word22b (g gw : Nat) (cv rv : Value) (m : Mach) (op a b n : Int) (i nw : Nat) (W : List Int) (hW : W.length = nw) (hi : i < nw) (w : World) (h : SMem w g cv rv (wsl gw nw) m op a b n) (hw : WMem w gw W) :
    Calls Try.prog 22 #[ptr g, .int .i64 (i : Int)] w fun e w' => e = .returned (.tuple #[.int .i32 (W.getD i 0), .int .i64 0]) ∧ w' = w := by
  have c18 := h.cell 18 rfl
  have cw := hw.cell i (by omega)
  obtain ⟨u, hu⟩ : ∃ u, W.getD i 0 = u := ⟨_, rfl⟩
  rw [hu] at cw ⊢
  have HU := Lib.hid hu; clear hu
  have H := Lib.hid h; clear h
  have HW := Lib.hid hw; clear hw
  go_enter Try.func22, Try.ntmps22
  go_wp2_with fail
  go_ret2
  exact ⟨rfl, rfl⟩
end Go.Proofs.Ytpcocfdgcihpdaa.rdw
