/-
  sim.Machine.Run up to a trap, and to the return.
-/
import Derived.Test.YtpcocfdgcihpdaaSmF
import Derived.LoopN
namespace Go.Proofs.Ytpcocfdgcihpdaa.rdw
open Go Go.RowKit Go.BigFrame
open Go.Proofs.Ytpcocfdgcihpdaa Go.Proofs.Ytpcocfdgcihpdaa.wr Go.Proofs.Ytpcocfdgcihpdaa.x86enc
set_option linter.unusedVariables false
set_option linter.unusedSimpArgs false
theorem results13 : Try.f13.results = #[.tmp 4, .tmp 5] := by kernel_rfl
set_option maxHeartbeats 3200000 in
set_option maxRecDepth 1000000 in
theorem run13_ret (g gr gw gb cb k : Nat) (bs : List Int) (m : Mach) (l : Nat) (w : World) (h : SimW w g gr gw gb cb bs m) (hov : m.over = 0) (hk : m.at_ = (k : Int)) (hkl : k < bs.length)
    (r : RD.Reads (bs.drop k) (.ok 25 ((0 : Nat) : Int) ((0 : Nat) : Int) 0 l)) (hl : l ≤ 7) :
    Calls Try.prog 13 #[ptr g, .int .i64 50] w fun e w' => e = .returned (.tuple #[.int .i64 2, .int .i64 1]) ∧ ∃ m', SimW w' g gr gw gb cb bs m' ∧ m'.R = m.R ∧ m'.W = m.W ∧ Only [g, gr, gw] w w' := by
  have S := step23 g gr gw gb cb k bs m 25 0 0 0 l w h hov hk hkl r (by simp) (by omega) (by omega) (by unfold I32; omega) hl
  have HS := Lib.hid S; clear S h r
  go_enter Try.func13, Try.ntmps13
  go_wp2_with fail
  refine wp_loop_rounds 2 ?_
  rw [rounds_succ]
  go_wp2_with (go_at_call 23; refine HS.out.mono ?_; simp only [ex]; rintro e w1 ⟨rfl, h1, ho1⟩; have H1 := Lib.hid h1; clear h1)
  rw [rounds_succ]
  go_wp2_with fail
  go_ret2
  exact ⟨rfl, _, H1.out, rfl, rfl, ho1⟩
set_option maxHeartbeats 3200000 in
set_option maxRecDepth 1000000 in
theorem run13_trap (g gr gw gb cb k : Nat) (bs : List Int) (m : Mach) (n0 : Int) (i l0 l1 l2 : Nat) (w : World) (h : SimW w g gr gw gb cb bs m) (hov : m.over = 0) (hk : m.at_ = (k : Int)) (hkl : k + l0 + l1 < bs.length)
    (r0 : RD.Reads (bs.drop k) (.ok 1 ((3 : Nat) : Int) ((0 : Nat) : Int) n0 l0)) (r1 : RD.Reads (bs.drop (k + l0)) (.ok 5 ((0 : Nat) : Int) ((3 : Nat) : Int) 0 l1)) (r2 : RD.Reads (bs.drop (k + l0 + l1)) (.ok 26 ((0 : Nat) : Int) ((0 : Nat) : Int) (i : Int) l2))
    (hn : I32 n0) (hi : i < 256) (hl : l0 ≤ 7 ∧ l1 ≤ 7 ∧ l2 ≤ 7) :
    Calls Try.prog 13 #[ptr g, .int .i64 50] w fun e w' => e = .returned (.tuple #[.int .i64 3, .int .i64 3]) ∧ ∃ m', SimW w' g gr gw gb cb bs m' ∧ m'.over = 0 ∧ m'.at_ = ((k + l0 + l1 + l2 : Nat) : Int) ∧ m'.N = (i : Int) ∧ m'.R 0 = IntKind.i32.wrap (m.R 0 + n0) ∧ m'.W = m.W ∧ Only [g, gr, gw] w w' := by
  have S0 := step23 g gr gw gb cb k bs m 1 3 0 n0 l0 w h hov hk (by omega) r0 (by simp) (by omega) (by omega) hn hl.1
  have S1 := fun (w : World) (h : SimW w g gr gw gb cb bs (ex m 1 3 0 n0 l0).1) => step23 g gr gw gb cb (k + l0) bs (ex m 1 3 0 n0 l0).1 5 0 3 0 l1 w h hov (by show m.at_ + (l0 : Int) = _; rw [hk]; omega) (by omega) r1 (by simp) (by omega) (by omega) (by unfold I32; omega) hl.2.1
  have S2 := fun (w : World) (h : SimW w g gr gw gb cb bs (ex (ex m 1 3 0 n0 l0).1 5 0 3 0 l1).1) => step23 g gr gw gb cb (k + l0 + l1) bs (ex (ex m 1 3 0 n0 l0).1 5 0 3 0 l1).1 26 0 0 i l2 w h hov (by show m.at_ + (l0 : Int) + (l1 : Int) = _; rw [hk]; omega) (by omega) r2 (by simp) (by omega) (by omega) (by unfold I32; omega) hl.2.2
  have HS0 := Lib.hid S0; have HS1 := Lib.hid S1; have HS2 := Lib.hid S2; clear S0 S1 S2 h r0 r1 r2
  have e0 : (ex m 1 3 0 n0 l0).2 = 1 := rfl
  have e1 : (ex (ex m 1 3 0 n0 l0).1 5 0 3 0 l1).2 = 1 := rfl
  have e2 : (ex (ex (ex m 1 3 0 n0 l0).1 5 0 3 0 l1).1 26 0 0 i l2).2 = 3 := rfl
  rw [e0] at HS0
  have HE1 := Lib.hid e1; have HE2 := Lib.hid e2; clear e0 e1 e2
  go_enter Try.func13, Try.ntmps13
  go_wp2_with fail
  refine wp_loop_rounds 4 ?_
  rw [rounds_succ]
  go_wp2_with (go_at_call 23; refine HS0.out.mono ?_; rintro e w1 ⟨rfl, h1, ho1⟩; have H1 := Lib.hid h1; clear h1)
  rw [rounds_succ]
  go_wp2_with (go_at_call 23; refine (HS1.out _ H1.out).mono ?_; rw [HE1.out]; rintro e w2 ⟨rfl, h2, ho2⟩; have H2 := Lib.hid h2; clear h2)
  rw [rounds_succ]
  go_wp2_with (go_at_call 23; refine (HS2.out _ H2.out).mono ?_; rw [HE2.out]; rintro e w3 ⟨rfl, h3, ho3⟩; have H3 := Lib.hid h3; clear h3)
  rw [rounds_succ]
  go_wp2_with fail
  go_ret2
  refine ⟨rfl, _, H3.out, hov, ?_, rfl, ?_, rfl, (ho1.trans ho2).trans ho3⟩
  · show m.at_ + (l0 : Int) + (l1 : Int) + (l2 : Int) = _
    rw [hk]; omega
  · show upd (upd m.R 3 n0) 0 _ 0 = _
    simp [upd, ex]
end Go.Proofs.Ytpcocfdgcihpdaa.rdw
