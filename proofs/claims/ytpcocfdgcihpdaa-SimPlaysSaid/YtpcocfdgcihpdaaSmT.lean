/-
  sim.Machine: with code or with none.
-/
import Derived.Test.YtpcocfdgcihpdaaSmRun
import Derived.Test.YtpcocfdgcihpdaaSmI
set_option maxHeartbeats 64000000
set_option maxRecDepth 1000000
set_option linter.unusedVariables false
set_option linter.unusedSimpArgs false
namespace Go.Proofs.Ytpcocfdgcihpdaa.rdw
open Go Go.RowKit Go.BigFrame
open Go.Proofs.Ytpcocfdgcihpdaa Go.Proofs.Ytpcocfdgcihpdaa.wr Go.Proofs.Ytpcocfdgcihpdaa.x86enc
theorem decoded_outE (g : Nat) (ca : Option Addr) (l cb : Nat) (rv wv : Value) (m : Mach) (op a b n : Int) (hat : m.at_ < 0 ∨ (l : Int) ≤ m.at_) (w : World)
    (h : SMem w g (.slice ca l cb) rv wv m op a b n) :
    Calls Try.prog 29 #[ptr g] w fun e w' => ∃ q, e = .returned (ptr q) ∧ w.heap.size ≤ q ∧ KMem w' q (.err 1) ∧ Only [] w w' := by
  have c0 := h.cell 0 rfl
  have c19 := h.cell 19 rfl
  obtain ⟨t, ht⟩ : ∃ t, m.at_ = t := ⟨_, rfl⟩
  rw [ht] at c19 hat
  have H := Lib.hid h; clear h
  have HT := Lib.hid ht; clear ht
  by_cases h1 : t < 0
  · have d1 : decide (t < 0) = true := decide_eq_true h1
    go_enter Try.func29, Try.ntmps29
    go_wp2_with fail
    go_quiet (fail)
    go_wp2_with fail
    go_ret
    exact ⟨_, rfl, by simp, look_new (by simp) rfl, ⟨rfl, rfl, rfl, by simp, fun c hc _ => Below.heap_alloc _ _ _ hc⟩⟩
  · have d1 : decide (t < 0) = false := decide_eq_false h1
    have d2 : decide ((l : Int) ≤ t) = true := decide_eq_true (by omega)
    go_enter Try.func29, Try.ntmps29
    go_wp2_with fail
    go_quiet (fail)
    go_wp2_with fail
    go_ret
    exact ⟨_, rfl, by simp, look_new (by simp) rfl, ⟨rfl, rfl, rfl, by simp, fun c hc _ => Below.heap_alloc _ _ _ hc⟩⟩
theorem step_outE (g : Nat) (ca : Option Addr) (l cb : Nat) (rv wv : Value) (m : Mach) (op a b n : Int) (hat : m.at_ < 0 ∨ (l : Int) ≤ m.at_) (hov : m.over = 0) (w : World)
    (h : SMem w g (.slice ca l cb) rv wv m op a b n) :
    Calls Try.prog 23 #[ptr g] w fun e w' => e = .returned (.int .i64 5) ∧ SMem w' g (.slice ca l cb) rv wv { m with over := 5 } op a b n ∧ Only [g] w w' := by
  have D := decoded_outE g ca l cb rv wv m op a b n hat w h
  have c20 := h.cell 20 rfl
  rw [hov] at c20
  have hgl := block_lt h.h
  have HD := Lib.hid D; clear D
  have HM := Lib.hid h; clear h
  go_enter Try.func23, Try.ntmps23
  go_wp2_with (first
    | (go_at_call 29; (with_reducible refine HD.out.mono ?_); rintro e w1 ⟨q, rfl, hq, hK, ho1⟩; have hm1 := HM.out.keep ho1 (by simp); have q5 : w1.cell? ⟨q, 5, none⟩ = some (.int .i64 1) := (by unfold KMem kc at hK; simp [World.cell?, hK]); have HM1 := Lib.hid hm1; clear hK hm1)
    | (go_at_call 30; (with_reducible refine (end30 g _ _ _ _ _ _ _ _ 5 _ HM1.out).mono ?_); rintro e w2 ⟨rfl, hm2, ho2⟩; have HM2 := Lib.hid hm2; clear hm2))
  go_ret
  exact ⟨rfl, HM2.out, (ho1.mono (by simp)).trans ho2⟩
structure SimE (w : World) (g gw : Nat) (m : Mach) : Prop where
  mem : ∃ ca cb rv op a b n, SMem w g (.slice ca 0 cb) rv (wsl gw m.W.length) m op a b n
  words : WMem w gw m.W
  dis : g ≠ gw
  regs : RegOk m
  wok : WOk m
  wl : m.W.length ≤ 1000
def SimQ (w : World) (g gr gw gb cb : Nat) (bs : List Int) (m : Mach) : Prop := SimA w g gr gw gb cb bs m ∨ (bs = [] ∧ SimE w g gw m)
theorem SimQ.facts {w : World} {g gr gw gb cb : Nat} {bs : List Int} {m : Mach} (h : SimQ w g gr gw gb cb bs m) : (∃ cv rv op a b n, SMem w g cv rv (wsl gw m.W.length) m op a b n) ∧ WMem w gw m.W ∧ g ≠ gw ∧ RegOk m ∧ WOk m ∧ m.W.length ≤ 1000 := by
  rcases h with h | ⟨_, h⟩
  · obtain ⟨op, a, b, n, hm⟩ := h.sim.mem
    exact ⟨⟨_, _, _, _, _, _, hm⟩, h.sim.words, h.sim.dis.2.1, h.sim.regs, h.wok, h.wl⟩
  · obtain ⟨ca, cb, rv, op, a, b, n, hm⟩ := h.mem
    exact ⟨⟨_, _, _, _, _, _, hm⟩, h.words, h.dis, h.regs, h.wok, h.wl⟩
theorem SimQ.keep {w w' : World} {g gr gw gb cb : Nat} {bs : List Int} {m : Mach} {S : List Nat} (h : SimQ w g gr gw gb cb bs m) (ho : Only S w w') (B : Nat) (hB : ∀ q ∈ S, B ≤ q) (hg : g < B ∧ gr < B ∧ gw < B ∧ gb < B) (hr : ∀ L, RMem w gr [g, gr, gw] bs L → RMem w' gr [g, gr, gw] bs L) : SimQ w' g gr gw gb cb bs m := by
  have n : ∀ x, x < B → x ∉ S := fun x hx hin => by have := hB x hin; omega
  rcases h with h | ⟨e, h⟩
  · obtain ⟨op, a, b, nn, hm⟩ := h.sim.mem
    obtain ⟨L, hL⟩ := h.sim.read
    exact .inl ⟨⟨⟨op, a, b, nn, hm.keep ho (n _ hg.1)⟩, ⟨L, hr L hL⟩, h.sim.row.keep ho (n _ hg.2.2.2), h.sim.words.keep ho (n _ hg.2.2.1), h.sim.dis, h.sim.cap, h.sim.byt, h.sim.regs⟩, h.wok, h.wl⟩
  · obtain ⟨ca, cb, rv, op, a, b, nn, hm⟩ := h.mem
    exact .inr ⟨e, ⟨⟨ca, cb, rv, op, a, b, nn, hm.keep ho (n _ hg.1)⟩, h.words.keep ho (n _ hg.2.2.1), h.dis, h.regs, h.wok, h.wl⟩⟩
theorem stepQ (g gr gw gb cb : Nat) (bs : List Int) (m : Mach) (w : World) (h : SimQ w g gr gw gb cb bs m) :
    Calls Try.prog 23 #[ptr g] w fun e w' => ∃ m' s, e = .returned (.int .i64 s) ∧ next bs m m' s ∧ SimQ w' g gr gw gb cb bs m' ∧ m'.W.length = m.W.length ∧ Only [g, gr, gw] w w' := by
  rcases h with h | ⟨rfl, h⟩
  · refine (stepA g gr gw gb cb bs m w h).mono fun e w' hh => ?_
    obtain ⟨m', s, h1, h2, h3, h4, h5⟩ := hh
    exact ⟨m', s, h1, h2, .inl h3, h4, h5⟩
  · obtain ⟨ca, cc, rv, op, a, b, n, hm⟩ := h.mem
    have hd : DecAt [] m.at_ (.err 1) := .inr ⟨by simp; omega, rfl⟩
    by_cases hov : m.over = 0
    · refine (step_outE g ca 0 cc rv _ m op a b n (by simp; omega) hov w hm).mono fun e w' hh => ?_
      obtain ⟨rfl, h1, h2⟩ := hh
      exact ⟨{ m with over := 5 }, 5, rfl, .inr ⟨hov, _, hd, rfl, rfl⟩, .inr ⟨rfl, ⟨⟨_, _, _, _, _, _, _, h1⟩, h.words.keep h2 (by simp; exact fun e => h.dis e.symm), h.dis, h.regs, h.wok, h.wl⟩⟩, rfl, h2.mono (by simp)⟩
    · refine (step_over g _ _ _ m op a b n hov w hm).mono fun e w' hh => ?_
      obtain ⟨rfl, rfl⟩ := hh
      exact ⟨m, m.over, rfl, .inl ⟨hov, rfl, rfl⟩, .inr ⟨rfl, h⟩, rfl, Only.refl _ _⟩
end Go.Proofs.Ytpcocfdgcihpdaa.rdw
