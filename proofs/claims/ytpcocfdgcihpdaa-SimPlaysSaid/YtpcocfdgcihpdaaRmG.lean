/-
  caraferef20.Machine.Step: over, or out of the code.
-/
import Derived.Test.YtpcocfdgcihpdaaRmF
import Derived.Test.YtpcocfdgcihpdaaSmRun
import Derived.Test.YtpcocfdgcihpdaaRefM
set_option maxHeartbeats 64000000
set_option maxRecDepth 1000000
set_option linter.unusedVariables false
set_option linter.unusedSimpArgs false
namespace Go.Proofs.Ytpcocfdgcihpdaa.rdw
open Go Go.RowKit Go.BigFrame
open Go.Proofs.Ytpcocfdgcihpdaa Go.Proofs.Ytpcocfdgcihpdaa.wr Go.Proofs.Ytpcocfdgcihpdaa.x86enc
set_option linter.unusedVariables false
set_option linter.unusedSimpArgs false
theorem step25_over (g : Nat) (cv wv kv : Value) (m : Mach) (l : Int) (hl : l = 2 ∨ l = 4 ∨ l = 5) (w : World) (h : NMem w g cv wv kv m l) :
    Calls Try.prog 25 #[ptr g] w fun e w' => e = .returned (.int .i64 l) ∧ w' = w := by
  have c23 := h.cell 23 rfl
  have H := Lib.hid h; clear h
  rcases hl with rfl | rfl | rfl <;>
    (go_enter Try.func25, Try.ntmps25
     go_wp2_with fail
     go_ret
     exact ⟨rfl, rfl⟩)
theorem step25_out (g : Nat) (ca : Option Addr) (n cb : Nat) (wv kv : Value) (m : Mach) (l : Int) (hl : ¬ (l = 2 ∨ l = 4 ∨ l = 5)) (hat : m.at_ < 0 ∨ (n : Int) ≤ m.at_) (w : World) (h : NMem w g (.slice ca n cb) wv kv m l) :
    Calls Try.prog 25 #[ptr g] w fun e w' => e = .returned (.int .i64 5) ∧ NMem w' g (.slice ca n cb) wv kv m 5 ∧ Only [g] w w' := by
  have c23 := h.cell 23 rfl
  have f23 := h.froz 23
  have c0 := h.cell 0 rfl
  have c18 := h.cell 18 rfl
  obtain ⟨t, ht⟩ : ∃ t, m.at_ = t := ⟨_, rfl⟩
  rw [ht] at c18 hat
  have H := Lib.hid h; clear h
  have HT := Lib.hid ht; clear ht
  have x1 : (l == 2) = false := by simp; exact fun e => hl (.inl e)
  have x2 : (l == 4) = false := by simp; exact fun e => hl (.inr (.inl e))
  have x3 : (l == 5) = false := by simp; exact fun e => hl (.inr (.inr e))
  by_cases h1 : t < 0
  · have d1 : decide (t < 0) = true := decide_eq_true h1
    go_enter Try.func25, Try.ntmps25
    go_wp2_with fail
    go_quiet (fail)
    go_wp2_with fail
    go_ret
    exact ⟨rfl, (show NMem (w.drewN nq) g _ _ _ m l from ⟨H.out.h⟩).set 23 _ rfl, (only_drewN _ _ _).set _ (by simp)⟩
  · have d1 : decide (t < 0) = false := decide_eq_false h1
    have d2 : decide ((n : Int) ≤ t) = true := decide_eq_true (by omega)
    go_enter Try.func25, Try.ntmps25
    go_wp2_with fail
    go_quiet (fail)
    go_wp2_with fail
    go_ret
    exact ⟨rfl, (show NMem (w.drewN nq) g _ _ _ m l from ⟨H.out.h⟩).set 23 _ rfl, (only_drewN _ _ _).set _ (by simp)⟩
structure Ent where
  done : Bool
  o : Int
  a : Int
  b : Int
  n : Int
  l : Int
def ecell (e : Ent) : List Value := [.bool e.done, .int .i64 e.o, .int .i64 e.a, .int .i64 e.b, .int .i32 e.n, .int .i64 e.l]
structure EMem (w : World) (gk : Nat) (bs : List Int) (c : Array Value) : Prop where
  h : w.heap[gk]? = some (.cells c 75 (0, 0))
  size : c.size = bs.length * 6
  each : ∀ p : Nat, p < bs.length → ∃ e : Ent, (∀ j u, (ecell e)[j]? = some u → c[p * 6 + j]? = some u) ∧ (e.done = true → ∃ op len : Nat, e.o = (op : Int) ∧ e.l = (len : Int) ∧ DecAt bs p (.ok op e.a e.b e.n len))
theorem EMem.keep {w w' : World} {gk : Nat} {bs : List Int} {c : Array Value} {S : List Nat} (h : EMem w gk bs c) (ho : Only S w w') (hg : gk ∉ S) : EMem w' gk bs c :=
  ⟨(ho.same gk (block_lt h.h) hg).trans h.h, h.size, h.each⟩
theorem EMem.start {w : World} {gk : Nat} {bs : List Int} (h : w.heap[gk]? = some (.cells (madeCells ez (bs.length * 6)) 75 (0, 0))) : EMem w gk bs (madeCells ez (bs.length * 6)) := by
  refine ⟨h, size_madeCells _ _, fun p hp => ⟨⟨false, 0, 0, 0, 0, 0⟩, fun j u hu => ?_, fun e => by cases e⟩⟩
  have hj : j < 6 := by
    have := (List.getElem?_eq_some_iff.1 hu).1
    simpa [ecell] using this
  have hlt : p * 6 + j < bs.length * 6 := by omega
  have e1 : (madeCells ez (bs.length * 6))[p * 6 + j]? = some (ez[(p * 6 + j) % 6]!) := by
    have hz : ez.size = 6 := rfl
    simp [madeCells, hlt, hz]
  have e2 : (p * 6 + j) % 6 = j := by omega
  rw [e1, e2]
  have : j = 0 ∨ j = 1 ∨ j = 2 ∨ j = 3 ∨ j = 4 ∨ j = 5 := by omega
  rcases this with rfl | rfl | rfl | rfl | rfl | rfl <;> simpa [ecell, ez] using hu
theorem EMem.cell {w : World} {gk : Nat} {bs : List Int} {c : Array Value} (h : EMem w gk bs c) {p j : Nat} {u : Value} (e : c[p * 6 + j]? = some u) : w.cell? ⟨gk, p * 6 + j, none⟩ = some u := by
  simp only [World.cell?, h.h]; simpa using e
theorem EMem.froz {w : World} {gk : Nat} {bs : List Int} {c : Array Value} (h : EMem w gk bs c) (p : Nat) : w.frozen? ⟨gk, p, none⟩ = false := by
  simp only [World.frozen?, h.h]; simp
structure RefW (w : World) (g gk gw gb cb : Nat) (bs : List Int) (m : Mach) (l : Int) : Prop where
  mem : NMem w g (csl gb bs.length cb) (wsl gw m.W.length) (csl gk bs.length bs.length) m l
  ent : ∃ c, EMem w gk bs c
  row : Row w gb 0 bs
  words : WMem w gw m.W
  dis : g ≠ gk ∧ g ≠ gw ∧ g ≠ gb ∧ gk ≠ gw ∧ gk ≠ gb ∧ gw ≠ gb
  cap : bs.length ≤ cb ∧ cb ≤ 9223372036854775807
  byt : RD.isBytes bs ∧ bs.length ≤ 100000
  regs : RegOk m
def LOk (m : Mach) (l : Int) : Prop := m.over = if l = 2 ∨ l = 4 ∨ l = 5 then l else 0
theorem exA_over (m : Mach) (op a b : Nat) (n : Int) (h1 : 1 ≤ op) (h2 : op ≤ 26) : (exA m op a b n).1.over = m.over := by
  rcases RD.op_cases op h1 h2 with e | e | e | e | e | e | e | e | e | e | e | e | e | e | e | e | e | e | e | e | e | e | e | e | e | e <;> subst e
  case inr.inr.inl => simp only [exA]; split <;> rfl
  case inr.inr.inr.inl => simp only [exA]; split <;> rfl
  case inr.inr.inr.inr.inr.inr.inr.inr.inr.inr.inr.inr.inr.inl => simp only [exA]; split <;> rfl
  all_goals rfl
theorem exA_s (m : Mach) (op a b : Nat) (n : Int) (h1 : 1 ≤ op) (h2 : op ≤ 26) : (exA m op a b n).2 = 1 ∨ (exA m op a b n).2 = 2 ∨ (exA m op a b n).2 = 3 ∨ (exA m op a b n).2 = 4 ∨ (exA m op a b n).2 = 5 := by
  obtain ⟨f, s, hf, hs, h⟩ := f_cases op h1 h2 m a b n
  rw [hs]; omega
def RPost (g gk gw gb cb : Nat) (bs : List Int) (m : Mach) (d : RD.Dec) (w : World) (e : Ending) (w' : World) : Prop :=
  e = .returned (.int .i64 (stepP m d).2) ∧ RefW w' g gk gw gb cb bs (stepP m d).1 (stepP m d).2 ∧ LOk (stepP m d).1 (stepP m d).2 ∧ WOk (stepP m d).1 ∧ (stepP m d).1.W.length = m.W.length ∧ Only [g, gk, gw] w w'
end Go.Proofs.Ytpcocfdgcihpdaa.rdw
