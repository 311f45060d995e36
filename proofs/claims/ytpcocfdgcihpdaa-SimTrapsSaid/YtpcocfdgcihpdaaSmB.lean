/-
  A machine, plainly; how sim.Machine lies in memory.
-/
import Derived.Test.YtpcocfdgcihpdaaSmA
namespace Go.Proofs.Ytpcocfdgcihpdaa.rdw
open Go Go.RowKit Go.BigFrame
open Go.Proofs.Ytpcocfdgcihpdaa Go.Proofs.Ytpcocfdgcihpdaa.wr Go.Proofs.Ytpcocfdgcihpdaa.x86enc
set_option linter.unusedVariables false
set_option linter.unusedSimpArgs false
structure Mach where
  R : Nat → Int
  W : List Int
  at_ : Int
  Z : Bool
  S : Bool
  O : Bool
  N : Int
  over : Int
def upd (R : Nat → Int) (r : Nat) (v : Int) : Nat → Int := fun i => if i = r then v else R i
def mc (cv rv wv : Value) (m : Mach) (op a b n : Int) : List Value :=
  [cv, rv, .int .i32 (m.R 0), .int .i32 (m.R 1), .int .i32 (m.R 2), .int .i32 (m.R 3), .int .i32 (m.R 4), .int .i32 (m.R 5), .int .i32 (m.R 6), .int .i32 (m.R 7),
   .int .i32 (m.R 8), .int .i32 (m.R 9), .int .i32 (m.R 10), .int .i32 (m.R 11), .int .i32 (m.R 12), .int .i32 (m.R 13), .int .i32 (m.R 14), .int .i32 (m.R 15),
   wv, .int .i64 m.at_, .int .i64 m.over, .int .i64 m.N, .bool m.Z, .bool m.S, .bool m.O, .int .i64 op, .int .i64 a, .int .i64 b, .int .i32 n]
theorem r16 {r : Nat} (h : r < 16) : r = 0 ∨ r = 1 ∨ r = 2 ∨ r = 3 ∨ r = 4 ∨ r = 5 ∨ r = 6 ∨ r = 7 ∨ r = 8 ∨ r = 9 ∨ r = 10 ∨ r = 11 ∨ r = 12 ∨ r = 13 ∨ r = 14 ∨ r = 15 := by omega
theorem mc_reg (cv rv wv : Value) (m : Mach) (op a b n : Int) {r : Nat} (h : r < 16) : (mc cv rv wv m op a b n)[2 + r]? = some (.int .i32 (m.R r)) := by
  rcases r16 h with e | e | e | e | e | e | e | e | e | e | e | e | e | e | e | e <;> subst e <;> rfl
theorem mc_setR (cv rv wv : Value) (m : Mach) (op a b n : Int) {r : Nat} (h : r < 16) (v : Int) : (mc cv rv wv m op a b n).set (2 + r) (.int .i32 v) = mc cv rv wv { m with R := upd m.R r v } op a b n := by
  rcases r16 h with e | e | e | e | e | e | e | e | e | e | e | e | e | e | e | e <;> subst e <;> simp [mc, upd]
/-- the machine's own block -/
structure SMem (w : World) (g : Nat) (cv rv wv : Value) (m : Mach) (op a b n : Int) : Prop where
  h : w.heap[g]? = some (.cells (mc cv rv wv m op a b n).toArray 60 (0, 0))
theorem SMem.set {w : World} {g : Nat} {cv rv wv : Value} {m : Mach} {op a b n : Int} (h : SMem w g cv rv wv m op a b n) (j : Nat) (u : Value) {m' : Mach} {op' a' b' n' : Int} (e : (mc cv rv wv m op a b n).set j u = mc cv rv wv m' op' a' b' n') :
    SMem (w.setCell ⟨g, j, none⟩ u) g cv rv wv m' op' a' b' n' := by
  constructor
  rw [setCell_self, h.h]
  simp only [Option.map_some, setObj, List.setIfInBounds_toArray, e]
theorem SMem.drew {w : World} {g : Nat} {cv rv wv : Value} {m : Mach} {op a b n : Int} (h : SMem w g cv rv wv m op a b n) : SMem w.drew g cv rv wv m op a b n := ⟨h.h⟩
theorem SMem.cell {w : World} {g : Nat} {cv rv wv : Value} {m : Mach} {op a b n : Int} (h : SMem w g cv rv wv m op a b n) (j : Nat) {u : Value} (e : (mc cv rv wv m op a b n)[j]? = some u) : w.cell? ⟨g, j, none⟩ = some u := by
  simp only [World.cell?, h.h]; simpa using e
theorem SMem.froz {w : World} {g : Nat} {cv rv wv : Value} {m : Mach} {op a b n : Int} (h : SMem w g cv rv wv m op a b n) (j : Nat) : w.frozen? ⟨g, j, none⟩ = false := by
  simp only [World.frozen?, h.h]; simp
/-- only some blocks turn -/
structure Only (S : List Nat) (w w' : World) : Prop where
  os : w'.os = w.os
  tape : w'.tape = w.tape
  output : w'.output = w.output
  size : w.heap.size ≤ w'.heap.size
  same : ∀ c, c < w.heap.size → c ∉ S → w'.heap[c]? = w.heap[c]?
theorem Only.refl (S : List Nat) (w : World) : Only S w w := ⟨rfl, rfl, rfl, Nat.le_refl _, fun _ _ _ => rfl⟩
theorem Only.trans {S : List Nat} {w w1 w2 : World} (h : Only S w w1) (h' : Only S w1 w2) : Only S w w2 :=
  ⟨h'.os.trans h.os, h'.tape.trans h.tape, h'.output.trans h.output, Nat.le_trans h.size h'.size, fun c hc hs => (h'.same c (Nat.lt_of_lt_of_le hc h.size) hs).trans (h.same c hc hs)⟩
theorem Only.mono {S T : List Nat} {w w1 : World} (h : Only S w w1) (hS : ∀ c ∈ S, c ∈ T) : Only T w w1 := ⟨h.os, h.tape, h.output, h.size, fun c hc hn => h.same c hc fun hs => hn (hS c hs)⟩
theorem Only.drew {S : List Nat} {w w1 : World} (h : Only S w w1) : Only S w w1.drew := ⟨h.os, h.tape, h.output, h.size, h.same⟩
theorem Only.set {S : List Nat} {w w1 : World} (h : Only S w w1) {g j : Nat} (u : Value) (hg : g ∈ S) : Only S w (w1.setCell ⟨g, j, none⟩ u) := by
  have hb : Below g w1 (w1.setCell ⟨g, j, none⟩ u) := (Below.refl _ _).setCell (show g ≤ (⟨g, j, none⟩ : Addr).block from Nat.le_refl g) u
  refine ⟨by rw [hb.os]; exact h.os, by rw [hb.tape]; exact h.tape, by rw [hb.output]; exact h.output, Nat.le_trans h.size hb.size, fun c hc hn => ?_⟩
  rw [← h.same c hc hn]
  have hne : c ≠ g := fun e => hn (e ▸ hg)
  simp only [World.setCell, Array.getElem?_modify]
  rw [if_neg (fun e => hne e.symm)]
theorem Only.alloc {S : List Nat} {w w1 : World} (h : Only S w w1) (o : Obj) : Only S w (w1.alloc o) :=
  ⟨h.os, h.tape, h.output, by simp; have := h.size; omega, fun c hc hn => (Below.heap_alloc _ _ _ (Nat.lt_of_lt_of_le hc h.size)).trans (h.same c hc hn)⟩
theorem Only.below {S : List Nat} {w w1 : World} (h : Below w.heap.size w w1) : Only S w w1 := ⟨h.os, h.tape, h.output, h.size, fun c hc _ => h.block c hc⟩
theorem Only.below_of {S : List Nat} {w w1 : World} {B : Nat} (h : Only S w w1) (hS : ∀ c ∈ S, B ≤ c) (hB : B ≤ w.heap.size) : Below B w w1 := ⟨h.os, h.tape, h.output, h.size, fun c hc => h.same c (by omega) fun hs => by have := hS c hs; omega⟩
theorem SMem.keep {w w' : World} {g : Nat} {cv rv wv : Value} {m : Mach} {op a b n : Int} {S : List Nat} (h : SMem w g cv rv wv m op a b n) (ho : Only S w w') (hg : g ∉ S) : SMem w' g cv rv wv m op a b n :=
  ⟨(ho.same g (block_lt h.h) hg).trans h.h⟩
abbrev ptr (g : Nat) : Value := .pointer (some ⟨g, 0, none⟩)
set_option maxHeartbeats 1600000 in
set_option maxRecDepth 1000000 in
theorem end30 (g : Nat) (cv rv wv : Value) (m : Mach) (op a b n s : Int) (w : World) (h : SMem w g cv rv wv m op a b n) :
    Calls Try.prog 30 #[ptr g, .int .i64 s] w fun e w' => e = .returned (.int .i64 s) ∧ SMem w' g cv rv wv { m with over := s } op a b n ∧ Only [g] w w' := by
  have c20 := h.cell 20 rfl
  have f20 := h.froz 20
  have H := Lib.hid h; clear h
  go_enter Try.func30, Try.ntmps30
  go_wp2_with fail
  go_ret
  exact ⟨rfl, H.out.set 20 _ rfl, (Only.refl _ _).set _ (by simp)⟩
set_option maxHeartbeats 1600000 in
set_option maxRecDepth 1000000 in
theorem does31 (g : Nat) (cv rv wv : Value) (m : Mach) (op a b n : Int) (f : Nat) (w : World) (h : SMem w g cv rv wv m op a b n) (ho : (op = 1 ∧ f = 39) ∨ (op = 5 ∧ f = 41) ∨ (op = 25 ∧ f = 45) ∨ (op = 26 ∧ f = 45)) :
    Calls Try.prog 31 #[ptr g] w fun e w' => e = .returned (.func (.func f) #[] #[]) ∧ w' = w := by
  have c25 := h.cell 25 rfl
  have H := Lib.hid h; clear h
  rcases ho with ⟨rfl, rfl⟩ | ⟨rfl, rfl⟩ | ⟨rfl, rfl⟩ | ⟨rfl, rfl⟩ <;>
    (go_enter Try.func31, Try.ntmps31
     go_wp2_with fail
     go_ret
     exact ⟨rfl, rfl⟩)
set_option maxHeartbeats 1600000 in
set_option maxRecDepth 1000000 in
theorem move39 (g : Nat) (cv rv wv : Value) (m : Mach) (a : Nat) (b n : Int) (w : World) (ha : a < 16) (h : SMem w g cv rv wv m 1 a b n) :
    Calls Try.prog 39 #[ptr g] w fun e w' => e = .returned (.int .i64 1) ∧ SMem w' g cv rv wv { m with R := upd m.R a n } 1 a b n ∧ Only [g] w w' := by
  have c25 := h.cell 25 rfl
  have c26 := h.cell 26 rfl
  have c28 := h.cell 28 rfl
  have cr := h.cell (2 + a) (mc_reg cv rv wv m 1 a b n ha)
  have fr := h.froz (2 + a)
  have H := Lib.hid h; clear h
  have ha' : (a : Int) < 16 := by omega
  go_enter Try.func39, Try.ntmps39
  go_wp2_with fail
  go_still_tail 14, (by kernel_rfl)
  repeat (first | still_step | (refine wpStill_step (fun K hK => ?_); go_simp; go_bits; refine hK _ ?_; clear hK K))
  try refine wpStill_nil ?_
  change wpList _ _ _ _ _ w.drew
  have H1 := Lib.hid H.out.drew
  have cr1 : w.drew.cell? ⟨g, 2 + a, none⟩ = some (.int .i32 (m.R a)) := cr
  have fr1 : w.drew.frozen? ⟨g, 2 + a, none⟩ = false := fr
  have ho := Lib.hid ((Only.refl [g] w).drew)
  clear cr fr c25 c26 c28
  generalize w.drew = w1 at *
  go_wp2_with fail
  go_ret
  exact ⟨rfl, H1.out.set (2 + a) _ (mc_setR cv rv wv m 1 a b n ha n), ho.out.set _ (by simp)⟩
end Go.Proofs.Ytpcocfdgcihpdaa.rdw
