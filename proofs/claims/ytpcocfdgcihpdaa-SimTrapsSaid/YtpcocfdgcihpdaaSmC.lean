/-
  sim.Machine: what sums, what ends, what is asked and set.
-/
import Derived.Test.YtpcocfdgcihpdaaSmB
namespace Go.Proofs.Ytpcocfdgcihpdaa.rdw
open Go Go.RowKit Go.BigFrame
open Go.Proofs.Ytpcocfdgcihpdaa Go.Proofs.Ytpcocfdgcihpdaa.wr Go.Proofs.Ytpcocfdgcihpdaa.x86enc
set_option linter.unusedVariables false
set_option linter.unusedSimpArgs false
theorem w32_rng (v : Int) : I32 (IntKind.i32.wrap v) := by
  rw [IntKind.wrap_i32]; unfold I32; omega
def fl (m : Mach) (v : Int) : Mach := { m with Z := IntKind.i32.wrap v == 0, S := decide (IntKind.i32.wrap v < 0), O := v != IntKind.i32.wrap v }
set_option maxHeartbeats 1600000 in
set_option maxRecDepth 1000000 in
theorem flags52 (g : Nat) (cv rv wv : Value) (m : Mach) (op a b n v : Int) (w : World) (h : SMem w g cv rv wv m op a b n) :
    Calls Try.prog 52 #[ptr g, .int .i64 v] w fun e w' => e = .returned (.int .i32 (IntKind.i32.wrap v)) ∧ SMem w' g cv rv wv (fl m v) op a b n ∧ Only [g] w w' ∧ w'.heap.size = w.heap.size := by
  have c22 := h.cell 22 rfl
  have c23 := h.cell 23 rfl
  have c24 := h.cell 24 rfl
  have f22 := h.froz 22
  have f23 := h.froz 23
  have f24 := h.froz 24
  have H := Lib.hid h; clear h
  have hr := w32_rng v
  obtain ⟨x, hx⟩ : ∃ x, IntKind.i32.wrap v = x := ⟨_, rfl⟩
  have e1 : IntKind.i64.wrap x = x := by rw [← hx]; unfold I32 at hr; rw [IntKind.wrap_i64]; omega
  have hfl : fl m v = { m with Z := x == 0, S := decide (x < 0), O := v != x } := by unfold fl; rw [hx]
  rw [hfl, hx]
  have HX := Lib.hid hx
  clear hr hfl
  go_enter Try.func52, Try.ntmps52
  go_wp2_with fail
  go_ret
  refine ⟨rfl, ((H.out.set 22 (.bool (x == 0)) (m' := { m with Z := x == 0 }) rfl).set 23 (.bool (decide (x < 0))) (m' := { m with Z := x == 0, S := decide (x < 0) }) rfl).set 24 (.bool (v != x)) rfl, (((Only.refl _ _).set _ (by simp)).set _ (by simp)).set _ (by simp), by simp⟩
set_option maxHeartbeats 1600000 in
set_option maxRecDepth 1000000 in
theorem leave45_25 (g : Nat) (cv rv wv : Value) (m : Mach) (a b n : Int) (w : World) (h : SMem w g cv rv wv m 25 a b n) :
    Calls Try.prog 45 #[ptr g] w fun e w' => e = .returned (.int .i64 2) ∧ w' = w := by
  have c25 := h.cell 25 rfl
  have H := Lib.hid h; clear h
  go_enter Try.func45, Try.ntmps45
  go_wp2_with fail
  go_ret
  exact ⟨rfl, rfl⟩
set_option maxHeartbeats 1600000 in
set_option maxRecDepth 1000000 in
theorem leave45_26 (g : Nat) (cv rv wv : Value) (m : Mach) (a b n : Int) (hn : I32 n) (w : World) (h : SMem w g cv rv wv m 26 a b n) :
    Calls Try.prog 45 #[ptr g] w fun e w' => e = .returned (.int .i64 3) ∧ SMem w' g cv rv wv { m with N := n } 26 a b n ∧ Only [g] w w' := by
  have c25 := h.cell 25 rfl
  have c28 := h.cell 28 rfl
  have c21 := h.cell 21 rfl
  have f21 := h.froz 21
  have H := Lib.hid h; clear h
  have e1 : IntKind.i64.wrap n = n := by unfold I32 at hn; rw [IntKind.wrap_i64]; omega
  clear hn
  go_enter Try.func45, Try.ntmps45
  go_wp2_with fail
  go_ret
  exact ⟨rfl, H.out.set 21 _ rfl, (Only.refl _ _).set _ (by simp)⟩
def RegOk (m : Mach) : Prop := ∀ r, r < 16 → I32 (m.R r)
def isR (r : Nat) : Bool := RD.reg r
set_option maxHeartbeats 3200000 in
set_option maxRecDepth 1000000 in
theorem sum41_5 (g : Nat) (cv rv wv : Value) (m : Mach) (a b : Nat) (n : Int) (hR : RegOk m) (ha : a < 16) (hb : b < 16) (w : World) (h : SMem w g cv rv wv m 5 a b n) :
    Calls Try.prog 41 #[ptr g] w fun e w' => e = .returned (.int .i64 1) ∧ SMem w' g cv rv wv { fl m (m.R a + m.R b) with R := upd m.R a (IntKind.i32.wrap (m.R a + m.R b)) } 5 a b n ∧ Only [g] w w' := by
  have c25 := h.cell 25 rfl
  have c26 := h.cell 26 rfl
  have c27 := h.cell 27 rfl
  have ca := h.cell (2 + a) (mc_reg cv rv wv m 5 a b n ha)
  have cb := h.cell (2 + b) (mc_reg cv rv wv m 5 a b n hb)
  have H := Lib.hid h; clear h
  have ha' : (a : Int) < 16 := by omega
  have hb' : (b : Int) < 16 := by omega
  have ra := hR a ha
  have rb := hR b hb
  unfold I32 at ra rb
  have e1 : IntKind.i64.wrap (m.R a) = m.R a := by rw [IntKind.wrap_i64]; omega
  have e2 : IntKind.i64.wrap (m.R b) = m.R b := by rw [IntKind.wrap_i64]; omega
  have e3 : IntKind.i64.wrap (m.R a + m.R b) = m.R a + m.R b := by rw [IntKind.wrap_i64]; omega
  have HR := Lib.hid hR; clear hR ra rb
  go_enter Try.func41, Try.ntmps41
  go_wp2_with fail
  go_quiet (fail)
  go_wp2_with fail
  have H1 : Hid (SMem (w.drewN nq) g cv rv wv m 5 a b n) := Lib.hid ⟨H.out.h⟩
  have HO : Hid (Only [g] w (w.drewN nq)) := Lib.hid ⟨rfl, rfl, rfl, Nat.le_refl _, fun _ _ _ => rfl⟩
  have c26' : (w.drewN nq).cell? ⟨g, 26, none⟩ = some (.int .i64 (a : Int)) := c26
  clear c25 c26 c27 ca cb
  generalize w.drewN nq = w1 at *
  go_region_law (go_simp; go_at_call 52; refine (flags52 g cv rv wv m 5 a b n (m.R a + m.R b) _ (show SMem w1.drew g cv rv wv m 5 a b n from H1.out.drew)).mono ?_; rintro e w2 ⟨rfl, h2, ho2, hs2⟩; have ho3 : Only [g] w1 w2 := ⟨ho2.os, ho2.tape, ho2.output, ho2.size, ho2.same⟩; have c26'' := h2.cell 26 rfl; have ca'' := h2.cell (2 + a) (mc_reg cv rv wv _ 5 a b n ha); have fa'' := h2.froz (2 + a); have H2 := Lib.hid h2; clear h2)
  all_goals go_wp2
  all_goals go_ret
  all_goals exact ⟨rfl, H2.out.set (2 + a) _ (mc_setR cv rv wv (fl m (m.R a + m.R b)) 5 a b n ha _), (HO.out.trans ho3).set _ (by simp)⟩
theorem is28 (r : Nat) (h : r < 16) (w : World) : Calls Try.prog 28 #[.int .i64 (r : Int)] w fun e w' => e = .returned (.bool (RD.reg r)) ∧ w' = w := by
  rcases r16 h with e | e | e | e | e | e | e | e | e | e | e | e | e | e | e | e <;> subst e <;>
    (go_enter Try.func28, Try.ntmps28
     go_wp2_with fail
     go_ret
     exact ⟨rfl, rfl⟩)
set_option maxHeartbeats 1600000 in
set_option maxRecDepth 1000000 in
theorem reg16_0 (g : Nat) (cv rv wv : Value) (m : Mach) (op a b n : Int) (w : World) (h : SMem w g cv rv wv m op a b n) :
    Calls Try.prog 16 #[ptr g, .int .i64 0] w fun e w' => e = .returned (.int .i32 (m.R 0)) ∧ w' = w := by
  have c2 := h.cell 2 rfl
  have H := Lib.hid h; clear h
  go_enter Try.func16, Try.ntmps16
  go_wp2_with (go_at_call 28; refine (is28 0 (by omega) _).mono ?_; rintro e w1 ⟨rfl, rfl⟩)
  go_ret
  exact ⟨rfl, rfl⟩
set_option maxHeartbeats 1600000 in
set_option maxRecDepth 1000000 in
theorem codeN21 (g : Nat) (cv rv wv : Value) (m : Mach) (op a b n : Int) (w : World) (h : SMem w g cv rv wv m op a b n) :
    Calls Try.prog 21 #[ptr g] w fun e w' => e = .returned (.int .i64 m.N) ∧ w' = w := by
  have c21 := h.cell 21 rfl
  have H := Lib.hid h; clear h
  go_enter Try.func21, Try.ntmps21
  go_wp2_with fail
  go_ret
  exact ⟨rfl, rfl⟩
/-- the words -/
structure WMem (w : World) (gw : Nat) (W : List Int) : Prop where
  h : w.heap[gw]? = some (.cells (W.map (Value.int .i32)).toArray 21 (0, 0))
theorem WMem.cell {w : World} {gw : Nat} {W : List Int} (h : WMem w gw W) (i : Nat) (hi : i < W.length) : w.cell? ⟨gw, i, none⟩ = some (.int .i32 (W.getD i 0)) := by
  simp only [World.cell?, h.h]
  simp [List.getD, hi]
theorem WMem.froz {w : World} {gw : Nat} {W : List Int} (h : WMem w gw W) (i : Nat) : w.frozen? ⟨gw, i, none⟩ = false := by
  simp only [World.frozen?, h.h]; simp
theorem WMem.set {w : World} {gw : Nat} {W : List Int} (h : WMem w gw W) (i : Nat) (v : Int) : WMem (w.setCell ⟨gw, i, none⟩ (.int .i32 v)) gw (W.set i v) := by
  constructor
  rw [setCell_self, h.h]
  simp only [Option.map_some, setObj, List.setIfInBounds_toArray, List.map_set]
theorem WMem.keep {w w' : World} {gw : Nat} {W : List Int} {S : List Nat} (h : WMem w gw W) (ho : Only S w w') (hg : gw ∉ S) : WMem w' gw W := ⟨(ho.same gw (block_lt h.h) hg).trans h.h⟩
abbrev wsl (gw : Nat) (n : Nat) : Value := .slice (some ⟨gw, 0, none⟩) n n
set_option maxHeartbeats 1600000 in
set_option maxRecDepth 1000000 in
theorem setWord20 (g gw : Nat) (cv rv : Value) (m : Mach) (op a b n : Int) (i nw : Nat) (v : Int) (W : List Int) (hW : W.length = nw) (hi : i < nw) (hgg : gw ≠ g) (w : World) (h : SMem w g cv rv (wsl gw nw) m op a b n) (hw : WMem w gw W) :
    Calls Try.prog 20 #[ptr g, .int .i64 (i : Int), .int .i32 v] w fun e w' => e = .returned (.int .i64 0) ∧ SMem w' g cv rv (wsl gw nw) m op a b n ∧ WMem w' gw (W.set i v) ∧ Only [gw] w w' := by
  have c18 := h.cell 18 rfl
  have cw := hw.cell i (by omega)
  have fw := hw.froz i
  have H := Lib.hid h; clear h
  have HW := Lib.hid hw; clear hw
  go_enter Try.func20, Try.ntmps20
  go_wp2_with fail
  go_ret
  have ho : Only [gw] w (w.setCell ⟨gw, i, none⟩ (.int .i32 v)) := (Only.refl _ _).set _ (by simp)
  exact ⟨rfl, H.out.keep ho (by simp; exact fun e => hgg e.symm), HW.out.set i v, ho⟩
set_option maxHeartbeats 1600000 in
set_option maxRecDepth 1000000 in
theorem word22 (g gw : Nat) (cv rv : Value) (m : Mach) (op a b n : Int) (i nw : Nat) (W : List Int) (hW : W.length = nw) (hi : i < nw) (w : World) (h : SMem w g cv rv (wsl gw nw) m op a b n) (hw : WMem w gw W) :
    Calls Try.prog 22 #[ptr g, .int .i64 (i : Int)] w fun e w' => e = .returned (.tuple #[.int .i32 (W.getD i 0), .int .i64 0]) ∧ w' = w := by
  have c18 := h.cell 18 rfl
  have cw := hw.cell i (by omega)
  obtain ⟨u, hu⟩ : ∃ u, W.getD i 0 = u := ⟨_, rfl⟩
  rw [hu] at cw ⊢
  have HU := Lib.hid hu; clear hu
  have H := Lib.hid h; clear h
  have HW := Lib.hid hw; clear hw
  go_enter Try.func22, Try.ntmps22
  go_wp2_with fail
  go_ret2
  exact ⟨rfl, rfl⟩
end Go.Proofs.Ytpcocfdgcihpdaa.rdw
