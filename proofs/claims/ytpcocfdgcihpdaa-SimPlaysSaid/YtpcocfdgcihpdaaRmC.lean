/-
  caraferef20: do, operation by operation
-/
import Derived.Test.YtpcocfdgcihpdaaRmJ
set_option maxHeartbeats 64000000
set_option maxRecDepth 1000000
set_option linter.unusedVariables false
set_option linter.unusedSimpArgs false
namespace Go.Proofs.Ytpcocfdgcihpdaa.rdw
open Go Go.RowKit Go.BigFrame
open Go.Proofs.Ytpcocfdgcihpdaa Go.Proofs.Ytpcocfdgcihpdaa.wr Go.Proofs.Ytpcocfdgcihpdaa.x86enc
set_option linter.unusedVariables false
set_option linter.unusedSimpArgs false
theorem do33_11 (g gw : Nat) (cv kv : Value) (m : Mach) (l : Int) (a b : Nat) (n : Int) (k : Ok33 g gw m a b n) (w : World) (h : NMem w g cv (wsl gw m.W.length) kv m l) (hw : WMem w gw m.W) : DoC g gw cv kv m l 11 11 a b n w := by
  obtain ⟨hR, ha, hb, hn, hat, hl, hgg⟩ := k
  have S := Lib.hid (St.start (op := 11) (a := a) (b := b) (n := n) h hw)
  clear h hw
  unfold DoC
  obtain ⟨ha', hb', e1, e2⟩ := ab_facts hR ha hb
  have HR := Lib.hid hR; clear hR
  have e3 : IntKind.i64.wrap (m.R a * m.R b) = m.R a * m.R b := by
    have := mul_rng (m.R a) (m.R b) (HR.out a ha) (HR.out b hb)
    rw [IntKind.wrap_i64]; omega
  have e4 : IntKind.i32.wrap (m.R a * m.R b) = wrap32 (m.R a * m.R b) := by rw [IntKind.wrap_i32]; unfold wrap32; rfl
  have J : Hid (∀ w9 : World, Calls Try.prog 49 #[ptr g, .int .i64 11] w9 fun e w' => e = .returned (.bool false) ∧ w' = w9) := Lib.hid fun w9 => jumps49_no 11 (by omega) (by omega) (by omega) g m w9
  go_enter Try.func33, Try.ntmps33
  go_upto_region 1 with fail
  generalize w.alloc (.cells #[.int .i64 11, .int .i64 (a : Int), .int .i64 (b : Int), .int .i32 n] 63) = w1 at *
  obtain ⟨B, hB⟩ : ∃ B, w.heap.size = B := ⟨_, rfl⟩
  rw [hB] at S ⊢
  clear hB
  obtain ⟨b0, b1, b2, b3, ca, cb, ck⟩ := S.out.cells ha hb
  go_quiet (fail)
  generalize nq = n1 at *
  go_wp2_with fail
  go_quiet (fail)
  generalize nq = n2 at *
  go_upto_region 31 with fail
  have T := Lib.hid (S.out.drewN (n1 + n2))
  clear b0 b1 b2 b3 ca cb ck S
  generalize w1.drewN (n1 + n2) = w2 at *
  obtain ⟨b0, b1, b2, b3, ca, cb, ck⟩ := T.out.cells ha hb
  have fa := T.out.h.froz (1 + a)
  go_region
  have HM3 := Lib.hid ((T.out.h.set (1 + a) (.int .i32 (wrap32 (m.R a * m.R b))) (nc_setR cv _ kv m l ha _)).drew)
  have HO3 := Lib.hid (((Only.refl [g] w2).set (g := g) (j := 1 + a) (.int .i32 (wrap32 (m.R a * m.R b))) (by simp)).drew)
  obtain ⟨c0, c1, c2, c3⟩ := (T.out.hB.keep HO3.out T.out.ng).cells
  clear b0 b1 b2 b3 ca fa
  generalize (w2.setCell ⟨g, 1 + a, none⟩ (.int .i32 (wrap32 (m.R a * m.R b)))).drew = w3 at *
  go_wp2_with (go_at_call 49; with_reducible refine (J.out _).mono ?_; rintro e w9 ⟨rfl, rfl⟩)
  go_ret
  exact T.out.fin hgg rfl HM3.out HO3.out
theorem do33_12 (g gw : Nat) (cv kv : Value) (m : Mach) (l : Int) (a b : Nat) (n : Int) (k : Ok33 g gw m a b n) (w : World) (h : NMem w g cv (wsl gw m.W.length) kv m l) (hw : WMem w gw m.W) : DoC g gw cv kv m l 12 12 a b n w := by
  obtain ⟨hR, ha, hb, hn, hat, hl, hgg⟩ := k
  have S := Lib.hid (St.start (op := 12) (a := a) (b := b) (n := n) h hw)
  clear h hw
  unfold DoC
  obtain ⟨ha', hb', e1, e2⟩ := ab_facts hR ha hb
  have HR := Lib.hid hR; clear hR
  have ra := HR.out a ha
  have rb := HR.out b hb
  unfold I32 at ra rb
  have e3 : IntKind.i64.wrap (-m.R a) = -m.R a := by rw [IntKind.wrap_i64]; omega
  clear ra rb
  have J : Hid (∀ w9 : World, Calls Try.prog 49 #[ptr g, .int .i64 12] w9 fun e w' => e = .returned (.bool false) ∧ w' = w9) := Lib.hid fun w9 => jumps49_no 12 (by omega) (by omega) (by omega) g m w9
  go_enter Try.func33, Try.ntmps33
  go_upto_region 1 with fail
  generalize w.alloc (.cells #[.int .i64 12, .int .i64 (a : Int), .int .i64 (b : Int), .int .i32 n] 63) = w1 at *
  obtain ⟨B, hB⟩ : ∃ B, w.heap.size = B := ⟨_, rfl⟩
  rw [hB] at S ⊢
  clear hB
  obtain ⟨b0, b1, b2, b3, ca, cb, ck⟩ := S.out.cells ha hb
  go_quiet (fail)
  generalize nq = n1 at *
  go_wp2_with fail
  go_quiet (fail)
  generalize nq = n2 at *
  go_upto_region 23 with fail
  have T := Lib.hid (S.out.drewN (n1 + n2))
  clear b0 b1 b2 b3 ca cb ck S
  generalize w1.drewN (n1 + n2) = w2 at *
  obtain ⟨b0, b1, b2, b3, ca, cb, ck⟩ := T.out.cells ha hb
  have fa := T.out.h.froz (1 + a)
  go_region_law (go_simp; go_at_call 48; (with_reducible refine (flags48 g cv _ kv m l (-m.R a) _ (T.out.h.drew)).mono ?_); rintro e w3 ⟨rfl, h3, ho3, hs3⟩; have ho4 : Only [g] w2 w3 := ⟨ho3.os, ho3.tape, ho3.output, ho3.size, ho3.same⟩; obtain ⟨d0, d1, d2, d3⟩ := (T.out.hB.keep ho4 T.out.ng).cells; have ca3 := h3.cell (1 + a) (nc_reg cv _ kv _ l ha); have fa3 := h3.froz (1 + a); have H3 := Lib.hid h3; have HO4 := Lib.hid ho4; clear h3 ho4 ho3)
  all_goals
    have HM5 := Lib.hid (H3.out.set (1 + a) (.int .i32 (IntKind.i32.wrap (-m.R a))) (nc_setR cv _ kv (fl m (-m.R a)) l ha _))
    have HO5 := Lib.hid (HO4.out.set (g := g) (j := 1 + a) (.int .i32 (IntKind.i32.wrap (-m.R a))) (by simp))
    obtain ⟨f0, f1, f2, f3⟩ := (T.out.hB.keep HO5.out T.out.ng).cells
    clear b0 b1 b2 b3 ca fa d0 d1 d2 d3 ca3 fa3
    generalize w3.setCell ⟨g, 1 + a, none⟩ (.int .i32 (IntKind.i32.wrap (-m.R a))) = w5 at *
    go_wp2_with (go_at_call 49; with_reducible refine (J.out _).mono ?_; rintro e w9 ⟨rfl, rfl⟩)
    go_ret
    exact T.out.fin hgg rfl HM5.out HO5.out
theorem do33_13 (g gw : Nat) (cv kv : Value) (m : Mach) (l : Int) (a b : Nat) (n : Int) (k : Ok33 g gw m a b n) (w : World) (h : NMem w g cv (wsl gw m.W.length) kv m l) (hw : WMem w gw m.W) : DoC g gw cv kv m l 13 13 a b n w := by
  obtain ⟨hR, ha, hb, hn, hat, hl, hgg⟩ := k
  have S := Lib.hid (St.start (op := 13) (a := a) (b := b) (n := n) h hw)
  clear h hw
  unfold DoC
  obtain ⟨ha', hb', e1, e2⟩ := ab_facts hR ha hb
  have HR := Lib.hid hR; clear hR
  have J : Hid (∀ w9 : World, Calls Try.prog 49 #[ptr g, .int .i64 13] w9 fun e w' => e = .returned (.bool false) ∧ w' = w9) := Lib.hid fun w9 => jumps49_no 13 (by omega) (by omega) (by omega) g m w9
  go_enter Try.func33, Try.ntmps33
  go_upto_region 1 with fail
  generalize w.alloc (.cells #[.int .i64 13, .int .i64 (a : Int), .int .i64 (b : Int), .int .i32 n] 63) = w1 at *
  obtain ⟨B, hB⟩ : ∃ B, w.heap.size = B := ⟨_, rfl⟩
  rw [hB] at S ⊢
  clear hB
  obtain ⟨b0, b1, b2, b3, ca, cb, ck⟩ := S.out.cells ha hb
  go_quiet (fail)
  generalize nq = n1 at *
  go_wp2_with fail
  go_quiet (fail)
  generalize nq = n2 at *
  go_upto_region 33 with fail
  have T := Lib.hid (S.out.drewN (n1 + n2))
  clear b0 b1 b2 b3 ca cb ck S
  generalize w1.drewN (n1 + n2) = w2 at *
  obtain ⟨b0, b1, b2, b3, ca, cb, ck⟩ := T.out.cells ha hb
  have fa := T.out.h.froz (1 + a)
  have c00 := T.out.h.cell 1 rfl
  have c02 := T.out.h.cell 3 rfl
  have f00 := T.out.h.froz 3
  go_region
  have HM3 := Lib.hid ((T.out.h.set (1 + 2) (.int .i32 (m.R 0 / 2147483648)) (nc_setR cv _ kv m l (by omega) _)).drew)
  have HO3 := Lib.hid (((Only.refl [g] w2).set (g := g) (j := 1 + 2) (.int .i32 (m.R 0 / 2147483648)) (by simp)).drew)
  obtain ⟨c0, c1, c2, c3⟩ := (T.out.hB.keep HO3.out T.out.ng).cells
  clear b0 b1 b2 b3 c00 f00
  generalize (w2.setCell ⟨g, 1 + 2, none⟩ (.int .i32 (m.R 0 / 2147483648))).drew = w3 at *
  go_wp2_with (go_at_call 49; with_reducible refine (J.out _).mono ?_; rintro e w9 ⟨rfl, rfl⟩)
  go_ret
  exact T.out.fin hgg rfl HM3.out HO3.out
theorem do33_14z (g gw : Nat) (cv kv : Value) (m : Mach) (l : Int) (a b : Nat) (n : Int) (k : Ok33 g gw m a b n) (hd0 : m.R a = 0) (w : World) (h : NMem w g cv (wsl gw m.W.length) kv m l) (hw : WMem w gw m.W) : DoC g gw cv kv m l 14 14 a b n w := by
  obtain ⟨hR, ha, hb, hn, hat, hl, hgg⟩ := k
  have S := Lib.hid (St.start (op := 14) (a := a) (b := b) (n := n) h hw)
  clear h hw
  unfold DoC
  obtain ⟨ha', hb', e1, e2⟩ := ab_facts hR ha hb
  have HR := Lib.hid hR; clear hR
  have r0 := HR.out 0 (by omega)
  have r2 := HR.out 2 (by omega)
  have rA := HR.out a ha
  unfold I32 at r0 r2 rA
  obtain ⟨N, hN⟩ : ∃ N, num m = N := ⟨_, rfl⟩
  obtain ⟨D, hD⟩ : ∃ D, m.R a = D := ⟨_, rfl⟩
  have ho := or_hi (m.R 2) (m.R 0 % 4294967296) r2.1 r2.2 (by omega) (by omega)
  rw [show m.R 2 * 4294967296 + m.R 0 % 4294967296 = N from hN] at ho
  have hNr : -9223372036854775808 ≤ N ∧ N ≤ 9223372036854775807 := by rw [← hN]; unfold num; omega
  rw [hD] at e1 rA
  have hdd : D = 0 := by rw [← hD]; exact hd0
  have y2 : IntKind.i64.wrap (m.R 2 * 4294967296) = m.R 2 * 4294967296 := by rw [IntKind.wrap_i64]; omega
  have y1 : IntKind.i64.wrap (m.R 2) = m.R 2 := by rw [IntKind.wrap_i64]; omega
  have y3 : IntKind.u32.wrap (m.R 0) = m.R 0 % 4294967296 := by rw [IntKind.wrap_u32]
  have y4 : IntKind.i64.wrap (m.R 0 % 4294967296) = m.R 0 % 4294967296 := by rw [IntKind.wrap_i64]; omega
  have z1 : (D == 0) = true := by simp [hdd]
  have hdv : dvn (num m) (m.R a) = none := by rw [hN, hD]; unfold dvn; rw [if_pos hdd]
  have hx : exA m 14 a b n = (m, 4) := by simp only [exA, hdv]
  rw [hx]
  have HX := Lib.hid hx; clear hx
  have HN := Lib.hid hN; have HD := Lib.hid hD; clear hN hD
  clear hdv hdd hd0 r0 r2 rA hNr
  have J : Hid (∀ w9 : World, Calls Try.prog 49 #[ptr g, .int .i64 14] w9 fun e w' => e = .returned (.bool false) ∧ w' = w9) := Lib.hid fun w9 => jumps49_no 14 (by omega) (by omega) (by omega) g m w9
  go_enter Try.func33, Try.ntmps33
  go_upto_region 1 with fail
  generalize w.alloc (.cells #[.int .i64 14, .int .i64 (a : Int), .int .i64 (b : Int), .int .i32 n] 63) = w1 at *
  obtain ⟨B, hB⟩ : ∃ B, w.heap.size = B := ⟨_, rfl⟩
  rw [hB] at S ⊢
  clear hB
  obtain ⟨b0, b1, b2, b3, ca, cb, ck⟩ := S.out.cells ha hb
  rw [HD.out] at ca
  go_quiet (fail)
  generalize nq = n1 at *
  go_wp2_with fail
  go_quiet (fail)
  generalize nq = n2 at *
  go_upto_region 35 with fail
  have T := Lib.hid (S.out.drewN (n1 + n2))
  clear b0 b1 b2 b3 ca cb ck S
  generalize w1.drewN (n1 + n2) = w2 at *
  obtain ⟨b0, b1, b2, b3, ca, cb, ck⟩ := T.out.cells ha hb
  rw [HD.out] at ca
  have fa := T.out.h.froz (1 + a)
  have c00 := T.out.h.cell 1 rfl
  have c02 := T.out.h.cell 3 rfl
  have f00 := T.out.h.froz 1
  have f02 := T.out.h.froz 3
  go_quiet (fail)
  generalize nq = n3 at *
  go_wp2_with fail
  go_ret
  exact T.out.fin hgg rfl (⟨T.out.h.h⟩ : NMem (w2.drewN _) g cv (wsl gw m.W.length) kv m l) (only_drewN _ _ _)
theorem do33_14m (g gw : Nat) (cv kv : Value) (m : Mach) (l : Int) (a b : Nat) (n : Int) (k : Ok33 g gw m a b n) (hdd : num m = -9223372036854775808 ∧ m.R a = -1) (w : World) (h : NMem w g cv (wsl gw m.W.length) kv m l) (hw : WMem w gw m.W) : DoC g gw cv kv m l 14 14 a b n w := by
  obtain ⟨hR, ha, hb, hn, hat, hl, hgg⟩ := k
  have S := Lib.hid (St.start (op := 14) (a := a) (b := b) (n := n) h hw)
  clear h hw
  unfold DoC
  obtain ⟨ha', hb', e1, e2⟩ := ab_facts hR ha hb
  have HR := Lib.hid hR; clear hR
  have r0 := HR.out 0 (by omega)
  have r2 := HR.out 2 (by omega)
  have rA := HR.out a ha
  unfold I32 at r0 r2 rA
  obtain ⟨N, hN⟩ : ∃ N, num m = N := ⟨_, rfl⟩
  obtain ⟨D, hD⟩ : ∃ D, m.R a = D := ⟨_, rfl⟩
  have ho := or_hi (m.R 2) (m.R 0 % 4294967296) r2.1 r2.2 (by omega) (by omega)
  rw [show m.R 2 * 4294967296 + m.R 0 % 4294967296 = N from hN] at ho
  have hNr : -9223372036854775808 ≤ N ∧ N ≤ 9223372036854775807 := by rw [← hN]; unfold num; omega
  rw [hD] at e1 rA
  rw [hN, hD] at hdd
  have y2 : IntKind.i64.wrap (m.R 2 * 4294967296) = m.R 2 * 4294967296 := by rw [IntKind.wrap_i64]; omega
  have y1 : IntKind.i64.wrap (m.R 2) = m.R 2 := by rw [IntKind.wrap_i64]; omega
  have y3 : IntKind.u32.wrap (m.R 0) = m.R 0 % 4294967296 := by rw [IntKind.wrap_u32]
  have y4 : IntKind.i64.wrap (m.R 0 % 4294967296) = m.R 0 % 4294967296 := by rw [IntKind.wrap_i64]; omega
  have z1 : (D == 0) = false := by simp [hdd.2]
  have z2 : (N == -9223372036854775808) = true := by simp [hdd.1]
  have z3 : (D == -1) = true := by simp [hdd.2]
  have hdv : dvn (num m) (m.R a) = none := by rw [hN, hD]; unfold dvn; rw [hdd.1, hdd.2]; decide
  have hx : exA m 14 a b n = (m, 4) := by simp only [exA, hdv]
  rw [hx]
  have HX := Lib.hid hx; clear hx
  have HN := Lib.hid hN; have HD := Lib.hid hD; clear hN hD
  clear hdv hdd r0 r2 rA hNr
  have J : Hid (∀ w9 : World, Calls Try.prog 49 #[ptr g, .int .i64 14] w9 fun e w' => e = .returned (.bool false) ∧ w' = w9) := Lib.hid fun w9 => jumps49_no 14 (by omega) (by omega) (by omega) g m w9
  go_enter Try.func33, Try.ntmps33
  go_upto_region 1 with fail
  generalize w.alloc (.cells #[.int .i64 14, .int .i64 (a : Int), .int .i64 (b : Int), .int .i32 n] 63) = w1 at *
  obtain ⟨B, hB⟩ : ∃ B, w.heap.size = B := ⟨_, rfl⟩
  rw [hB] at S ⊢
  clear hB
  obtain ⟨b0, b1, b2, b3, ca, cb, ck⟩ := S.out.cells ha hb
  rw [HD.out] at ca
  go_quiet (fail)
  generalize nq = n1 at *
  go_wp2_with fail
  go_quiet (fail)
  generalize nq = n2 at *
  go_upto_region 35 with fail
  have T := Lib.hid (S.out.drewN (n1 + n2))
  clear b0 b1 b2 b3 ca cb ck S
  generalize w1.drewN (n1 + n2) = w2 at *
  obtain ⟨b0, b1, b2, b3, ca, cb, ck⟩ := T.out.cells ha hb
  rw [HD.out] at ca
  have fa := T.out.h.froz (1 + a)
  have c00 := T.out.h.cell 1 rfl
  have c02 := T.out.h.cell 3 rfl
  have f00 := T.out.h.froz 1
  have f02 := T.out.h.froz 3
  go_quiet (fail)
  generalize nq = n3 at *
  go_wp2_with fail
  go_ret
  exact T.out.fin hgg rfl (⟨T.out.h.h⟩ : NMem (w2.drewN _) g cv (wsl gw m.W.length) kv m l) (only_drewN _ _ _)
theorem do33_14l (g gw : Nat) (cv kv : Value) (m : Mach) (l : Int) (a b : Nat) (n : Int) (k : Ok33 g gw m a b n) (hdd : m.R a ≠ 0 ∧ ¬ (num m = -9223372036854775808 ∧ m.R a = -1) ∧ (num m).tdiv (m.R a) < -2147483648) (w : World) (h : NMem w g cv (wsl gw m.W.length) kv m l) (hw : WMem w gw m.W) : DoC g gw cv kv m l 14 14 a b n w := by
  obtain ⟨hR, ha, hb, hn, hat, hl, hgg⟩ := k
  have S := Lib.hid (St.start (op := 14) (a := a) (b := b) (n := n) h hw)
  clear h hw
  unfold DoC
  obtain ⟨ha', hb', e1, e2⟩ := ab_facts hR ha hb
  have HR := Lib.hid hR; clear hR
  have r0 := HR.out 0 (by omega)
  have r2 := HR.out 2 (by omega)
  have rA := HR.out a ha
  unfold I32 at r0 r2 rA
  obtain ⟨N, hN⟩ : ∃ N, num m = N := ⟨_, rfl⟩
  obtain ⟨D, hD⟩ : ∃ D, m.R a = D := ⟨_, rfl⟩
  have ho := or_hi (m.R 2) (m.R 0 % 4294967296) r2.1 r2.2 (by omega) (by omega)
  rw [show m.R 2 * 4294967296 + m.R 0 % 4294967296 = N from hN] at ho
  have hNr : -9223372036854775808 ≤ N ∧ N ≤ 9223372036854775807 := by rw [← hN]; unfold num; omega
  rw [hD] at e1 rA
  rw [hN, hD] at hdd
  have y2 : IntKind.i64.wrap (m.R 2 * 4294967296) = m.R 2 * 4294967296 := by rw [IntKind.wrap_i64]; omega
  have y1 : IntKind.i64.wrap (m.R 2) = m.R 2 := by rw [IntKind.wrap_i64]; omega
  have y3 : IntKind.u32.wrap (m.R 0) = m.R 0 % 4294967296 := by rw [IntKind.wrap_u32]
  have y4 : IntKind.i64.wrap (m.R 0 % 4294967296) = m.R 0 % 4294967296 := by rw [IntKind.wrap_i64]; omega
  have z1 : (D == 0) = false := by simp [hdd.1]
  have z0 : ¬ D = 0 := hdd.1
  obtain ⟨v2, z2⟩ : ∃ v2, (N == -9223372036854775808) = v2 := ⟨_, rfl⟩
  obtain ⟨v3, z3⟩ : ∃ v3, (D == -1) = v3 := ⟨_, rfl⟩
  have z23 : v2 = false ∨ v3 = false := by
    have := hdd.2.1
    rcases v2 with _ | _
    · exact .inl rfl
    · rcases v3 with _ | _
      · exact .inr rfl
      · exact absurd ⟨by simpa using z2, by simpa using z3⟩ this
  obtain ⟨Q, hQ⟩ : ∃ Q, N.tdiv D = Q := ⟨_, rfl⟩
  rw [hQ] at hdd
  have z5 : decide (Q < -2147483648) = true := by simp; omega
  have z4 : IntKind.i64.wrap Q = Q := by have := div_abs_rng N D hNr hdd.1 hdd.2.1; rw [hQ] at this; rw [IntKind.wrap_i64]; omega
  have hdv : dvn (num m) (m.R a) = none := by rw [hN, hD]; unfold dvn; rw [if_neg hdd.1, hQ, if_pos (by omega)]
  have hx : exA m 14 a b n = (m, 4) := by simp only [exA, hdv]
  rw [hx]
  have HX := Lib.hid hx; clear hx
  have HN := Lib.hid hN; have HD := Lib.hid hD; clear hN hD
  clear hdv hdd r0 r2 rA hNr
  have HQ := hQ
  have J : Hid (∀ w9 : World, Calls Try.prog 49 #[ptr g, .int .i64 14] w9 fun e w' => e = .returned (.bool false) ∧ w' = w9) := Lib.hid fun w9 => jumps49_no 14 (by omega) (by omega) (by omega) g m w9
  go_enter Try.func33, Try.ntmps33
  go_upto_region 1 with fail
  generalize w.alloc (.cells #[.int .i64 14, .int .i64 (a : Int), .int .i64 (b : Int), .int .i32 n] 63) = w1 at *
  obtain ⟨B, hB⟩ : ∃ B, w.heap.size = B := ⟨_, rfl⟩
  rw [hB] at S ⊢
  clear hB
  obtain ⟨b0, b1, b2, b3, ca, cb, ck⟩ := S.out.cells ha hb
  rw [HD.out] at ca
  go_quiet (fail)
  generalize nq = n1 at *
  go_wp2_with fail
  go_quiet (fail)
  generalize nq = n2 at *
  go_upto_region 35 with fail
  have T := Lib.hid (S.out.drewN (n1 + n2))
  clear b0 b1 b2 b3 ca cb ck S
  generalize w1.drewN (n1 + n2) = w2 at *
  obtain ⟨b0, b1, b2, b3, ca, cb, ck⟩ := T.out.cells ha hb
  rw [HD.out] at ca
  have fa := T.out.h.froz (1 + a)
  have c00 := T.out.h.cell 1 rfl
  have c02 := T.out.h.cell 3 rfl
  have f00 := T.out.h.froz 1
  have f02 := T.out.h.froz 3
  go_quiet (fail)
  generalize nq = n3 at *
  rcases z23 with rfl | rfl
  · go_wp2_with fail
    go_ret
    exact T.out.fin hgg rfl (⟨T.out.h.h⟩ : NMem (w2.drewN _) g cv (wsl gw m.W.length) kv m l) (only_drewN _ _ _)
  · cases v2 <;>
    (go_wp2_with fail
     go_ret
     exact T.out.fin hgg rfl (⟨T.out.h.h⟩ : NMem (w2.drewN _) g cv (wsl gw m.W.length) kv m l) (only_drewN _ _ _))
theorem do33_14g (g gw : Nat) (cv kv : Value) (m : Mach) (l : Int) (a b : Nat) (n : Int) (k : Ok33 g gw m a b n) (hdd : m.R a ≠ 0 ∧ ¬ (num m = -9223372036854775808 ∧ m.R a = -1) ∧ 2147483647 < (num m).tdiv (m.R a)) (w : World) (h : NMem w g cv (wsl gw m.W.length) kv m l) (hw : WMem w gw m.W) : DoC g gw cv kv m l 14 14 a b n w := by
  obtain ⟨hR, ha, hb, hn, hat, hl, hgg⟩ := k
  have S := Lib.hid (St.start (op := 14) (a := a) (b := b) (n := n) h hw)
  clear h hw
  unfold DoC
  obtain ⟨ha', hb', e1, e2⟩ := ab_facts hR ha hb
  have HR := Lib.hid hR; clear hR
  have r0 := HR.out 0 (by omega)
  have r2 := HR.out 2 (by omega)
  have rA := HR.out a ha
  unfold I32 at r0 r2 rA
  obtain ⟨N, hN⟩ : ∃ N, num m = N := ⟨_, rfl⟩
  obtain ⟨D, hD⟩ : ∃ D, m.R a = D := ⟨_, rfl⟩
  have ho := or_hi (m.R 2) (m.R 0 % 4294967296) r2.1 r2.2 (by omega) (by omega)
  rw [show m.R 2 * 4294967296 + m.R 0 % 4294967296 = N from hN] at ho
  have hNr : -9223372036854775808 ≤ N ∧ N ≤ 9223372036854775807 := by rw [← hN]; unfold num; omega
  rw [hD] at e1 rA
  rw [hN, hD] at hdd
  have y2 : IntKind.i64.wrap (m.R 2 * 4294967296) = m.R 2 * 4294967296 := by rw [IntKind.wrap_i64]; omega
  have y1 : IntKind.i64.wrap (m.R 2) = m.R 2 := by rw [IntKind.wrap_i64]; omega
  have y3 : IntKind.u32.wrap (m.R 0) = m.R 0 % 4294967296 := by rw [IntKind.wrap_u32]
  have y4 : IntKind.i64.wrap (m.R 0 % 4294967296) = m.R 0 % 4294967296 := by rw [IntKind.wrap_i64]; omega
  have z1 : (D == 0) = false := by simp [hdd.1]
  have z0 : ¬ D = 0 := hdd.1
  obtain ⟨v2, z2⟩ : ∃ v2, (N == -9223372036854775808) = v2 := ⟨_, rfl⟩
  obtain ⟨v3, z3⟩ : ∃ v3, (D == -1) = v3 := ⟨_, rfl⟩
  have z23 : v2 = false ∨ v3 = false := by
    have := hdd.2.1
    rcases v2 with _ | _
    · exact .inl rfl
    · rcases v3 with _ | _
      · exact .inr rfl
      · exact absurd ⟨by simpa using z2, by simpa using z3⟩ this
  obtain ⟨Q, hQ⟩ : ∃ Q, N.tdiv D = Q := ⟨_, rfl⟩
  rw [hQ] at hdd
  have z5 : decide (Q < -2147483648) = false := by simp; omega
  have z6 : decide (2147483647 < Q) = true := by simp; omega
  have z4 : IntKind.i64.wrap Q = Q := by have := div_abs_rng N D hNr hdd.1 hdd.2.1; rw [hQ] at this; rw [IntKind.wrap_i64]; omega
  have hdv : dvn (num m) (m.R a) = none := by rw [hN, hD]; unfold dvn; rw [if_neg hdd.1, hQ, if_pos (by omega)]
  have hx : exA m 14 a b n = (m, 4) := by simp only [exA, hdv]
  rw [hx]
  have HX := Lib.hid hx; clear hx
  have HN := Lib.hid hN; have HD := Lib.hid hD; clear hN hD
  clear hdv hdd r0 r2 rA hNr
  have HQ := hQ
  have J : Hid (∀ w9 : World, Calls Try.prog 49 #[ptr g, .int .i64 14] w9 fun e w' => e = .returned (.bool false) ∧ w' = w9) := Lib.hid fun w9 => jumps49_no 14 (by omega) (by omega) (by omega) g m w9
  go_enter Try.func33, Try.ntmps33
  go_upto_region 1 with fail
  generalize w.alloc (.cells #[.int .i64 14, .int .i64 (a : Int), .int .i64 (b : Int), .int .i32 n] 63) = w1 at *
  obtain ⟨B, hB⟩ : ∃ B, w.heap.size = B := ⟨_, rfl⟩
  rw [hB] at S ⊢
  clear hB
  obtain ⟨b0, b1, b2, b3, ca, cb, ck⟩ := S.out.cells ha hb
  rw [HD.out] at ca
  go_quiet (fail)
  generalize nq = n1 at *
  go_wp2_with fail
  go_quiet (fail)
  generalize nq = n2 at *
  go_upto_region 35 with fail
  have T := Lib.hid (S.out.drewN (n1 + n2))
  clear b0 b1 b2 b3 ca cb ck S
  generalize w1.drewN (n1 + n2) = w2 at *
  obtain ⟨b0, b1, b2, b3, ca, cb, ck⟩ := T.out.cells ha hb
  rw [HD.out] at ca
  have fa := T.out.h.froz (1 + a)
  have c00 := T.out.h.cell 1 rfl
  have c02 := T.out.h.cell 3 rfl
  have f00 := T.out.h.froz 1
  have f02 := T.out.h.froz 3
  go_quiet (fail)
  generalize nq = n3 at *
  rcases z23 with rfl | rfl
  · go_wp2_with fail
    go_ret
    exact T.out.fin hgg rfl (⟨T.out.h.h⟩ : NMem (w2.drewN _) g cv (wsl gw m.W.length) kv m l) (only_drewN _ _ _)
  · cases v2 <;>
    (go_wp2_with fail
     go_ret
     exact T.out.fin hgg rfl (⟨T.out.h.h⟩ : NMem (w2.drewN _) g cv (wsl gw m.W.length) kv m l) (only_drewN _ _ _))
theorem do33_14 (g gw : Nat) (cv kv : Value) (m : Mach) (l : Int) (a b : Nat) (n : Int) (k : Ok33 g gw m a b n) (hdd : m.R a ≠ 0 ∧ ¬ (num m = -9223372036854775808 ∧ m.R a = -1) ∧ -2147483648 ≤ (num m).tdiv (m.R a) ∧ (num m).tdiv (m.R a) ≤ 2147483647) (w : World) (h : NMem w g cv (wsl gw m.W.length) kv m l) (hw : WMem w gw m.W) : DoC g gw cv kv m l 14 14 a b n w := by
  obtain ⟨hR, ha, hb, hn, hat, hl, hgg⟩ := k
  have S := Lib.hid (St.start (op := 14) (a := a) (b := b) (n := n) h hw)
  clear h hw
  unfold DoC
  obtain ⟨ha', hb', e1, e2⟩ := ab_facts hR ha hb
  have HR := Lib.hid hR; clear hR
  have r0 := HR.out 0 (by omega)
  have r2 := HR.out 2 (by omega)
  have rA := HR.out a ha
  unfold I32 at r0 r2 rA
  obtain ⟨N, hN⟩ : ∃ N, num m = N := ⟨_, rfl⟩
  obtain ⟨D, hD⟩ : ∃ D, m.R a = D := ⟨_, rfl⟩
  have ho := or_hi (m.R 2) (m.R 0 % 4294967296) r2.1 r2.2 (by omega) (by omega)
  rw [show m.R 2 * 4294967296 + m.R 0 % 4294967296 = N from hN] at ho
  have hNr : -9223372036854775808 ≤ N ∧ N ≤ 9223372036854775807 := by rw [← hN]; unfold num; omega
  rw [hD] at e1 rA
  rw [hN, hD] at hdd
  have y2 : IntKind.i64.wrap (m.R 2 * 4294967296) = m.R 2 * 4294967296 := by rw [IntKind.wrap_i64]; omega
  have y1 : IntKind.i64.wrap (m.R 2) = m.R 2 := by rw [IntKind.wrap_i64]; omega
  have y3 : IntKind.u32.wrap (m.R 0) = m.R 0 % 4294967296 := by rw [IntKind.wrap_u32]
  have y4 : IntKind.i64.wrap (m.R 0 % 4294967296) = m.R 0 % 4294967296 := by rw [IntKind.wrap_i64]; omega
  have z1 : (D == 0) = false := by simp [hdd.1]
  have z0 : ¬ D = 0 := hdd.1
  obtain ⟨v2, z2⟩ : ∃ v2, (N == -9223372036854775808) = v2 := ⟨_, rfl⟩
  obtain ⟨v3, z3⟩ : ∃ v3, (D == -1) = v3 := ⟨_, rfl⟩
  have z23 : v2 = false ∨ v3 = false := by
    have := hdd.2.1
    rcases v2 with _ | _
    · exact .inl rfl
    · rcases v3 with _ | _
      · exact .inr rfl
      · exact absurd ⟨by simpa using z2, by simpa using z3⟩ this
  obtain ⟨Q, hQ⟩ : ∃ Q, N.tdiv D = Q := ⟨_, rfl⟩
  rw [hQ] at hdd
  have z5 : decide (Q < -2147483648) = false := by simp; omega
  have z6 : decide (2147483647 < Q) = false := by simp; omega
  have z4 : IntKind.i64.wrap Q = Q := by rw [IntKind.wrap_i64]; omega
  have z7 : IntKind.i32.wrap Q = Q := by rw [IntKind.wrap_i32]; omega
  obtain ⟨M, hM⟩ : ∃ M, N.tmod D = M := ⟨_, rfl⟩
  have hMr := mod_abs_rng N D rA hdd.1
  rw [hM] at hMr
  have z8 : IntKind.i64.wrap M = M := by rw [IntKind.wrap_i64]; omega
  have z9 : IntKind.i32.wrap M = M := by rw [IntKind.wrap_i32]; omega
  have hdv : dvn (num m) (m.R a) = some (Q, M) := by rw [hN, hD]; unfold dvn; rw [if_neg hdd.1, hQ, hM, if_neg (by omega)]
  have hx : exA m 14 a b n = ({ m with R := upd (upd m.R 0 Q) 2 M }, 1) := by simp only [exA, hdv]
  rw [hx]
  have HX := Lib.hid hx; clear hx
  have HN := Lib.hid hN; have HD := Lib.hid hD; clear hN hD
  clear hdv hdd r0 r2 rA hNr hMr
  have J : Hid (∀ w9 : World, Calls Try.prog 49 #[ptr g, .int .i64 14] w9 fun e w' => e = .returned (.bool false) ∧ w' = w9) := Lib.hid fun w9 => jumps49_no 14 (by omega) (by omega) (by omega) g m w9
  go_enter Try.func33, Try.ntmps33
  go_upto_region 1 with fail
  generalize w.alloc (.cells #[.int .i64 14, .int .i64 (a : Int), .int .i64 (b : Int), .int .i32 n] 63) = w1 at *
  obtain ⟨B, hB⟩ : ∃ B, w.heap.size = B := ⟨_, rfl⟩
  rw [hB] at S ⊢
  clear hB
  obtain ⟨b0, b1, b2, b3, ca, cb, ck⟩ := S.out.cells ha hb
  rw [HD.out] at ca
  go_quiet (fail)
  generalize nq = n1 at *
  go_wp2_with fail
  go_quiet (fail)
  generalize nq = n2 at *
  go_upto_region 35 with fail
  have T := Lib.hid (S.out.drewN (n1 + n2))
  clear b0 b1 b2 b3 ca cb ck S
  generalize w1.drewN (n1 + n2) = w2 at *
  obtain ⟨b0, b1, b2, b3, ca, cb, ck⟩ := T.out.cells ha hb
  rw [HD.out] at ca
  have fa := T.out.h.froz (1 + a)
  have c00 := T.out.h.cell 1 rfl
  have c02 := T.out.h.cell 3 rfl
  have f00 := T.out.h.froz 1
  have f02 := T.out.h.froz 3
  go_quiet (fail)
  generalize nq = n3 at *
  rcases z23 with rfl | rfl
  · go_wp2_with fail
    go_region
    have HM3 := Lib.hid (((show NMem (w2.drewN n3) g cv (wsl gw m.W.length) kv m l from ⟨T.out.h.h⟩).set (1 + 0) (.int .i32 Q) (nc_setR cv _ kv m l (by omega) Q)).set (1 + 2) (.int .i32 M) (nc_setR cv _ kv { m with R := upd m.R 0 Q } l (by omega) M)).drew
    have HO3 := Lib.hid ((((only_drewN [g] w2 n3).set (g := g) (j := 1 + 0) (.int .i32 Q) (by simp)).set (g := g) (j := 1 + 2) (.int .i32 M) (by simp)).drew)
    obtain ⟨c0, c1, c2, c3⟩ := (T.out.hB.keep HO3.out T.out.ng).cells
    clear b0 b1 b2 b3 c00 c02 f00 f02
    generalize (((w2.drewN n3).setCell ⟨g, 1 + 0, none⟩ (.int .i32 Q)).setCell ⟨g, 1 + 2, none⟩ (.int .i32 M)).drew = w3 at *
    go_wp2_with (go_at_call 49; with_reducible refine (J.out _).mono ?_; rintro e w9 ⟨rfl, rfl⟩)
    go_ret
    exact T.out.fin hgg rfl HM3.out HO3.out
  · cases v2 <;>
    (go_wp2_with fail
     go_region
     have HM3 := Lib.hid (((show NMem (w2.drewN n3) g cv (wsl gw m.W.length) kv m l from ⟨T.out.h.h⟩).set (1 + 0) (.int .i32 Q) (nc_setR cv _ kv m l (by omega) Q)).set (1 + 2) (.int .i32 M) (nc_setR cv _ kv { m with R := upd m.R 0 Q } l (by omega) M)).drew
     have HO3 := Lib.hid ((((only_drewN [g] w2 n3).set (g := g) (j := 1 + 0) (.int .i32 Q) (by simp)).set (g := g) (j := 1 + 2) (.int .i32 M) (by simp)).drew)
     obtain ⟨c0, c1, c2, c3⟩ := (T.out.hB.keep HO3.out T.out.ng).cells
     clear b0 b1 b2 b3 c00 c02 f00 f02
     generalize (((w2.drewN n3).setCell ⟨g, 1 + 0, none⟩ (.int .i32 Q)).setCell ⟨g, 1 + 2, none⟩ (.int .i32 M)).drew = w3 at *
     go_wp2_with (go_at_call 49; with_reducible refine (J.out _).mono ?_; rintro e w9 ⟨rfl, rfl⟩)
     go_ret
     exact T.out.fin hgg rfl HM3.out HO3.out)
theorem do33_15 (g gw : Nat) (cv kv : Value) (m : Mach) (l : Int) (a b : Nat) (n : Int) (k : Ok33 g gw m a b n) (w : World) (h : NMem w g cv (wsl gw m.W.length) kv m l) (hw : WMem w gw m.W) : DoC g gw cv kv m l 15 15 a b n w := by
  obtain ⟨hR, ha, hb, hn, hat, hl, hgg⟩ := k
  have S := Lib.hid (St.start (op := 15) (a := a) (b := b) (n := n) h hw)
  clear h hw
  unfold DoC
  obtain ⟨ha', hb', e1, e2⟩ := ab_facts hR ha hb
  have hk0 : bits BinOp.and IntKind.u64 (IntKind.u64.wrap (m.R 1)) 31 = m.R 1 % 32 := by rw [IntKind.wrap_u64]; exact and31_u64 (m.R 1)
  obtain ⟨K, hK, hK0, hK1⟩ : ∃ K : Int, m.R 1 % 32 = K ∧ 0 ≤ K ∧ K ≤ 31 := ⟨_, rfl, by omega, by omega⟩
  rw [hK] at hk0
  have HKK := Lib.hid hK; clear hK
  have HR := Lib.hid hR; clear hR
  have hKd : decide (K < 0) = false := by simp; omega
  have hx : exA m 15 a b n = res m a (wrap32 (m.R a * 2 ^ K.toNat)) := by rw [← HKK.out]; rfl
  rw [hx]
  have HX := Lib.hid hx; clear hx
  have e5 : wrap32 (wrap64 (m.R a * 2 ^ K.toNat)) = wrap32 (m.R a * 2 ^ K.toNat) := by unfold wrap32 wrap64; omega
  have e4 : IntKind.i32.wrap (IntKind.i64.wrap (m.R a * 2 ^ K.toNat)) = wrap32 (m.R a * 2 ^ K.toNat) := by rw [w3264, IntKind.wrap_i32]; unfold wrap32; rfl
  have J : Hid (∀ w9 : World, Calls Try.prog 49 #[ptr g, .int .i64 15] w9 fun e w' => e = .returned (.bool false) ∧ w' = w9) := Lib.hid fun w9 => jumps49_no 15 (by omega) (by omega) (by omega) g m w9
  go_enter Try.func33, Try.ntmps33
  go_upto_region 1 with fail
  generalize w.alloc (.cells #[.int .i64 15, .int .i64 (a : Int), .int .i64 (b : Int), .int .i32 n] 63) = w1 at *
  obtain ⟨B, hB⟩ : ∃ B, w.heap.size = B := ⟨_, rfl⟩
  rw [hB] at S ⊢
  clear hB
  obtain ⟨b0, b1, b2, b3, ca, cb, ck⟩ := S.out.cells ha hb
  go_quiet (fail)
  generalize nq = n1 at *
  go_wp2_with fail
  go_quiet (fail)
  generalize nq = n2 at *
  go_upto_region 44 with fail
  have T := Lib.hid (S.out.drewN (n1 + n2))
  clear b0 b1 b2 b3 ca cb ck S
  generalize w1.drewN (n1 + n2) = w2 at *
  obtain ⟨b0, b1, b2, b3, ca, cb, ck⟩ := T.out.cells ha hb
  have fa := T.out.h.froz (1 + a)
  go_region
  have HM3 := Lib.hid ((T.out.h.set (1 + a) (.int .i32 (wrap32 (m.R a * 2 ^ K.toNat))) (nc_setR cv _ kv m l ha _)).drew)
  have HO3 := Lib.hid (((Only.refl [g] w2).set (g := g) (j := 1 + a) (.int .i32 (wrap32 (m.R a * 2 ^ K.toNat))) (by simp)).drew)
  obtain ⟨c0, c1, c2, c3⟩ := (T.out.hB.keep HO3.out T.out.ng).cells
  clear b0 b1 b2 b3 ca fa
  generalize (w2.setCell ⟨g, 1 + a, none⟩ (.int .i32 (wrap32 (m.R a * 2 ^ K.toNat)))).drew = w3 at *
  go_wp2_with (go_at_call 49; with_reducible refine (J.out _).mono ?_; rintro e w9 ⟨rfl, rfl⟩)
  go_ret
  exact T.out.fin hgg rfl HM3.out HO3.out
theorem do33_16 (g gw : Nat) (cv kv : Value) (m : Mach) (l : Int) (a b : Nat) (n : Int) (k : Ok33 g gw m a b n) (w : World) (h : NMem w g cv (wsl gw m.W.length) kv m l) (hw : WMem w gw m.W) : DoC g gw cv kv m l 16 16 a b n w := by
  obtain ⟨hR, ha, hb, hn, hat, hl, hgg⟩ := k
  have S := Lib.hid (St.start (op := 16) (a := a) (b := b) (n := n) h hw)
  clear h hw
  unfold DoC
  obtain ⟨ha', hb', e1, e2⟩ := ab_facts hR ha hb
  have hk0 : bits BinOp.and IntKind.u64 (IntKind.u64.wrap (m.R 1)) 31 = m.R 1 % 32 := by rw [IntKind.wrap_u64]; exact and31_u64 (m.R 1)
  obtain ⟨K, hK, hK0, hK1⟩ : ∃ K : Int, m.R 1 % 32 = K ∧ 0 ≤ K ∧ K ≤ 31 := ⟨_, rfl, by omega, by omega⟩
  rw [hK] at hk0
  have HKK := Lib.hid hK; clear hK
  have HR := Lib.hid hR; clear hR
  have hKd : decide (K < 0) = false := by simp; omega
  have hx : exA m 16 a b n = res m a (m.R a / 2 ^ K.toNat) := by rw [← HKK.out]; rfl
  rw [hx]
  have HX := Lib.hid hx; clear hx
  have e4 : IntKind.i32.wrap (m.R a / 2 ^ K.toNat) = m.R a / 2 ^ K.toNat := by
    have := div_rng' (HR.out a ha) K.toNat
    unfold I32 at this; rw [IntKind.wrap_i32]; omega
  have J : Hid (∀ w9 : World, Calls Try.prog 49 #[ptr g, .int .i64 16] w9 fun e w' => e = .returned (.bool false) ∧ w' = w9) := Lib.hid fun w9 => jumps49_no 16 (by omega) (by omega) (by omega) g m w9
  go_enter Try.func33, Try.ntmps33
  go_upto_region 1 with fail
  generalize w.alloc (.cells #[.int .i64 16, .int .i64 (a : Int), .int .i64 (b : Int), .int .i32 n] 63) = w1 at *
  obtain ⟨B, hB⟩ : ∃ B, w.heap.size = B := ⟨_, rfl⟩
  rw [hB] at S ⊢
  clear hB
  obtain ⟨b0, b1, b2, b3, ca, cb, ck⟩ := S.out.cells ha hb
  go_quiet (fail)
  generalize nq = n1 at *
  go_wp2_with fail
  go_quiet (fail)
  generalize nq = n2 at *
  go_upto_region 46 with fail
  have T := Lib.hid (S.out.drewN (n1 + n2))
  clear b0 b1 b2 b3 ca cb ck S
  generalize w1.drewN (n1 + n2) = w2 at *
  obtain ⟨b0, b1, b2, b3, ca, cb, ck⟩ := T.out.cells ha hb
  have fa := T.out.h.froz (1 + a)
  go_region
  have HM3 := Lib.hid ((T.out.h.set (1 + a) (.int .i32 (m.R a / 2 ^ K.toNat)) (nc_setR cv _ kv m l ha _)).drew)
  have HO3 := Lib.hid (((Only.refl [g] w2).set (g := g) (j := 1 + a) (.int .i32 (m.R a / 2 ^ K.toNat)) (by simp)).drew)
  obtain ⟨c0, c1, c2, c3⟩ := (T.out.hB.keep HO3.out T.out.ng).cells
  clear b0 b1 b2 b3 ca fa
  generalize (w2.setCell ⟨g, 1 + a, none⟩ (.int .i32 (m.R a / 2 ^ K.toNat))).drew = w3 at *
  go_wp2_with (go_at_call 49; with_reducible refine (J.out _).mono ?_; rintro e w9 ⟨rfl, rfl⟩)
  go_ret
  exact T.out.fin hgg rfl HM3.out HO3.out
theorem do33_17 (g gw : Nat) (cv kv : Value) (m : Mach) (l : Int) (a b : Nat) (n : Int) (k : Ok33 g gw m a b n) (w : World) (h : NMem w g cv (wsl gw m.W.length) kv m l) (hw : WMem w gw m.W) : DoC g gw cv kv m l 17 17 a b n w := by
  obtain ⟨hR, ha, hb, hn, hat, hl, hgg⟩ := k
  have S := Lib.hid (St.start (op := 17) (a := a) (b := b) (n := n) h hw)
  clear h hw
  unfold DoC
  obtain ⟨ha', hb', e1, e2⟩ := ab_facts hR ha hb
  have hk0 : bits BinOp.and IntKind.u64 (IntKind.u64.wrap (m.R 1)) 31 = m.R 1 % 32 := by rw [IntKind.wrap_u64]; exact and31_u64 (m.R 1)
  obtain ⟨K, hK, hK0, hK1⟩ : ∃ K : Int, m.R 1 % 32 = K ∧ 0 ≤ K ∧ K ≤ 31 := ⟨_, rfl, by omega, by omega⟩
  rw [hK] at hk0
  have HKK := Lib.hid hK; clear hK
  have HR := Lib.hid hR; clear hR
  have hKd : decide (K < 0) = false := by simp; omega
  have hx : exA m 17 a b n = res m a (wrap32 (m.R a % 4294967296 / 2 ^ K.toNat)) := by rw [← HKK.out]; rfl
  rw [hx]
  have HX := Lib.hid hx; clear hx
  have e3 := lo64 (m.R a)
  have e4 : IntKind.i32.wrap (m.R a % 4294967296 / 2 ^ K.toNat) = wrap32 (m.R a % 4294967296 / 2 ^ K.toNat) := by rw [IntKind.wrap_i32]; unfold wrap32; rfl
  have J : Hid (∀ w9 : World, Calls Try.prog 49 #[ptr g, .int .i64 17] w9 fun e w' => e = .returned (.bool false) ∧ w' = w9) := Lib.hid fun w9 => jumps49_no 17 (by omega) (by omega) (by omega) g m w9
  go_enter Try.func33, Try.ntmps33
  go_upto_region 1 with fail
  generalize w.alloc (.cells #[.int .i64 17, .int .i64 (a : Int), .int .i64 (b : Int), .int .i32 n] 63) = w1 at *
  obtain ⟨B, hB⟩ : ∃ B, w.heap.size = B := ⟨_, rfl⟩
  rw [hB] at S ⊢
  clear hB
  obtain ⟨b0, b1, b2, b3, ca, cb, ck⟩ := S.out.cells ha hb
  go_quiet (fail)
  generalize nq = n1 at *
  go_wp2_with fail
  go_quiet (fail)
  generalize nq = n2 at *
  go_upto_region 48 with fail
  have T := Lib.hid (S.out.drewN (n1 + n2))
  clear b0 b1 b2 b3 ca cb ck S
  generalize w1.drewN (n1 + n2) = w2 at *
  obtain ⟨b0, b1, b2, b3, ca, cb, ck⟩ := T.out.cells ha hb
  have fa := T.out.h.froz (1 + a)
  go_region
  have HM3 := Lib.hid ((T.out.h.set (1 + a) (.int .i32 (wrap32 (m.R a % 4294967296 / 2 ^ K.toNat))) (nc_setR cv _ kv m l ha _)).drew)
  have HO3 := Lib.hid (((Only.refl [g] w2).set (g := g) (j := 1 + a) (.int .i32 (wrap32 (m.R a % 4294967296 / 2 ^ K.toNat))) (by simp)).drew)
  obtain ⟨c0, c1, c2, c3⟩ := (T.out.hB.keep HO3.out T.out.ng).cells
  clear b0 b1 b2 b3 ca fa
  generalize (w2.setCell ⟨g, 1 + a, none⟩ (.int .i32 (wrap32 (m.R a % 4294967296 / 2 ^ K.toNat)))).drew = w3 at *
  go_wp2_with (go_at_call 49; with_reducible refine (J.out _).mono ?_; rintro e w9 ⟨rfl, rfl⟩)
  go_ret
  exact T.out.fin hgg rfl HM3.out HO3.out
end Go.Proofs.Ytpcocfdgcihpdaa.rdw
