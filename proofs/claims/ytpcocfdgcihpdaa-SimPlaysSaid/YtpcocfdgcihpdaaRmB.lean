/-
  caraferef20: do, operation by operation
-/
import Derived.Test.YtpcocfdgcihpdaaRmJ
set_option maxHeartbeats 64000000
set_option maxRecDepth 1000000
set_option linter.unusedVariables false
set_option linter.unusedSimpArgs false
namespace Go.Proofs.Ytpcocfdgcihpdaa.rdw
open Go Go.RowKit Go.BigFrame
open Go.Proofs.Ytpcocfdgcihpdaa Go.Proofs.Ytpcocfdgcihpdaa.wr Go.Proofs.Ytpcocfdgcihpdaa.x86enc
set_option linter.unusedVariables false
set_option linter.unusedSimpArgs false
theorem do33_1 (g gw : Nat) (cv kv : Value) (m : Mach) (l : Int) (a b : Nat) (n : Int) (k : Ok33 g gw m a b n) (w : World) (h : NMem w g cv (wsl gw m.W.length) kv m l) (hw : WMem w gw m.W) : DoC g gw cv kv m l 1 1 a b n w := by
  obtain ⟨hR, ha, hb, hn, hat, hl, hgg⟩ := k
  have S := Lib.hid (St.start (op := 1) (a := a) (b := b) (n := n) h hw)
  clear h hw
  unfold DoC
  obtain ⟨ha', hb', e1, e2⟩ := ab_facts hR ha hb
  have HR := Lib.hid hR; clear hR
  have J : Hid (∀ w9 : World, Calls Try.prog 49 #[ptr g, .int .i64 1] w9 fun e w' => e = .returned (.bool false) ∧ w' = w9) := Lib.hid fun w9 => jumps49_no 1 (by omega) (by omega) (by omega) g m w9
  go_enter Try.func33, Try.ntmps33
  go_upto_region 1 with fail
  generalize w.alloc (.cells #[.int .i64 1, .int .i64 (a : Int), .int .i64 (b : Int), .int .i32 n] 63) = w1 at *
  obtain ⟨B, hB⟩ : ∃ B, w.heap.size = B := ⟨_, rfl⟩
  rw [hB] at S ⊢
  clear hB
  obtain ⟨b0, b1, b2, b3, ca, cb, ck⟩ := S.out.cells ha hb
  go_quiet (fail)
  generalize nq = n1 at *
  go_wp2_with fail
  go_quiet (fail)
  generalize nq = n2 at *
  go_upto_region 6 with fail
  have T := Lib.hid (S.out.drewN (n1 + n2))
  clear b0 b1 b2 b3 ca cb ck S
  generalize w1.drewN (n1 + n2) = w2 at *
  obtain ⟨b0, b1, b2, b3, ca, cb, ck⟩ := T.out.cells ha hb
  have fa := T.out.h.froz (1 + a)
  go_region
  have HM3 := Lib.hid ((T.out.h.set (1 + a) (.int .i32 (n)) (nc_setR cv _ kv m l ha _)).drew)
  have HO3 := Lib.hid (((Only.refl [g] w2).set (g := g) (j := 1 + a) (.int .i32 (n)) (by simp)).drew)
  obtain ⟨c0, c1, c2, c3⟩ := (T.out.hB.keep HO3.out T.out.ng).cells
  clear b0 b1 b2 b3 ca fa
  generalize (w2.setCell ⟨g, 1 + a, none⟩ (.int .i32 (n))).drew = w3 at *
  go_wp2_with (go_at_call 49; with_reducible refine (J.out _).mono ?_; rintro e w9 ⟨rfl, rfl⟩)
  go_ret
  exact T.out.fin hgg rfl HM3.out HO3.out
theorem do33_2 (g gw : Nat) (cv kv : Value) (m : Mach) (l : Int) (a b : Nat) (n : Int) (k : Ok33 g gw m a b n) (w : World) (h : NMem w g cv (wsl gw m.W.length) kv m l) (hw : WMem w gw m.W) : DoC g gw cv kv m l 2 2 a b n w := by
  obtain ⟨hR, ha, hb, hn, hat, hl, hgg⟩ := k
  have S := Lib.hid (St.start (op := 2) (a := a) (b := b) (n := n) h hw)
  clear h hw
  unfold DoC
  obtain ⟨ha', hb', e1, e2⟩ := ab_facts hR ha hb
  have HR := Lib.hid hR; clear hR
  have J : Hid (∀ w9 : World, Calls Try.prog 49 #[ptr g, .int .i64 2] w9 fun e w' => e = .returned (.bool false) ∧ w' = w9) := Lib.hid fun w9 => jumps49_no 2 (by omega) (by omega) (by omega) g m w9
  go_enter Try.func33, Try.ntmps33
  go_upto_region 1 with fail
  generalize w.alloc (.cells #[.int .i64 2, .int .i64 (a : Int), .int .i64 (b : Int), .int .i32 n] 63) = w1 at *
  obtain ⟨B, hB⟩ : ∃ B, w.heap.size = B := ⟨_, rfl⟩
  rw [hB] at S ⊢
  clear hB
  obtain ⟨b0, b1, b2, b3, ca, cb, ck⟩ := S.out.cells ha hb
  go_quiet (fail)
  generalize nq = n1 at *
  go_wp2_with fail
  go_quiet (fail)
  generalize nq = n2 at *
  go_upto_region 8 with fail
  have T := Lib.hid (S.out.drewN (n1 + n2))
  clear b0 b1 b2 b3 ca cb ck S
  generalize w1.drewN (n1 + n2) = w2 at *
  obtain ⟨b0, b1, b2, b3, ca, cb, ck⟩ := T.out.cells ha hb
  have fa := T.out.h.froz (1 + a)
  go_region
  have HM3 := Lib.hid ((T.out.h.set (1 + a) (.int .i32 (m.R b)) (nc_setR cv _ kv m l ha _)).drew)
  have HO3 := Lib.hid (((Only.refl [g] w2).set (g := g) (j := 1 + a) (.int .i32 (m.R b)) (by simp)).drew)
  obtain ⟨c0, c1, c2, c3⟩ := (T.out.hB.keep HO3.out T.out.ng).cells
  clear b0 b1 b2 b3 ca fa
  generalize (w2.setCell ⟨g, 1 + a, none⟩ (.int .i32 (m.R b))).drew = w3 at *
  go_wp2_with (go_at_call 49; with_reducible refine (J.out _).mono ?_; rintro e w9 ⟨rfl, rfl⟩)
  go_ret
  exact T.out.fin hgg rfl HM3.out HO3.out
theorem do33_3r (g gw : Nat) (cv kv : Value) (m : Mach) (l : Int) (a b : Nat) (n : Int) (k : Ok33 g gw m a b n) (hr : n.tmod 4 ≠ 0) (w : World) (h : NMem w g cv (wsl gw m.W.length) kv m l) (hw : WMem w gw m.W) : DoC g gw cv kv m l 3 3 a b n w := by
  obtain ⟨hR, ha, hb, hn, hat, hl, hgg⟩ := k
  have S := Lib.hid (St.start (op := 3) (a := a) (b := b) (n := n) h hw)
  clear h hw
  unfold DoC
  obtain ⟨ha', hb', e1, e2⟩ := ab_facts hR ha hb
  have HR := Lib.hid hR; clear hR
  have x1 : (n.tmod 4 == 0) = false := by simp [hr]
  have x1b : (n.tmod 4 != 0) = true := by simp [hr]
  have hbad : badW m n := .inl hr
  have hx : exA m 3 a b n = (m, 5) := by show (if badW m n then (m, (5 : Int)) else _) = _; rw [if_pos hbad]
  rw [hx]
  have HX := Lib.hid hx; clear hx
  clear hbad hr
  have J : Hid (∀ w9 : World, Calls Try.prog 49 #[ptr g, .int .i64 3] w9 fun e w' => e = .returned (.bool false) ∧ w' = w9) := Lib.hid fun w9 => jumps49_no 3 (by omega) (by omega) (by omega) g m w9
  go_enter Try.func33, Try.ntmps33
  go_upto_region 1 with fail
  generalize w.alloc (.cells #[.int .i64 3, .int .i64 (a : Int), .int .i64 (b : Int), .int .i32 n] 63) = w1 at *
  obtain ⟨B, hB⟩ : ∃ B, w.heap.size = B := ⟨_, rfl⟩
  rw [hB] at S ⊢
  clear hB
  obtain ⟨b0, b1, b2, b3, ca, cb, ck⟩ := S.out.cells ha hb
  go_quiet (fail)
  generalize nq = n1 at *
  go_wp2_with fail
  go_quiet (fail)
  generalize nq = n2 at *
  go_upto_region 11 with fail
  have T := Lib.hid (S.out.drewN (n1 + n2))
  clear b0 b1 b2 b3 ca cb ck S
  generalize w1.drewN (n1 + n2) = w2 at *
  obtain ⟨b0, b1, b2, b3, ca, cb, ck⟩ := T.out.cells ha hb
  have fa := T.out.h.froz (1 + a)
  have c17 := T.out.h.cell 17 rfl
  go_quiet (fail)
  go_wp2_with fail
  go_ret
  exact T.out.fin hgg rfl (⟨T.out.h.h⟩ : NMem (w2.drewN _) g cv (wsl gw m.W.length) kv m l) (only_drewN _ _ _)
theorem do33_3n (g gw : Nat) (cv kv : Value) (m : Mach) (l : Int) (a b : Nat) (n : Int) (k : Ok33 g gw m a b n) (hr : n.tmod 4 = 0) (hr2 : n < 0) (w : World) (h : NMem w g cv (wsl gw m.W.length) kv m l) (hw : WMem w gw m.W) : DoC g gw cv kv m l 3 3 a b n w := by
  obtain ⟨hR, ha, hb, hn, hat, hl, hgg⟩ := k
  have S := Lib.hid (St.start (op := 3) (a := a) (b := b) (n := n) h hw)
  clear h hw
  unfold DoC
  obtain ⟨ha', hb', e1, e2⟩ := ab_facts hR ha hb
  have HR := Lib.hid hR; clear hR
  have x2 : decide (n < 0) = true := by simp; omega
  have hbad : badW m n := .inr (.inl hr2)
  have hx : exA m 3 a b n = (m, 5) := by show (if badW m n then (m, (5 : Int)) else _) = _; rw [if_pos hbad]
  rw [hx]
  have HX := Lib.hid hx; clear hx
  clear hbad hr2
  have J : Hid (∀ w9 : World, Calls Try.prog 49 #[ptr g, .int .i64 3] w9 fun e w' => e = .returned (.bool false) ∧ w' = w9) := Lib.hid fun w9 => jumps49_no 3 (by omega) (by omega) (by omega) g m w9
  go_enter Try.func33, Try.ntmps33
  go_upto_region 1 with fail
  generalize w.alloc (.cells #[.int .i64 3, .int .i64 (a : Int), .int .i64 (b : Int), .int .i32 n] 63) = w1 at *
  obtain ⟨B, hB⟩ : ∃ B, w.heap.size = B := ⟨_, rfl⟩
  rw [hB] at S ⊢
  clear hB
  obtain ⟨b0, b1, b2, b3, ca, cb, ck⟩ := S.out.cells ha hb
  go_quiet (fail)
  generalize nq = n1 at *
  go_wp2_with fail
  go_quiet (fail)
  generalize nq = n2 at *
  go_upto_region 11 with fail
  have T := Lib.hid (S.out.drewN (n1 + n2))
  clear b0 b1 b2 b3 ca cb ck S
  generalize w1.drewN (n1 + n2) = w2 at *
  obtain ⟨b0, b1, b2, b3, ca, cb, ck⟩ := T.out.cells ha hb
  have fa := T.out.h.froz (1 + a)
  have c17 := T.out.h.cell 17 rfl
  go_quiet (fail)
  go_wp2_with fail
  go_ret
  exact T.out.fin hgg rfl (⟨T.out.h.h⟩ : NMem (w2.drewN _) g cv (wsl gw m.W.length) kv m l) (only_drewN _ _ _)
theorem do33_3l (g gw : Nat) (cv kv : Value) (m : Mach) (l : Int) (a b : Nat) (n : Int) (k : Ok33 g gw m a b n) (hr : n.tmod 4 = 0) (hr2 : ¬ n < 0) (hr3 : (m.W.length : Int) ≤ n.tdiv 4) (w : World) (h : NMem w g cv (wsl gw m.W.length) kv m l) (hw : WMem w gw m.W) : DoC g gw cv kv m l 3 3 a b n w := by
  obtain ⟨hR, ha, hb, hn, hat, hl, hgg⟩ := k
  have S := Lib.hid (St.start (op := 3) (a := a) (b := b) (n := n) h hw)
  clear h hw
  unfold DoC
  obtain ⟨ha', hb', e1, e2⟩ := ab_facts hR ha hb
  have HR := Lib.hid hR; clear hR
  have x2 : decide (n < 0) = false := by simp; omega
  have x3 : decide ((m.W.length : Int) ≤ n.tdiv 4) = true := by simp; exact hr3
  have x4 : IntKind.i64.wrap (n.tdiv 4) = n.tdiv 4 := by unfold I32 at hn; rw [Int.tdiv_eq_ediv_of_nonneg (by omega), IntKind.wrap_i64]; omega
  have x5 : IntKind.i32.wrap (n.tdiv 4) = n.tdiv 4 := by unfold I32 at hn; rw [Int.tdiv_eq_ediv_of_nonneg (by omega), IntKind.wrap_i32]; omega
  have hbad : badW m n := .inr (.inr hr3)
  have hx : exA m 3 a b n = (m, 5) := by show (if badW m n then (m, (5 : Int)) else _) = _; rw [if_pos hbad]
  rw [hx]
  have HX := Lib.hid hx; clear hx
  clear hbad hr2 hr3
  have J : Hid (∀ w9 : World, Calls Try.prog 49 #[ptr g, .int .i64 3] w9 fun e w' => e = .returned (.bool false) ∧ w' = w9) := Lib.hid fun w9 => jumps49_no 3 (by omega) (by omega) (by omega) g m w9
  go_enter Try.func33, Try.ntmps33
  go_upto_region 1 with fail
  generalize w.alloc (.cells #[.int .i64 3, .int .i64 (a : Int), .int .i64 (b : Int), .int .i32 n] 63) = w1 at *
  obtain ⟨B, hB⟩ : ∃ B, w.heap.size = B := ⟨_, rfl⟩
  rw [hB] at S ⊢
  clear hB
  obtain ⟨b0, b1, b2, b3, ca, cb, ck⟩ := S.out.cells ha hb
  go_quiet (fail)
  generalize nq = n1 at *
  go_wp2_with fail
  go_quiet (fail)
  generalize nq = n2 at *
  go_upto_region 11 with fail
  have T := Lib.hid (S.out.drewN (n1 + n2))
  clear b0 b1 b2 b3 ca cb ck S
  generalize w1.drewN (n1 + n2) = w2 at *
  obtain ⟨b0, b1, b2, b3, ca, cb, ck⟩ := T.out.cells ha hb
  have fa := T.out.h.froz (1 + a)
  have c17 := T.out.h.cell 17 rfl
  go_quiet (fail)
  go_wp2_with fail
  go_ret
  exact T.out.fin hgg rfl (⟨T.out.h.h⟩ : NMem (w2.drewN _) g cv (wsl gw m.W.length) kv m l) (only_drewN _ _ _)
theorem do33_3 (g gw : Nat) (cv kv : Value) (m : Mach) (l : Int) (a b : Nat) (n : Int) (k : Ok33 g gw m a b n) (q : Nat) (hq : q < m.W.length) (hnq : n = 4 * (q : Int)) (w : World) (h : NMem w g cv (wsl gw m.W.length) kv m l) (hw : WMem w gw m.W) : DoC g gw cv kv m l 3 3 a b n w := by
  obtain ⟨hR, ha, hb, hn, hat, hl, hgg⟩ := k
  have S := Lib.hid (St.start (op := 3) (a := a) (b := b) (n := n) h hw)
  clear h hw
  unfold DoC
  obtain ⟨ha', hb', e1, e2⟩ := ab_facts hR ha hb
  have HR := Lib.hid hR; clear hR
  have x1 : n.tdiv 4 = (q : Int) := by rw [hnq]; simp
  have x2 : n.tmod 4 = 0 := by rw [hnq]; simp
  have x3 : decide (n < 0) = false := by simp; omega
  have x4 : IntKind.i64.wrap (q : Int) = (q : Int) := by rw [IntKind.wrap_i64]; omega
  have x7 : IntKind.i32.wrap (q : Int) = (q : Int) := by rw [IntKind.wrap_i32]; omega
  have x5 : decide (m.W.length ≤ q) = false := by simp; omega
  have x6 : decide ((m.W.length : Int) ≤ (q : Int)) = false := by simp; omega
  have hq' : (q : Int) < (m.W.length : Int) := by omega
  have hbad : ¬ badW m n := by unfold badW; rw [x1, x2]; omega
  obtain ⟨u, hu⟩ : ∃ u, m.W.getD q 0 = u := ⟨_, rfl⟩
  have hx : exA m 3 a b n = res m a u := by show (if badW m n then (m, (5 : Int)) else res m a (m.W.getD (n.tdiv 4).toNat 0)) = _; rw [if_neg hbad, x1, Int.toNat_natCast, hu]
  rw [hx]
  have HX := Lib.hid hx; clear hx
  have HU := Lib.hid hu; clear hu
  have HNQ := Lib.hid hnq; clear hnq hbad
  have J : Hid (∀ w9 : World, Calls Try.prog 49 #[ptr g, .int .i64 3] w9 fun e w' => e = .returned (.bool false) ∧ w' = w9) := Lib.hid fun w9 => jumps49_no 3 (by omega) (by omega) (by omega) g m w9
  go_enter Try.func33, Try.ntmps33
  go_upto_region 1 with fail
  generalize w.alloc (.cells #[.int .i64 3, .int .i64 (a : Int), .int .i64 (b : Int), .int .i32 n] 63) = w1 at *
  obtain ⟨B, hB⟩ : ∃ B, w.heap.size = B := ⟨_, rfl⟩
  rw [hB] at S ⊢
  clear hB
  obtain ⟨b0, b1, b2, b3, ca, cb, ck⟩ := S.out.cells ha hb
  go_quiet (fail)
  generalize nq = n1 at *
  go_wp2_with fail
  go_quiet (fail)
  generalize nq = n2 at *
  go_upto_region 11 with fail
  have T := Lib.hid (S.out.drewN (n1 + n2))
  clear b0 b1 b2 b3 ca cb ck S
  generalize w1.drewN (n1 + n2) = w2 at *
  obtain ⟨b0, b1, b2, b3, ca, cb, ck⟩ := T.out.cells ha hb
  have fa := T.out.h.froz (1 + a)
  have c17 := T.out.h.cell 17 rfl
  have cw := T.out.hw.cell q hq
  have fw := T.out.hw.froz q
  rw [HU.out] at cw
  go_quiet (fail)
  generalize nq = n3 at *
  go_wp2_with fail
  go_region
  have HM3 : Hid (NMem ((w2.drewN (n3 + 1)).setCell ⟨g, 1 + a, none⟩ (.int .i32 u)) g cv (wsl gw m.W.length) kv { m with R := upd m.R a u } l) := Lib.hid ((show NMem (w2.drewN (n3 + 1)) g cv (wsl gw m.W.length) kv m l from ⟨T.out.h.h⟩).set (1 + a) (.int .i32 u) (nc_setR cv _ kv m l ha _))
  have HO3 : Hid (Only [g] w2 ((w2.drewN (n3 + 1)).setCell ⟨g, 1 + a, none⟩ (.int .i32 u))) := Lib.hid ((only_drewN [g] w2 (n3 + 1)).set (g := g) (j := 1 + a) (.int .i32 u) (by simp))
  obtain ⟨c0, c1, c2, c3⟩ := (T.out.hB.keep HO3.out T.out.ng).cells
  clear b0 b1 b2 b3 ca fa c17 cw fw
  generalize (w2.drewN (n3 + 1)).setCell ⟨g, 1 + a, none⟩ (.int .i32 u) = w3 at *
  go_wp2_with (go_at_call 49; with_reducible refine (J.out _).mono ?_; rintro e w9 ⟨rfl, rfl⟩)
  go_ret
  exact T.out.fin hgg rfl HM3.out HO3.out
theorem do33_4r (g gw : Nat) (cv kv : Value) (m : Mach) (l : Int) (a b : Nat) (n : Int) (k : Ok33 g gw m a b n) (hr : n.tmod 4 ≠ 0) (w : World) (h : NMem w g cv (wsl gw m.W.length) kv m l) (hw : WMem w gw m.W) : DoC g gw cv kv m l 4 4 a b n w := by
  obtain ⟨hR, ha, hb, hn, hat, hl, hgg⟩ := k
  have S := Lib.hid (St.start (op := 4) (a := a) (b := b) (n := n) h hw)
  clear h hw
  unfold DoC
  obtain ⟨ha', hb', e1, e2⟩ := ab_facts hR ha hb
  have HR := Lib.hid hR; clear hR
  have x1 : (n.tmod 4 == 0) = false := by simp [hr]
  have x1b : (n.tmod 4 != 0) = true := by simp [hr]
  have hbad : badW m n := .inl hr
  have hx : exA m 4 a b n = (m, 5) := by show (if badW m n then (m, (5 : Int)) else _) = _; rw [if_pos hbad]
  rw [hx]
  have HX := Lib.hid hx; clear hx
  clear hbad hr
  have J : Hid (∀ w9 : World, Calls Try.prog 49 #[ptr g, .int .i64 4] w9 fun e w' => e = .returned (.bool false) ∧ w' = w9) := Lib.hid fun w9 => jumps49_no 4 (by omega) (by omega) (by omega) g m w9
  go_enter Try.func33, Try.ntmps33
  go_upto_region 1 with fail
  generalize w.alloc (.cells #[.int .i64 4, .int .i64 (a : Int), .int .i64 (b : Int), .int .i32 n] 63) = w1 at *
  obtain ⟨B, hB⟩ : ∃ B, w.heap.size = B := ⟨_, rfl⟩
  rw [hB] at S ⊢
  clear hB
  obtain ⟨b0, b1, b2, b3, ca, cb, ck⟩ := S.out.cells ha hb
  go_quiet (fail)
  generalize nq = n1 at *
  go_wp2_with fail
  go_quiet (fail)
  generalize nq = n2 at *
  go_upto_region 11 with fail
  have T := Lib.hid (S.out.drewN (n1 + n2))
  clear b0 b1 b2 b3 ca cb ck S
  generalize w1.drewN (n1 + n2) = w2 at *
  obtain ⟨b0, b1, b2, b3, ca, cb, ck⟩ := T.out.cells ha hb
  have fa := T.out.h.froz (1 + a)
  have c17 := T.out.h.cell 17 rfl
  go_quiet (fail)
  go_wp2_with fail
  go_ret
  exact T.out.fin hgg rfl (⟨T.out.h.h⟩ : NMem (w2.drewN _) g cv (wsl gw m.W.length) kv m l) (only_drewN _ _ _)
theorem do33_4n (g gw : Nat) (cv kv : Value) (m : Mach) (l : Int) (a b : Nat) (n : Int) (k : Ok33 g gw m a b n) (hr : n.tmod 4 = 0) (hr2 : n < 0) (w : World) (h : NMem w g cv (wsl gw m.W.length) kv m l) (hw : WMem w gw m.W) : DoC g gw cv kv m l 4 4 a b n w := by
  obtain ⟨hR, ha, hb, hn, hat, hl, hgg⟩ := k
  have S := Lib.hid (St.start (op := 4) (a := a) (b := b) (n := n) h hw)
  clear h hw
  unfold DoC
  obtain ⟨ha', hb', e1, e2⟩ := ab_facts hR ha hb
  have HR := Lib.hid hR; clear hR
  have x2 : decide (n < 0) = true := by simp; omega
  have hbad : badW m n := .inr (.inl hr2)
  have hx : exA m 4 a b n = (m, 5) := by show (if badW m n then (m, (5 : Int)) else _) = _; rw [if_pos hbad]
  rw [hx]
  have HX := Lib.hid hx; clear hx
  clear hbad hr2
  have J : Hid (∀ w9 : World, Calls Try.prog 49 #[ptr g, .int .i64 4] w9 fun e w' => e = .returned (.bool false) ∧ w' = w9) := Lib.hid fun w9 => jumps49_no 4 (by omega) (by omega) (by omega) g m w9
  go_enter Try.func33, Try.ntmps33
  go_upto_region 1 with fail
  generalize w.alloc (.cells #[.int .i64 4, .int .i64 (a : Int), .int .i64 (b : Int), .int .i32 n] 63) = w1 at *
  obtain ⟨B, hB⟩ : ∃ B, w.heap.size = B := ⟨_, rfl⟩
  rw [hB] at S ⊢
  clear hB
  obtain ⟨b0, b1, b2, b3, ca, cb, ck⟩ := S.out.cells ha hb
  go_quiet (fail)
  generalize nq = n1 at *
  go_wp2_with fail
  go_quiet (fail)
  generalize nq = n2 at *
  go_upto_region 11 with fail
  have T := Lib.hid (S.out.drewN (n1 + n2))
  clear b0 b1 b2 b3 ca cb ck S
  generalize w1.drewN (n1 + n2) = w2 at *
  obtain ⟨b0, b1, b2, b3, ca, cb, ck⟩ := T.out.cells ha hb
  have fa := T.out.h.froz (1 + a)
  have c17 := T.out.h.cell 17 rfl
  go_quiet (fail)
  go_wp2_with fail
  go_ret
  exact T.out.fin hgg rfl (⟨T.out.h.h⟩ : NMem (w2.drewN _) g cv (wsl gw m.W.length) kv m l) (only_drewN _ _ _)
theorem do33_4l (g gw : Nat) (cv kv : Value) (m : Mach) (l : Int) (a b : Nat) (n : Int) (k : Ok33 g gw m a b n) (hr : n.tmod 4 = 0) (hr2 : ¬ n < 0) (hr3 : (m.W.length : Int) ≤ n.tdiv 4) (w : World) (h : NMem w g cv (wsl gw m.W.length) kv m l) (hw : WMem w gw m.W) : DoC g gw cv kv m l 4 4 a b n w := by
  obtain ⟨hR, ha, hb, hn, hat, hl, hgg⟩ := k
  have S := Lib.hid (St.start (op := 4) (a := a) (b := b) (n := n) h hw)
  clear h hw
  unfold DoC
  obtain ⟨ha', hb', e1, e2⟩ := ab_facts hR ha hb
  have HR := Lib.hid hR; clear hR
  have x2 : decide (n < 0) = false := by simp; omega
  have x3 : decide ((m.W.length : Int) ≤ n.tdiv 4) = true := by simp; exact hr3
  have x4 : IntKind.i64.wrap (n.tdiv 4) = n.tdiv 4 := by unfold I32 at hn; rw [Int.tdiv_eq_ediv_of_nonneg (by omega), IntKind.wrap_i64]; omega
  have x5 : IntKind.i32.wrap (n.tdiv 4) = n.tdiv 4 := by unfold I32 at hn; rw [Int.tdiv_eq_ediv_of_nonneg (by omega), IntKind.wrap_i32]; omega
  have hbad : badW m n := .inr (.inr hr3)
  have hx : exA m 4 a b n = (m, 5) := by show (if badW m n then (m, (5 : Int)) else _) = _; rw [if_pos hbad]
  rw [hx]
  have HX := Lib.hid hx; clear hx
  clear hbad hr2 hr3
  have J : Hid (∀ w9 : World, Calls Try.prog 49 #[ptr g, .int .i64 4] w9 fun e w' => e = .returned (.bool false) ∧ w' = w9) := Lib.hid fun w9 => jumps49_no 4 (by omega) (by omega) (by omega) g m w9
  go_enter Try.func33, Try.ntmps33
  go_upto_region 1 with fail
  generalize w.alloc (.cells #[.int .i64 4, .int .i64 (a : Int), .int .i64 (b : Int), .int .i32 n] 63) = w1 at *
  obtain ⟨B, hB⟩ : ∃ B, w.heap.size = B := ⟨_, rfl⟩
  rw [hB] at S ⊢
  clear hB
  obtain ⟨b0, b1, b2, b3, ca, cb, ck⟩ := S.out.cells ha hb
  go_quiet (fail)
  generalize nq = n1 at *
  go_wp2_with fail
  go_quiet (fail)
  generalize nq = n2 at *
  go_upto_region 11 with fail
  have T := Lib.hid (S.out.drewN (n1 + n2))
  clear b0 b1 b2 b3 ca cb ck S
  generalize w1.drewN (n1 + n2) = w2 at *
  obtain ⟨b0, b1, b2, b3, ca, cb, ck⟩ := T.out.cells ha hb
  have fa := T.out.h.froz (1 + a)
  have c17 := T.out.h.cell 17 rfl
  go_quiet (fail)
  go_wp2_with fail
  go_ret
  exact T.out.fin hgg rfl (⟨T.out.h.h⟩ : NMem (w2.drewN _) g cv (wsl gw m.W.length) kv m l) (only_drewN _ _ _)
theorem do33_4 (g gw : Nat) (cv kv : Value) (m : Mach) (l : Int) (a b : Nat) (n : Int) (k : Ok33 g gw m a b n) (q : Nat) (hq : q < m.W.length) (hnq : n = 4 * (q : Int)) (w : World) (h : NMem w g cv (wsl gw m.W.length) kv m l) (hw : WMem w gw m.W) : DoC g gw cv kv m l 4 4 a b n w := by
  obtain ⟨hR, ha, hb, hn, hat, hl, hgg⟩ := k
  have S := Lib.hid (St.start (op := 4) (a := a) (b := b) (n := n) h hw)
  clear h hw
  unfold DoC
  obtain ⟨ha', hb', e1, e2⟩ := ab_facts hR ha hb
  have HR := Lib.hid hR; clear hR
  have x1 : n.tdiv 4 = (q : Int) := by rw [hnq]; simp
  have x2 : n.tmod 4 = 0 := by rw [hnq]; simp
  have x3 : decide (n < 0) = false := by simp; omega
  have x4 : IntKind.i64.wrap (q : Int) = (q : Int) := by rw [IntKind.wrap_i64]; omega
  have x7 : IntKind.i32.wrap (q : Int) = (q : Int) := by rw [IntKind.wrap_i32]; omega
  have x5 : decide (m.W.length ≤ q) = false := by simp; omega
  have x6 : decide ((m.W.length : Int) ≤ (q : Int)) = false := by simp; omega
  have hq' : (q : Int) < (m.W.length : Int) := by omega
  have hbad : ¬ badW m n := by unfold badW; rw [x1, x2]; omega
  have hx : exA m 4 a b n = ({ m with W := m.W.set q (m.R a) }, 1) := by show (if badW m n then (m, (5 : Int)) else ({ m with W := m.W.set (n.tdiv 4).toNat (m.R a) }, (1 : Int))) = _; rw [if_neg hbad, x1, Int.toNat_natCast]
  rw [hx]
  have HX := Lib.hid hx; clear hx
  have HNQ := Lib.hid hnq; clear hnq hbad
  have J : Hid (∀ w9 : World, Calls Try.prog 49 #[ptr g, .int .i64 4] w9 fun e w' => e = .returned (.bool false) ∧ w' = w9) := Lib.hid fun w9 => jumps49_no 4 (by omega) (by omega) (by omega) g m w9
  go_enter Try.func33, Try.ntmps33
  go_upto_region 1 with fail
  generalize w.alloc (.cells #[.int .i64 4, .int .i64 (a : Int), .int .i64 (b : Int), .int .i32 n] 63) = w1 at *
  obtain ⟨B, hB⟩ : ∃ B, w.heap.size = B := ⟨_, rfl⟩
  rw [hB] at S ⊢
  clear hB
  obtain ⟨b0, b1, b2, b3, ca, cb, ck⟩ := S.out.cells ha hb
  go_quiet (fail)
  generalize nq = n1 at *
  go_wp2_with fail
  go_quiet (fail)
  generalize nq = n2 at *
  go_upto_region 11 with fail
  have T := Lib.hid (S.out.drewN (n1 + n2))
  clear b0 b1 b2 b3 ca cb ck S
  generalize w1.drewN (n1 + n2) = w2 at *
  obtain ⟨b0, b1, b2, b3, ca, cb, ck⟩ := T.out.cells ha hb
  have fa := T.out.h.froz (1 + a)
  have c17 := T.out.h.cell 17 rfl
  have cw := T.out.hw.cell q hq
  have fw := T.out.hw.froz q
  go_quiet (fail)
  generalize nq = n3 at *
  go_wp2_with fail
  go_region
  have hwm : WMem ((w2.drewN (n3 + 1)).setCell ⟨gw, q, none⟩ (.int .i32 (m.R a))) gw (m.W.set q (m.R a)) := (show WMem (w2.drewN (n3 + 1)) gw m.W from ⟨T.out.hw.h⟩).set q (m.R a)
  have HO3 : Hid (Only [gw] w2 ((w2.drewN (n3 + 1)).setCell ⟨gw, q, none⟩ (.int .i32 (m.R a)))) := Lib.hid ((only_drewN [gw] w2 (n3 + 1)).set (g := gw) (j := q) (.int .i32 (m.R a)) (by simp))
  have HWM3 := Lib.hid hwm; clear hwm
  obtain ⟨c0, c1, c2, c3⟩ := (T.out.hB.keep HO3.out T.out.nw).cells
  have HM3 := Lib.hid (T.out.h.keep HO3.out (by simp; exact fun e => hgg e.symm))
  clear b0 b1 b2 b3 ca fa c17 cw fw
  generalize (w2.drewN (n3 + 1)).setCell ⟨gw, q, none⟩ (.int .i32 (m.R a)) = w3 at *
  go_wp2_with (go_at_call 49; with_reducible refine (J.out _).mono ?_; rintro e w9 ⟨rfl, rfl⟩)
  go_ret
  exact ⟨rfl, ⟨HM3.out.h⟩, HWM3.out, by simp, T.out.ho.trans (HO3.out.mono (by simp))⟩
theorem do33_5 (g gw : Nat) (cv kv : Value) (m : Mach) (l : Int) (a b : Nat) (n : Int) (k : Ok33 g gw m a b n) (w : World) (h : NMem w g cv (wsl gw m.W.length) kv m l) (hw : WMem w gw m.W) : DoC g gw cv kv m l 5 5 a b n w := by
  obtain ⟨hR, ha, hb, hn, hat, hl, hgg⟩ := k
  have S := Lib.hid (St.start (op := 5) (a := a) (b := b) (n := n) h hw)
  clear h hw
  unfold DoC
  obtain ⟨ha', hb', e1, e2⟩ := ab_facts hR ha hb
  have HR := Lib.hid hR; clear hR
  have ra := HR.out a ha
  have rb := HR.out b hb
  unfold I32 at ra rb
  have e3 : IntKind.i64.wrap (m.R a + m.R b) = m.R a + m.R b := by rw [IntKind.wrap_i64]; omega
  clear ra rb
  have J : Hid (∀ w9 : World, Calls Try.prog 49 #[ptr g, .int .i64 5] w9 fun e w' => e = .returned (.bool false) ∧ w' = w9) := Lib.hid fun w9 => jumps49_no 5 (by omega) (by omega) (by omega) g m w9
  go_enter Try.func33, Try.ntmps33
  go_upto_region 1 with fail
  generalize w.alloc (.cells #[.int .i64 5, .int .i64 (a : Int), .int .i64 (b : Int), .int .i32 n] 63) = w1 at *
  obtain ⟨B, hB⟩ : ∃ B, w.heap.size = B := ⟨_, rfl⟩
  rw [hB] at S ⊢
  clear hB
  obtain ⟨b0, b1, b2, b3, ca, cb, ck⟩ := S.out.cells ha hb
  go_quiet (fail)
  generalize nq = n1 at *
  go_wp2_with fail
  go_quiet (fail)
  generalize nq = n2 at *
  go_upto_region 17 with fail
  have T := Lib.hid (S.out.drewN (n1 + n2))
  clear b0 b1 b2 b3 ca cb ck S
  generalize w1.drewN (n1 + n2) = w2 at *
  obtain ⟨b0, b1, b2, b3, ca, cb, ck⟩ := T.out.cells ha hb
  have fa := T.out.h.froz (1 + a)
  go_region_law (go_simp; go_at_call 48; (with_reducible refine (flags48 g cv _ kv m l (m.R a + m.R b) _ (T.out.h.drew)).mono ?_); rintro e w3 ⟨rfl, h3, ho3, hs3⟩; have ho4 : Only [g] w2 w3 := ⟨ho3.os, ho3.tape, ho3.output, ho3.size, ho3.same⟩; obtain ⟨d0, d1, d2, d3⟩ := (T.out.hB.keep ho4 T.out.ng).cells; have ca3 := h3.cell (1 + a) (nc_reg cv _ kv _ l ha); have fa3 := h3.froz (1 + a); have H3 := Lib.hid h3; have HO4 := Lib.hid ho4; clear h3 ho4 ho3)
  all_goals
    have HM5 := Lib.hid (H3.out.set (1 + a) (.int .i32 (IntKind.i32.wrap (m.R a + m.R b))) (nc_setR cv _ kv (fl m (m.R a + m.R b)) l ha _))
    have HO5 := Lib.hid (HO4.out.set (g := g) (j := 1 + a) (.int .i32 (IntKind.i32.wrap (m.R a + m.R b))) (by simp))
    obtain ⟨f0, f1, f2, f3⟩ := (T.out.hB.keep HO5.out T.out.ng).cells
    clear b0 b1 b2 b3 ca fa d0 d1 d2 d3 ca3 fa3
    generalize w3.setCell ⟨g, 1 + a, none⟩ (.int .i32 (IntKind.i32.wrap (m.R a + m.R b))) = w5 at *
    go_wp2_with (go_at_call 49; with_reducible refine (J.out _).mono ?_; rintro e w9 ⟨rfl, rfl⟩)
    go_ret
    exact T.out.fin hgg rfl HM5.out HO5.out
theorem do33_6 (g gw : Nat) (cv kv : Value) (m : Mach) (l : Int) (a b : Nat) (n : Int) (k : Ok33 g gw m a b n) (w : World) (h : NMem w g cv (wsl gw m.W.length) kv m l) (hw : WMem w gw m.W) : DoC g gw cv kv m l 6 6 a b n w := by
  obtain ⟨hR, ha, hb, hn, hat, hl, hgg⟩ := k
  have S := Lib.hid (St.start (op := 6) (a := a) (b := b) (n := n) h hw)
  clear h hw
  unfold DoC
  obtain ⟨ha', hb', e1, e2⟩ := ab_facts hR ha hb
  have HR := Lib.hid hR; clear hR
  have e3 := or64 (m.R a) (m.R b) (HR.out a ha) (HR.out b hb)
  obtain ⟨X, hX⟩ : ∃ X, bits BinOp.or IntKind.i32 (m.R a) (m.R b) = X := ⟨_, rfl⟩
  rw [hX] at e3
  have HX0 := Lib.hid hX; clear hX
  have hx : exA m 6 a b n = resF m a X := by rw [← HX0.out]; rfl
  rw [hx]
  have HX := Lib.hid hx; clear hx
  have J : Hid (∀ w9 : World, Calls Try.prog 49 #[ptr g, .int .i64 6] w9 fun e w' => e = .returned (.bool false) ∧ w' = w9) := Lib.hid fun w9 => jumps49_no 6 (by omega) (by omega) (by omega) g m w9
  go_enter Try.func33, Try.ntmps33
  go_upto_region 1 with fail
  generalize w.alloc (.cells #[.int .i64 6, .int .i64 (a : Int), .int .i64 (b : Int), .int .i32 n] 63) = w1 at *
  obtain ⟨B, hB⟩ : ∃ B, w.heap.size = B := ⟨_, rfl⟩
  rw [hB] at S ⊢
  clear hB
  obtain ⟨b0, b1, b2, b3, ca, cb, ck⟩ := S.out.cells ha hb
  go_quiet (fail)
  generalize nq = n1 at *
  go_wp2_with fail
  go_quiet (fail)
  generalize nq = n2 at *
  go_upto_region 25 with fail
  have T := Lib.hid (S.out.drewN (n1 + n2))
  clear b0 b1 b2 b3 ca cb ck S
  generalize w1.drewN (n1 + n2) = w2 at *
  obtain ⟨b0, b1, b2, b3, ca, cb, ck⟩ := T.out.cells ha hb
  have fa := T.out.h.froz (1 + a)
  go_region_law (go_simp; go_at_call 48; (with_reducible refine (flags48 g cv _ kv m l (X) _ (T.out.h.drew)).mono ?_); rintro e w3 ⟨rfl, h3, ho3, hs3⟩; have ho4 : Only [g] w2 w3 := ⟨ho3.os, ho3.tape, ho3.output, ho3.size, ho3.same⟩; obtain ⟨d0, d1, d2, d3⟩ := (T.out.hB.keep ho4 T.out.ng).cells; have ca3 := h3.cell (1 + a) (nc_reg cv _ kv _ l ha); have fa3 := h3.froz (1 + a); have H3 := Lib.hid h3; have HO4 := Lib.hid ho4; clear h3 ho4 ho3)
  all_goals
    have HM5 := Lib.hid (H3.out.set (1 + a) (.int .i32 (IntKind.i32.wrap (X))) (nc_setR cv _ kv (fl m (X)) l ha _))
    have HO5 := Lib.hid (HO4.out.set (g := g) (j := 1 + a) (.int .i32 (IntKind.i32.wrap (X))) (by simp))
    obtain ⟨f0, f1, f2, f3⟩ := (T.out.hB.keep HO5.out T.out.ng).cells
    clear b0 b1 b2 b3 ca fa d0 d1 d2 d3 ca3 fa3
    generalize w3.setCell ⟨g, 1 + a, none⟩ (.int .i32 (IntKind.i32.wrap (X))) = w5 at *
    go_wp2_with (go_at_call 49; with_reducible refine (J.out _).mono ?_; rintro e w9 ⟨rfl, rfl⟩)
    go_ret
    exact T.out.fin hgg rfl HM5.out HO5.out
theorem do33_7 (g gw : Nat) (cv kv : Value) (m : Mach) (l : Int) (a b : Nat) (n : Int) (k : Ok33 g gw m a b n) (w : World) (h : NMem w g cv (wsl gw m.W.length) kv m l) (hw : WMem w gw m.W) : DoC g gw cv kv m l 7 7 a b n w := by
  obtain ⟨hR, ha, hb, hn, hat, hl, hgg⟩ := k
  have S := Lib.hid (St.start (op := 7) (a := a) (b := b) (n := n) h hw)
  clear h hw
  unfold DoC
  obtain ⟨ha', hb', e1, e2⟩ := ab_facts hR ha hb
  have HR := Lib.hid hR; clear hR
  have e3 := and64 (m.R a) (m.R b) (HR.out a ha) (HR.out b hb)
  obtain ⟨X, hX⟩ : ∃ X, bits BinOp.and IntKind.i32 (m.R a) (m.R b) = X := ⟨_, rfl⟩
  rw [hX] at e3
  have HX0 := Lib.hid hX; clear hX
  have hx : exA m 7 a b n = resF m a X := by rw [← HX0.out]; rfl
  rw [hx]
  have HX := Lib.hid hx; clear hx
  have J : Hid (∀ w9 : World, Calls Try.prog 49 #[ptr g, .int .i64 7] w9 fun e w' => e = .returned (.bool false) ∧ w' = w9) := Lib.hid fun w9 => jumps49_no 7 (by omega) (by omega) (by omega) g m w9
  go_enter Try.func33, Try.ntmps33
  go_upto_region 1 with fail
  generalize w.alloc (.cells #[.int .i64 7, .int .i64 (a : Int), .int .i64 (b : Int), .int .i32 n] 63) = w1 at *
  obtain ⟨B, hB⟩ : ∃ B, w.heap.size = B := ⟨_, rfl⟩
  rw [hB] at S ⊢
  clear hB
  obtain ⟨b0, b1, b2, b3, ca, cb, ck⟩ := S.out.cells ha hb
  go_quiet (fail)
  generalize nq = n1 at *
  go_wp2_with fail
  go_quiet (fail)
  generalize nq = n2 at *
  go_upto_region 27 with fail
  have T := Lib.hid (S.out.drewN (n1 + n2))
  clear b0 b1 b2 b3 ca cb ck S
  generalize w1.drewN (n1 + n2) = w2 at *
  obtain ⟨b0, b1, b2, b3, ca, cb, ck⟩ := T.out.cells ha hb
  have fa := T.out.h.froz (1 + a)
  go_region_law (go_simp; go_at_call 48; (with_reducible refine (flags48 g cv _ kv m l (X) _ (T.out.h.drew)).mono ?_); rintro e w3 ⟨rfl, h3, ho3, hs3⟩; have ho4 : Only [g] w2 w3 := ⟨ho3.os, ho3.tape, ho3.output, ho3.size, ho3.same⟩; obtain ⟨d0, d1, d2, d3⟩ := (T.out.hB.keep ho4 T.out.ng).cells; have ca3 := h3.cell (1 + a) (nc_reg cv _ kv _ l ha); have fa3 := h3.froz (1 + a); have H3 := Lib.hid h3; have HO4 := Lib.hid ho4; clear h3 ho4 ho3)
  all_goals
    have HM5 := Lib.hid (H3.out.set (1 + a) (.int .i32 (IntKind.i32.wrap (X))) (nc_setR cv _ kv (fl m (X)) l ha _))
    have HO5 := Lib.hid (HO4.out.set (g := g) (j := 1 + a) (.int .i32 (IntKind.i32.wrap (X))) (by simp))
    obtain ⟨f0, f1, f2, f3⟩ := (T.out.hB.keep HO5.out T.out.ng).cells
    clear b0 b1 b2 b3 ca fa d0 d1 d2 d3 ca3 fa3
    generalize w3.setCell ⟨g, 1 + a, none⟩ (.int .i32 (IntKind.i32.wrap (X))) = w5 at *
    go_wp2_with (go_at_call 49; with_reducible refine (J.out _).mono ?_; rintro e w9 ⟨rfl, rfl⟩)
    go_ret
    exact T.out.fin hgg rfl HM5.out HO5.out
theorem do33_8 (g gw : Nat) (cv kv : Value) (m : Mach) (l : Int) (a b : Nat) (n : Int) (k : Ok33 g gw m a b n) (w : World) (h : NMem w g cv (wsl gw m.W.length) kv m l) (hw : WMem w gw m.W) : DoC g gw cv kv m l 8 8 a b n w := by
  obtain ⟨hR, ha, hb, hn, hat, hl, hgg⟩ := k
  have S := Lib.hid (St.start (op := 8) (a := a) (b := b) (n := n) h hw)
  clear h hw
  unfold DoC
  obtain ⟨ha', hb', e1, e2⟩ := ab_facts hR ha hb
  have HR := Lib.hid hR; clear hR
  have ra := HR.out a ha
  have rb := HR.out b hb
  unfold I32 at ra rb
  have e3 : IntKind.i64.wrap (m.R a - m.R b) = m.R a - m.R b := by rw [IntKind.wrap_i64]; omega
  clear ra rb
  have J : Hid (∀ w9 : World, Calls Try.prog 49 #[ptr g, .int .i64 8] w9 fun e w' => e = .returned (.bool false) ∧ w' = w9) := Lib.hid fun w9 => jumps49_no 8 (by omega) (by omega) (by omega) g m w9
  go_enter Try.func33, Try.ntmps33
  go_upto_region 1 with fail
  generalize w.alloc (.cells #[.int .i64 8, .int .i64 (a : Int), .int .i64 (b : Int), .int .i32 n] 63) = w1 at *
  obtain ⟨B, hB⟩ : ∃ B, w.heap.size = B := ⟨_, rfl⟩
  rw [hB] at S ⊢
  clear hB
  obtain ⟨b0, b1, b2, b3, ca, cb, ck⟩ := S.out.cells ha hb
  go_quiet (fail)
  generalize nq = n1 at *
  go_wp2_with fail
  go_quiet (fail)
  generalize nq = n2 at *
  go_upto_region 19 with fail
  have T := Lib.hid (S.out.drewN (n1 + n2))
  clear b0 b1 b2 b3 ca cb ck S
  generalize w1.drewN (n1 + n2) = w2 at *
  obtain ⟨b0, b1, b2, b3, ca, cb, ck⟩ := T.out.cells ha hb
  have fa := T.out.h.froz (1 + a)
  go_region_law (go_simp; go_at_call 48; (with_reducible refine (flags48 g cv _ kv m l (m.R a - m.R b) _ (T.out.h.drew)).mono ?_); rintro e w3 ⟨rfl, h3, ho3, hs3⟩; have ho4 : Only [g] w2 w3 := ⟨ho3.os, ho3.tape, ho3.output, ho3.size, ho3.same⟩; obtain ⟨d0, d1, d2, d3⟩ := (T.out.hB.keep ho4 T.out.ng).cells; have ca3 := h3.cell (1 + a) (nc_reg cv _ kv _ l ha); have fa3 := h3.froz (1 + a); have H3 := Lib.hid h3; have HO4 := Lib.hid ho4; clear h3 ho4 ho3)
  all_goals
    have HM5 := Lib.hid (H3.out.set (1 + a) (.int .i32 (IntKind.i32.wrap (m.R a - m.R b))) (nc_setR cv _ kv (fl m (m.R a - m.R b)) l ha _))
    have HO5 := Lib.hid (HO4.out.set (g := g) (j := 1 + a) (.int .i32 (IntKind.i32.wrap (m.R a - m.R b))) (by simp))
    obtain ⟨f0, f1, f2, f3⟩ := (T.out.hB.keep HO5.out T.out.ng).cells
    clear b0 b1 b2 b3 ca fa d0 d1 d2 d3 ca3 fa3
    generalize w3.setCell ⟨g, 1 + a, none⟩ (.int .i32 (IntKind.i32.wrap (m.R a - m.R b))) = w5 at *
    go_wp2_with (go_at_call 49; with_reducible refine (J.out _).mono ?_; rintro e w9 ⟨rfl, rfl⟩)
    go_ret
    exact T.out.fin hgg rfl HM5.out HO5.out
theorem do33_9 (g gw : Nat) (cv kv : Value) (m : Mach) (l : Int) (a b : Nat) (n : Int) (k : Ok33 g gw m a b n) (w : World) (h : NMem w g cv (wsl gw m.W.length) kv m l) (hw : WMem w gw m.W) : DoC g gw cv kv m l 9 9 a b n w := by
  obtain ⟨hR, ha, hb, hn, hat, hl, hgg⟩ := k
  have S := Lib.hid (St.start (op := 9) (a := a) (b := b) (n := n) h hw)
  clear h hw
  unfold DoC
  obtain ⟨ha', hb', e1, e2⟩ := ab_facts hR ha hb
  have HR := Lib.hid hR; clear hR
  have e3 := xor64 (m.R a) (m.R b) (HR.out a ha) (HR.out b hb)
  obtain ⟨X, hX⟩ : ∃ X, bits BinOp.xor IntKind.i32 (m.R a) (m.R b) = X := ⟨_, rfl⟩
  rw [hX] at e3
  have HX0 := Lib.hid hX; clear hX
  have hx : exA m 9 a b n = resF m a X := by rw [← HX0.out]; rfl
  rw [hx]
  have HX := Lib.hid hx; clear hx
  have J : Hid (∀ w9 : World, Calls Try.prog 49 #[ptr g, .int .i64 9] w9 fun e w' => e = .returned (.bool false) ∧ w' = w9) := Lib.hid fun w9 => jumps49_no 9 (by omega) (by omega) (by omega) g m w9
  go_enter Try.func33, Try.ntmps33
  go_upto_region 1 with fail
  generalize w.alloc (.cells #[.int .i64 9, .int .i64 (a : Int), .int .i64 (b : Int), .int .i32 n] 63) = w1 at *
  obtain ⟨B, hB⟩ : ∃ B, w.heap.size = B := ⟨_, rfl⟩
  rw [hB] at S ⊢
  clear hB
  obtain ⟨b0, b1, b2, b3, ca, cb, ck⟩ := S.out.cells ha hb
  go_quiet (fail)
  generalize nq = n1 at *
  go_wp2_with fail
  go_quiet (fail)
  generalize nq = n2 at *
  go_upto_region 29 with fail
  have T := Lib.hid (S.out.drewN (n1 + n2))
  clear b0 b1 b2 b3 ca cb ck S
  generalize w1.drewN (n1 + n2) = w2 at *
  obtain ⟨b0, b1, b2, b3, ca, cb, ck⟩ := T.out.cells ha hb
  have fa := T.out.h.froz (1 + a)
  go_region_law (go_simp; go_at_call 48; (with_reducible refine (flags48 g cv _ kv m l (X) _ (T.out.h.drew)).mono ?_); rintro e w3 ⟨rfl, h3, ho3, hs3⟩; have ho4 : Only [g] w2 w3 := ⟨ho3.os, ho3.tape, ho3.output, ho3.size, ho3.same⟩; obtain ⟨d0, d1, d2, d3⟩ := (T.out.hB.keep ho4 T.out.ng).cells; have ca3 := h3.cell (1 + a) (nc_reg cv _ kv _ l ha); have fa3 := h3.froz (1 + a); have H3 := Lib.hid h3; have HO4 := Lib.hid ho4; clear h3 ho4 ho3)
  all_goals
    have HM5 := Lib.hid (H3.out.set (1 + a) (.int .i32 (IntKind.i32.wrap (X))) (nc_setR cv _ kv (fl m (X)) l ha _))
    have HO5 := Lib.hid (HO4.out.set (g := g) (j := 1 + a) (.int .i32 (IntKind.i32.wrap (X))) (by simp))
    obtain ⟨f0, f1, f2, f3⟩ := (T.out.hB.keep HO5.out T.out.ng).cells
    clear b0 b1 b2 b3 ca fa d0 d1 d2 d3 ca3 fa3
    generalize w3.setCell ⟨g, 1 + a, none⟩ (.int .i32 (IntKind.i32.wrap (X))) = w5 at *
    go_wp2_with (go_at_call 49; with_reducible refine (J.out _).mono ?_; rintro e w9 ⟨rfl, rfl⟩)
    go_ret
    exact T.out.fin hgg rfl HM5.out HO5.out
theorem do33_10 (g gw : Nat) (cv kv : Value) (m : Mach) (l : Int) (a b : Nat) (n : Int) (k : Ok33 g gw m a b n) (w : World) (h : NMem w g cv (wsl gw m.W.length) kv m l) (hw : WMem w gw m.W) : DoC g gw cv kv m l 10 10 a b n w := by
  obtain ⟨hR, ha, hb, hn, hat, hl, hgg⟩ := k
  have S := Lib.hid (St.start (op := 10) (a := a) (b := b) (n := n) h hw)
  clear h hw
  unfold DoC
  obtain ⟨ha', hb', e1, e2⟩ := ab_facts hR ha hb
  have HR := Lib.hid hR; clear hR
  have ra := HR.out a ha
  have rb := HR.out b hb
  unfold I32 at ra rb
  have e3 : IntKind.i64.wrap (m.R a - m.R b) = m.R a - m.R b := by rw [IntKind.wrap_i64]; omega
  clear ra rb
  have J : Hid (∀ w9 : World, Calls Try.prog 49 #[ptr g, .int .i64 10] w9 fun e w' => e = .returned (.bool false) ∧ w' = w9) := Lib.hid fun w9 => jumps49_no 10 (by omega) (by omega) (by omega) g m w9
  go_enter Try.func33, Try.ntmps33
  go_upto_region 1 with fail
  generalize w.alloc (.cells #[.int .i64 10, .int .i64 (a : Int), .int .i64 (b : Int), .int .i32 n] 63) = w1 at *
  obtain ⟨B, hB⟩ : ∃ B, w.heap.size = B := ⟨_, rfl⟩
  rw [hB] at S ⊢
  clear hB
  obtain ⟨b0, b1, b2, b3, ca, cb, ck⟩ := S.out.cells ha hb
  go_quiet (fail)
  generalize nq = n1 at *
  go_wp2_with fail
  go_quiet (fail)
  generalize nq = n2 at *
  go_upto_region 21 with fail
  have T := Lib.hid (S.out.drewN (n1 + n2))
  clear b0 b1 b2 b3 ca cb ck S
  generalize w1.drewN (n1 + n2) = w2 at *
  obtain ⟨b0, b1, b2, b3, ca, cb, ck⟩ := T.out.cells ha hb
  have fa := T.out.h.froz (1 + a)
  go_wp2_with (first
    | (go_at_call 48; with_reducible refine (flags48 g cv _ kv m l (m.R a - m.R b) _ T.out.h).mono ?_; rintro e w3 ⟨rfl, h3, ho3, hs3⟩; obtain ⟨d0, d1, d2, d3⟩ := (T.out.hB.keep ho3 T.out.ng).cells; have H3 := Lib.hid h3; have HO3 := Lib.hid ho3; clear h3 ho3)
    | (go_at_call 49; with_reducible refine (J.out _).mono ?_; rintro e w9 ⟨rfl, rfl⟩))
  go_ret
  exact T.out.fin hgg rfl H3.out HO3.out
end Go.Proofs.Ytpcocfdgcihpdaa.rdw
