/-
  sim.Machine: every method does its operation.
-/
import Derived.Test.YtpcocfdgcihpdaaSmC
set_option maxHeartbeats 64000000
set_option maxRecDepth 1000000
set_option linter.unusedVariables false
set_option linter.unusedSimpArgs false
namespace Go.Proofs.Ytpcocfdgcihpdaa.rdw
open Go Go.RowKit Go.BigFrame
open Go.Proofs.Ytpcocfdgcihpdaa Go.Proofs.Ytpcocfdgcihpdaa.wr Go.Proofs.Ytpcocfdgcihpdaa.x86enc
set_option linter.unusedVariables false
set_option linter.unusedSimpArgs false
theorem does31_all (g : Nat) (cv rv wv : Value) (m : Mach) (op : Nat) (a b n : Int) (f : Nat) (w : World) (h : SMem w g cv rv wv m op a b n) (h1 : 1 ≤ op) (h2 : op ≤ 26)
    (hf : f = if op = 1 ∨ op = 2 ∨ op = 13 then 39 else if op = 3 ∨ op = 4 then 40 else if op = 5 ∨ op = 8 ∨ op = 10 ∨ op = 12 then 41 else if op = 6 ∨ op = 7 ∨ op = 9 then 42 else if op = 11 ∨ op = 15 ∨ op = 16 ∨ op = 17 then 43 else if op = 14 then 44 else if op = 25 ∨ op = 26 then 45 else 46) :
    Calls Try.prog 31 #[ptr g] w fun e w' => e = .returned (.func (.func f) #[] #[]) ∧ w' = w := by
  have c25 := h.cell 25 rfl
  have H := Lib.hid h; clear h
  rcases RD.op_cases op h1 h2 with e | e | e | e | e | e | e | e | e | e | e | e | e | e | e | e | e | e | e | e | e | e | e | e | e | e <;> subst e <;>
    (simp at hf; subst hf
     go_enter Try.func31, Try.ntmps31
     go_wp2_with fail
     go_ret
     exact ⟨rfl, rfl⟩)
theorem move39_2 (g : Nat) (cv rv wv : Value) (m : Mach) (a b : Nat) (n : Int) (w : World) (ha : a < 16) (hb : b < 16) (h : SMem w g cv rv wv m 2 a b n) :
    Calls Try.prog 39 #[ptr g] w fun e w' => e = .returned (.int .i64 1) ∧ SMem w' g cv rv wv { m with R := upd m.R a (m.R b) } 2 a b n ∧ Only [g] w w' := by
  have c25 := h.cell 25 rfl
  have c26 := h.cell 26 rfl
  have c27 := h.cell 27 rfl
  have ca := h.cell (2 + a) (mc_reg cv rv wv m 2 a b n ha)
  have cb := h.cell (2 + b) (mc_reg cv rv wv m 2 a b n hb)
  have fr := h.froz (2 + a)
  have H := Lib.hid h; clear h
  have ha' : (a : Int) < 16 := by omega
  have hb' : (b : Int) < 16 := by omega
  go_enter Try.func39, Try.ntmps39
  go_wp2_with fail
  go_region
  have hm1 : SMem ((w.setCell ⟨g, 2 + a, none⟩ (.int .i32 (m.R b))).drew) g cv rv wv { m with R := upd m.R a (m.R b) } 2 a b n := (H.out.set (2 + a) _ (mc_setR cv rv wv m 2 a b n ha _)).drew
  have ho1 : Only [g] w ((w.setCell ⟨g, 2 + a, none⟩ (.int .i32 (m.R b))).drew) := ((Only.refl _ _).set _ (by simp)).drew
  have HM1 := Lib.hid hm1; clear hm1
  have HO1 := Lib.hid ho1; clear ho1
  clear c25 c26 c27 ca cb fr
  generalize (w.setCell ⟨g, 2 + a, none⟩ (.int .i32 (m.R b))).drew = w1 at *
  go_wp2_with fail
  go_ret
  exact ⟨rfl, HM1.out, HO1.out⟩
theorem move39_13 (g : Nat) (cv rv wv : Value) (m : Mach) (a b n : Int) (w : World) (h : SMem w g cv rv wv m 13 a b n) :
    Calls Try.prog 39 #[ptr g] w fun e w' => e = .returned (.int .i64 1) ∧ SMem w' g cv rv wv { m with R := upd m.R 2 (m.R 0 / 2147483648) } 13 a b n ∧ Only [g] w w' := by
  have c25 := h.cell 25 rfl
  have c2 := h.cell 2 rfl
  have c4 := h.cell 4 rfl
  have fr := h.froz 4
  have H := Lib.hid h; clear h
  go_enter Try.func39, Try.ntmps39
  go_wp2_with fail
  go_region
  have HM1 := Lib.hid ((H.out.set 4 (.int .i32 (m.R 0 / 2147483648)) (mc_setR cv rv wv m 13 a b n (r := 2) (by omega) _)).drew)
  have HO1 := Lib.hid (((Only.refl [g] w).set (g := g) (j := 4) (.int .i32 (m.R 0 / 2147483648)) (by simp)).drew)
  clear c25 c2 c4 fr
  generalize (w.setCell ⟨g, 4, none⟩ (.int .i32 (m.R 0 / 2147483648))).drew = w1 at *
  go_wp2_with fail
  go_ret
  exact ⟨rfl, HM1.out, HO1.out⟩
theorem bits_rng (o : BinOp) (x y : Int) (h : o = .or ∨ o = .and ∨ o = .xor) : I32 (bits o IntKind.i32 x y) := by
  have key : ∃ v, bits o IntKind.i32 x y = IntKind.i32.wrap v := by
    rcases h with rfl | rfl | rfl <;> exact ⟨_, rfl⟩
  obtain ⟨v, hv⟩ := key
  rw [hv]; exact w32_rng v
theorem and31_i32 (x : Int) (h : I32 x) : bits BinOp.and IntKind.i32 x 31 = x % 32 := by
  have e : (BitVec.ofInt 32 x &&& BitVec.ofInt 32 31).toNat = (x % 32).toNat := by
    rw [BitVec.toNat_and, BitVec.toNat_ofInt, show (BitVec.ofInt 32 31).toNat = 2 ^ 5 - 1 by decide, Nat.and_two_pow_sub_one_eq_mod]
    omega
  show IntKind.i32.wrap ((BitVec.ofInt 32 x &&& BitVec.ofInt 32 31).toNat : Int) = _
  rw [e, IntKind.wrap_i32]; omega
theorem and31_u64 (x : Int) : bits BinOp.and IntKind.u64 (x % 18446744073709551616) 31 = x % 32 := by
  have e : (BitVec.ofInt 64 (x % 18446744073709551616) &&& BitVec.ofInt 64 31).toNat = (x % 32).toNat := by
    rw [BitVec.toNat_and, BitVec.toNat_ofInt, show (BitVec.ofInt 64 31).toNat = 2 ^ 5 - 1 by decide, Nat.and_two_pow_sub_one_eq_mod]
    omega
  show IntKind.u64.wrap ((BitVec.ofInt 64 (x % 18446744073709551616) &&& BitVec.ofInt 64 31).toNat : Int) = _
  rw [e, IntKind.wrap_u64]; omega
theorem other43_11 (g : Nat) (cv rv wv : Value) (m : Mach) (a b : Nat) (n : Int) (hR : RegOk m) (ha : a < 16) (hb : b < 16)  (w : World) (h : SMem w g cv rv wv m 11 a b n) :
    Calls Try.prog 43 #[ptr g] w fun e w' => e = .returned (.int .i64 1) ∧ SMem w' g cv rv wv { m with R := upd m.R a (wrap32 (m.R a * m.R b)) } 11 a b n ∧ Only [g] w w' := by
  have c25 := h.cell 25 rfl
  have c26 := h.cell 26 rfl
  have c27 := h.cell 27 rfl
  have c3 := h.cell 3 rfl
  have ca := h.cell (2 + a) (mc_reg cv rv wv m 11 a b n ha)
  have cb := h.cell (2 + b) (mc_reg cv rv wv m 11 a b n hb)
  have fa := h.froz (2 + a)
  have H := Lib.hid h; clear h
  have ha' : (a : Int) < 16 := by omega
  have hb' : (b : Int) < 16 := by omega
  have ra := hR a ha
  have rb := hR b hb
  have r1 := hR 1 (by omega)
  unfold I32 at ra rb r1
  have e1 : IntKind.i64.wrap (m.R a) = m.R a := by rw [IntKind.wrap_i64]; omega
  have e2 : IntKind.i64.wrap (m.R b) = m.R b := by rw [IntKind.wrap_i64]; omega
  go_enter Try.func43, Try.ntmps43
  go_wp2_with fail
  go_quiet (fail)
  go_wp2_with fail
  go_region
  have HM1 : Hid (SMem ((w.drewN (nq + 1)).setCell ⟨g, 2 + a, none⟩ (.int .i32 (wrap32 (m.R a * m.R b)))) g cv rv wv { m with R := upd m.R a (wrap32 (m.R a * m.R b)) } 11 a b n) := Lib.hid ((show SMem ((w.drewN (nq + 1))) g cv rv wv m 11 a b n from ⟨H.out.h⟩).set (2 + a) (.int .i32 (wrap32 (m.R a * m.R b))) (mc_setR cv rv wv m 11 a b n ha _))
  have HO1 : Hid (Only [g] w ((w.drewN (nq + 1)).setCell ⟨g, 2 + a, none⟩ (.int .i32 (wrap32 (m.R a * m.R b))))) := Lib.hid ((show Only [g] w ((w.drewN (nq + 1))) from ⟨rfl, rfl, rfl, Nat.le_refl _, fun _ _ _ => rfl⟩).set (j := 2 + a) (.int .i32 (wrap32 (m.R a * m.R b))) (by simp))
  generalize (w.drewN (nq + 1)).setCell ⟨g, 2 + a, none⟩ (.int .i32 (wrap32 (m.R a * m.R b))) = w9 at *
  go_wp2_with fail
  go_ret
  exact ⟨rfl, HM1.out, HO1.out⟩
theorem other43_15 (g : Nat) (cv rv wv : Value) (m : Mach) (a b : Nat) (n : Int) (hR : RegOk m) (ha : a < 16) (hb : b < 16)  (w : World) (h : SMem w g cv rv wv m 15 a b n) :
    Calls Try.prog 43 #[ptr g] w fun e w' => e = .returned (.int .i64 1) ∧ SMem w' g cv rv wv { m with R := upd m.R a (wrap32 (m.R a * 2 ^ (m.R 1 % 32).toNat)) } 15 a b n ∧ Only [g] w w' := by
  have c25 := h.cell 25 rfl
  have c26 := h.cell 26 rfl
  have c27 := h.cell 27 rfl
  have c3 := h.cell 3 rfl
  have ca := h.cell (2 + a) (mc_reg cv rv wv m 15 a b n ha)
  have cb := h.cell (2 + b) (mc_reg cv rv wv m 15 a b n hb)
  have fa := h.froz (2 + a)
  have H := Lib.hid h; clear h
  have ha' : (a : Int) < 16 := by omega
  have hb' : (b : Int) < 16 := by omega
  have ra := hR a ha
  have rb := hR b hb
  have r1 := hR 1 (by omega)
  unfold I32 at ra rb r1
  have e1 : IntKind.i64.wrap (m.R a) = m.R a := by rw [IntKind.wrap_i64]; omega
  have e2 : IntKind.i64.wrap (m.R b) = m.R b := by rw [IntKind.wrap_i64]; omega
  have hk0 := and31_i32 (m.R 1) (hR 1 (by omega))
  obtain ⟨K, hK, hK0, hK1⟩ : ∃ K : Int, m.R 1 % 32 = K ∧ 0 ≤ K ∧ K ≤ 31 := ⟨_, rfl, by omega, by omega⟩
  rw [hK] at hk0 ⊢
  have HKK := Lib.hid hK; clear hK
  have hKd : decide (K < 0) = false := by simp; omega
  go_enter Try.func43, Try.ntmps43
  go_wp2_with fail
  go_quiet (fail)
  go_wp2_with fail
  have HM1 : Hid (SMem ((w.drewN nq).setCell ⟨g, 2 + a, none⟩ (.int .i32 (wrap32 (m.R a * 2 ^ K.toNat)))) g cv rv wv { m with R := upd m.R a (wrap32 (m.R a * 2 ^ K.toNat)) } 15 a b n) := Lib.hid ((show SMem ((w.drewN nq)) g cv rv wv m 15 a b n from ⟨H.out.h⟩).set (2 + a) (.int .i32 (wrap32 (m.R a * 2 ^ K.toNat))) (mc_setR cv rv wv m 15 a b n ha _))
  have HO1 : Hid (Only [g] w ((w.drewN nq).setCell ⟨g, 2 + a, none⟩ (.int .i32 (wrap32 (m.R a * 2 ^ K.toNat))))) := Lib.hid ((show Only [g] w ((w.drewN nq)) from ⟨rfl, rfl, rfl, Nat.le_refl _, fun _ _ _ => rfl⟩).set (j := 2 + a) (.int .i32 (wrap32 (m.R a * 2 ^ K.toNat))) (by simp))
  go_ret
  exact ⟨rfl, HM1.out, HO1.out⟩
theorem other43_16 (g : Nat) (cv rv wv : Value) (m : Mach) (a b : Nat) (n : Int) (hR : RegOk m) (ha : a < 16) (hb : b < 16)  (w : World) (h : SMem w g cv rv wv m 16 a b n) :
    Calls Try.prog 43 #[ptr g] w fun e w' => e = .returned (.int .i64 1) ∧ SMem w' g cv rv wv { m with R := upd m.R a (m.R a / 2 ^ (m.R 1 % 32).toNat) } 16 a b n ∧ Only [g] w w' := by
  have c25 := h.cell 25 rfl
  have c26 := h.cell 26 rfl
  have c27 := h.cell 27 rfl
  have c3 := h.cell 3 rfl
  have ca := h.cell (2 + a) (mc_reg cv rv wv m 16 a b n ha)
  have cb := h.cell (2 + b) (mc_reg cv rv wv m 16 a b n hb)
  have fa := h.froz (2 + a)
  have H := Lib.hid h; clear h
  have ha' : (a : Int) < 16 := by omega
  have hb' : (b : Int) < 16 := by omega
  have ra := hR a ha
  have rb := hR b hb
  have r1 := hR 1 (by omega)
  unfold I32 at ra rb r1
  have e1 : IntKind.i64.wrap (m.R a) = m.R a := by rw [IntKind.wrap_i64]; omega
  have e2 : IntKind.i64.wrap (m.R b) = m.R b := by rw [IntKind.wrap_i64]; omega
  have hk0 := and31_i32 (m.R 1) (hR 1 (by omega))
  obtain ⟨K, hK, hK0, hK1⟩ : ∃ K : Int, m.R 1 % 32 = K ∧ 0 ≤ K ∧ K ≤ 31 := ⟨_, rfl, by omega, by omega⟩
  rw [hK] at hk0 ⊢
  have HKK := Lib.hid hK; clear hK
  have hKd : decide (K < 0) = false := by simp; omega
  go_enter Try.func43, Try.ntmps43
  go_wp2_with fail
  go_quiet (fail)
  go_wp2_with fail
  have HM1 : Hid (SMem ((w.drewN nq).setCell ⟨g, 2 + a, none⟩ (.int .i32 (m.R a / 2 ^ K.toNat))) g cv rv wv { m with R := upd m.R a (m.R a / 2 ^ K.toNat) } 16 a b n) := Lib.hid ((show SMem ((w.drewN nq)) g cv rv wv m 16 a b n from ⟨H.out.h⟩).set (2 + a) (.int .i32 (m.R a / 2 ^ K.toNat)) (mc_setR cv rv wv m 16 a b n ha _))
  have HO1 : Hid (Only [g] w ((w.drewN nq).setCell ⟨g, 2 + a, none⟩ (.int .i32 (m.R a / 2 ^ K.toNat)))) := Lib.hid ((show Only [g] w ((w.drewN nq)) from ⟨rfl, rfl, rfl, Nat.le_refl _, fun _ _ _ => rfl⟩).set (j := 2 + a) (.int .i32 (m.R a / 2 ^ K.toNat)) (by simp))
  go_ret
  exact ⟨rfl, HM1.out, HO1.out⟩
theorem other43_17 (g : Nat) (cv rv wv : Value) (m : Mach) (a b : Nat) (n : Int) (hR : RegOk m) (ha : a < 16) (hb : b < 16)  (w : World) (h : SMem w g cv rv wv m 17 a b n) :
    Calls Try.prog 43 #[ptr g] w fun e w' => e = .returned (.int .i64 1) ∧ SMem w' g cv rv wv { m with R := upd m.R a (wrap32 (m.R a % 4294967296 / 2 ^ (m.R 1 % 32).toNat)) } 17 a b n ∧ Only [g] w w' := by
  have c25 := h.cell 25 rfl
  have c26 := h.cell 26 rfl
  have c27 := h.cell 27 rfl
  have c3 := h.cell 3 rfl
  have ca := h.cell (2 + a) (mc_reg cv rv wv m 17 a b n ha)
  have cb := h.cell (2 + b) (mc_reg cv rv wv m 17 a b n hb)
  have fa := h.froz (2 + a)
  have H := Lib.hid h; clear h
  have ha' : (a : Int) < 16 := by omega
  have hb' : (b : Int) < 16 := by omega
  have ra := hR a ha
  have rb := hR b hb
  have r1 := hR 1 (by omega)
  unfold I32 at ra rb r1
  have e1 : IntKind.i64.wrap (m.R a) = m.R a := by rw [IntKind.wrap_i64]; omega
  have e2 : IntKind.i64.wrap (m.R b) = m.R b := by rw [IntKind.wrap_i64]; omega
  have hk0 := and31_i32 (m.R 1) (hR 1 (by omega))
  obtain ⟨K, hK, hK0, hK1⟩ : ∃ K : Int, m.R 1 % 32 = K ∧ 0 ≤ K ∧ K ≤ 31 := ⟨_, rfl, by omega, by omega⟩
  rw [hK] at hk0 ⊢
  have HKK := Lib.hid hK; clear hK
  have hKd : decide (K < 0) = false := by simp; omega
  go_enter Try.func43, Try.ntmps43
  go_wp2_with fail
  go_quiet (fail)
  go_wp2_with fail
  have HM1 : Hid (SMem ((w.drewN nq).setCell ⟨g, 2 + a, none⟩ (.int .i32 (wrap32 (m.R a % 4294967296 / 2 ^ K.toNat)))) g cv rv wv { m with R := upd m.R a (wrap32 (m.R a % 4294967296 / 2 ^ K.toNat)) } 17 a b n) := Lib.hid ((show SMem ((w.drewN nq)) g cv rv wv m 17 a b n from ⟨H.out.h⟩).set (2 + a) (.int .i32 (wrap32 (m.R a % 4294967296 / 2 ^ K.toNat))) (mc_setR cv rv wv m 17 a b n ha _))
  have HO1 : Hid (Only [g] w ((w.drewN nq).setCell ⟨g, 2 + a, none⟩ (.int .i32 (wrap32 (m.R a % 4294967296 / 2 ^ K.toNat))))) := Lib.hid ((show Only [g] w ((w.drewN nq)) from ⟨rfl, rfl, rfl, Nat.le_refl _, fun _ _ _ => rfl⟩).set (j := 2 + a) (.int .i32 (wrap32 (m.R a % 4294967296 / 2 ^ K.toNat))) (by simp))
  go_ret
  exact ⟨rfl, HM1.out, HO1.out⟩
theorem sum41_8 (g : Nat) (cv rv wv : Value) (m : Mach) (a b : Nat) (n : Int) (hR : RegOk m) (ha : a < 16) (hb : b < 16)  (w : World) (h : SMem w g cv rv wv m 8 a b n) :
    Calls Try.prog 41 #[ptr g] w fun e w' => e = .returned (.int .i64 1) ∧ SMem w' g cv rv wv { fl m (m.R a - m.R b) with R := upd m.R a (IntKind.i32.wrap (m.R a - m.R b)) } 8 a b n ∧ Only [g] w w' := by
  have c25 := h.cell 25 rfl
  have c26 := h.cell 26 rfl
  have c27 := h.cell 27 rfl
  have c3 := h.cell 3 rfl
  have ca := h.cell (2 + a) (mc_reg cv rv wv m 8 a b n ha)
  have cb := h.cell (2 + b) (mc_reg cv rv wv m 8 a b n hb)
  have fa := h.froz (2 + a)
  have H := Lib.hid h; clear h
  have ha' : (a : Int) < 16 := by omega
  have hb' : (b : Int) < 16 := by omega
  have ra := hR a ha
  have rb := hR b hb
  have r1 := hR 1 (by omega)
  unfold I32 at ra rb r1
  have e1 : IntKind.i64.wrap (m.R a) = m.R a := by rw [IntKind.wrap_i64]; omega
  have e2 : IntKind.i64.wrap (m.R b) = m.R b := by rw [IntKind.wrap_i64]; omega
  have e3 : IntKind.i64.wrap (m.R a - m.R b) = m.R a - m.R b := by rw [IntKind.wrap_i64]; omega
  go_enter Try.func41, Try.ntmps41
  go_wp2_with fail
  go_quiet (fail)
  go_wp2_with fail
  have H1 : Hid (SMem (w.drewN nq) g cv rv wv m 8 a b n) := Lib.hid ⟨H.out.h⟩
  have HO : Hid (Only [g] w (w.drewN nq)) := Lib.hid ⟨rfl, rfl, rfl, Nat.le_refl _, fun _ _ _ => rfl⟩
  have c26' : (w.drewN nq).cell? ⟨g, 26, none⟩ = some (.int .i64 (a : Int)) := c26
  clear c25 c26 c27 ca cb fa c3
  generalize w.drewN nq = w1 at *
  go_region_law (go_simp; go_at_call 52; refine (flags52 g cv rv wv m 8 a b n (m.R a - m.R b) _ (show SMem w1.drew g cv rv wv m 8 a b n from H1.out.drew)).mono ?_; rintro e w2 ⟨rfl, h2, ho2, hs2⟩; have ho3 : Only [g] w1 w2 := ⟨ho2.os, ho2.tape, ho2.output, ho2.size, ho2.same⟩; have c26'' := h2.cell 26 rfl; have ca'' := h2.cell (2 + a) (mc_reg cv rv wv _ 8 a b n ha); have fa'' := h2.froz (2 + a); have H2 := Lib.hid h2; clear h2)
  all_goals go_wp2
  all_goals go_ret
  all_goals exact ⟨rfl, H2.out.set (2 + a) _ (mc_setR cv rv wv (fl m (m.R a - m.R b)) 8 a b n ha _), (HO.out.trans ho3).set _ (by simp)⟩
theorem sum41_12 (g : Nat) (cv rv wv : Value) (m : Mach) (a b : Nat) (n : Int) (hR : RegOk m) (ha : a < 16) (hb : b < 16)  (w : World) (h : SMem w g cv rv wv m 12 a b n) :
    Calls Try.prog 41 #[ptr g] w fun e w' => e = .returned (.int .i64 1) ∧ SMem w' g cv rv wv { fl m (-m.R a) with R := upd m.R a (IntKind.i32.wrap (-m.R a)) } 12 a b n ∧ Only [g] w w' := by
  have c25 := h.cell 25 rfl
  have c26 := h.cell 26 rfl
  have c27 := h.cell 27 rfl
  have c3 := h.cell 3 rfl
  have ca := h.cell (2 + a) (mc_reg cv rv wv m 12 a b n ha)
  have cb := h.cell (2 + b) (mc_reg cv rv wv m 12 a b n hb)
  have fa := h.froz (2 + a)
  have H := Lib.hid h; clear h
  have ha' : (a : Int) < 16 := by omega
  have hb' : (b : Int) < 16 := by omega
  have ra := hR a ha
  have rb := hR b hb
  have r1 := hR 1 (by omega)
  unfold I32 at ra rb r1
  have e1 : IntKind.i64.wrap (m.R a) = m.R a := by rw [IntKind.wrap_i64]; omega
  have e2 : IntKind.i64.wrap (m.R b) = m.R b := by rw [IntKind.wrap_i64]; omega
  have e3 : IntKind.i64.wrap (-m.R a) = -m.R a := by rw [IntKind.wrap_i64]; omega
  go_enter Try.func41, Try.ntmps41
  go_wp2_with fail
  go_quiet (fail)
  go_wp2_with fail
  have H1 : Hid (SMem (w.drewN nq) g cv rv wv m 12 a b n) := Lib.hid ⟨H.out.h⟩
  have HO : Hid (Only [g] w (w.drewN nq)) := Lib.hid ⟨rfl, rfl, rfl, Nat.le_refl _, fun _ _ _ => rfl⟩
  have c26' : (w.drewN nq).cell? ⟨g, 26, none⟩ = some (.int .i64 (a : Int)) := c26
  clear c25 c26 c27 ca cb fa c3
  generalize w.drewN nq = w1 at *
  go_region_law (go_simp; go_at_call 52; refine (flags52 g cv rv wv m 12 a b n (-m.R a) _ (show SMem w1.drew g cv rv wv m 12 a b n from H1.out.drew)).mono ?_; rintro e w2 ⟨rfl, h2, ho2, hs2⟩; have ho3 : Only [g] w1 w2 := ⟨ho2.os, ho2.tape, ho2.output, ho2.size, ho2.same⟩; have c26'' := h2.cell 26 rfl; have ca'' := h2.cell (2 + a) (mc_reg cv rv wv _ 12 a b n ha); have fa'' := h2.froz (2 + a); have H2 := Lib.hid h2; clear h2)
  all_goals go_wp2
  all_goals go_ret
  all_goals exact ⟨rfl, H2.out.set (2 + a) _ (mc_setR cv rv wv (fl m (-m.R a)) 12 a b n ha _), (HO.out.trans ho3).set _ (by simp)⟩
theorem sum41_10 (g : Nat) (cv rv wv : Value) (m : Mach) (a b : Nat) (n : Int) (hR : RegOk m) (ha : a < 16) (hb : b < 16)  (w : World) (h : SMem w g cv rv wv m 10 a b n) :
    Calls Try.prog 41 #[ptr g] w fun e w' => e = .returned (.int .i64 1) ∧ SMem w' g cv rv wv (fl m (m.R a - m.R b)) 10 a b n ∧ Only [g] w w' := by
  have c25 := h.cell 25 rfl
  have c26 := h.cell 26 rfl
  have c27 := h.cell 27 rfl
  have c3 := h.cell 3 rfl
  have ca := h.cell (2 + a) (mc_reg cv rv wv m 10 a b n ha)
  have cb := h.cell (2 + b) (mc_reg cv rv wv m 10 a b n hb)
  have fa := h.froz (2 + a)
  have H := Lib.hid h; clear h
  have ha' : (a : Int) < 16 := by omega
  have hb' : (b : Int) < 16 := by omega
  have ra := hR a ha
  have rb := hR b hb
  have r1 := hR 1 (by omega)
  unfold I32 at ra rb r1
  have e1 : IntKind.i64.wrap (m.R a) = m.R a := by rw [IntKind.wrap_i64]; omega
  have e2 : IntKind.i64.wrap (m.R b) = m.R b := by rw [IntKind.wrap_i64]; omega
  have e3 : IntKind.i64.wrap (m.R a - m.R b) = m.R a - m.R b := by rw [IntKind.wrap_i64]; omega
  go_enter Try.func41, Try.ntmps41
  go_wp2_with fail
  go_quiet (fail)
  have H1 : Hid (SMem (w.drewN nq) g cv rv wv m 10 a b n) := Lib.hid ⟨H.out.h⟩
  have HO : Hid (Only [g] w (w.drewN nq)) := Lib.hid ⟨rfl, rfl, rfl, Nat.le_refl _, fun _ _ _ => rfl⟩
  have c26' : (w.drewN nq).cell? ⟨g, 26, none⟩ = some (.int .i64 (a : Int)) := c26
  clear c25 c26 c27 ca cb fa c3
  generalize w.drewN nq = w1 at *
  have c25' : w1.cell? ⟨g, 25, none⟩ = some (.int .i64 10) := H1.out.cell 25 rfl
  go_wp2_with (go_at_call 52; with_reducible refine (flags52 g cv rv wv m 10 a b n (m.R a - m.R b) _ H1.out).mono ?_; rintro e w2 ⟨rfl, h2, ho2, hs2⟩; have H2 := Lib.hid h2; clear h2)
  go_ret
  exact ⟨rfl, H2.out, HO.out.trans ho2⟩
theorem logic42_6 (g : Nat) (cv rv wv : Value) (m : Mach) (a b : Nat) (n : Int) (hR : RegOk m) (ha : a < 16) (hb : b < 16)  (w : World) (h : SMem w g cv rv wv m 6 a b n) :
    Calls Try.prog 42 #[ptr g] w fun e w' => e = .returned (.int .i64 1) ∧ SMem w' g cv rv wv { fl m (bits BinOp.or IntKind.i32 (m.R a) (m.R b)) with R := upd m.R a (IntKind.i32.wrap (bits BinOp.or IntKind.i32 (m.R a) (m.R b))) } 6 a b n ∧ Only [g] w w' := by
  have c25 := h.cell 25 rfl
  have c26 := h.cell 26 rfl
  have c27 := h.cell 27 rfl
  have c3 := h.cell 3 rfl
  have ca := h.cell (2 + a) (mc_reg cv rv wv m 6 a b n ha)
  have cb := h.cell (2 + b) (mc_reg cv rv wv m 6 a b n hb)
  have fa := h.froz (2 + a)
  have H := Lib.hid h; clear h
  have ha' : (a : Int) < 16 := by omega
  have hb' : (b : Int) < 16 := by omega
  have ra := hR a ha
  have rb := hR b hb
  have r1 := hR 1 (by omega)
  unfold I32 at ra rb r1
  have e1 : IntKind.i64.wrap (m.R a) = m.R a := by rw [IntKind.wrap_i64]; omega
  have e2 : IntKind.i64.wrap (m.R b) = m.R b := by rw [IntKind.wrap_i64]; omega
  have hbr : I32 (bits BinOp.or IntKind.i32 (m.R a) (m.R b)) := bits_rng _ _ _ (by simp)
  unfold I32 at hbr
  have e3 : IntKind.i64.wrap (bits BinOp.or IntKind.i32 (m.R a) (m.R b)) = bits BinOp.or IntKind.i32 (m.R a) (m.R b) := by rw [IntKind.wrap_i64]; omega
  go_enter Try.func42, Try.ntmps42
  go_wp2_with fail
  go_quiet (fail)
  go_wp2_with fail
  have H1 : Hid (SMem (w.drewN nq) g cv rv wv m 6 a b n) := Lib.hid ⟨H.out.h⟩
  have HO : Hid (Only [g] w (w.drewN nq)) := Lib.hid ⟨rfl, rfl, rfl, Nat.le_refl _, fun _ _ _ => rfl⟩
  have c26' : (w.drewN nq).cell? ⟨g, 26, none⟩ = some (.int .i64 (a : Int)) := c26
  clear c25 c26 c27 ca cb fa c3
  generalize w.drewN nq = w1 at *
  go_region_law (go_simp; go_at_call 52; refine (flags52 g cv rv wv m 6 a b n (bits BinOp.or IntKind.i32 (m.R a) (m.R b)) _ (show SMem w1.drew g cv rv wv m 6 a b n from H1.out.drew)).mono ?_; rintro e w2 ⟨rfl, h2, ho2, hs2⟩; have ho3 : Only [g] w1 w2 := ⟨ho2.os, ho2.tape, ho2.output, ho2.size, ho2.same⟩; have c26'' := h2.cell 26 rfl; have ca'' := h2.cell (2 + a) (mc_reg cv rv wv _ 6 a b n ha); have fa'' := h2.froz (2 + a); have H2 := Lib.hid h2; clear h2)
  all_goals go_wp2
  all_goals go_ret
  all_goals exact ⟨rfl, H2.out.set (2 + a) _ (mc_setR cv rv wv (fl m (bits BinOp.or IntKind.i32 (m.R a) (m.R b))) 6 a b n ha _), (HO.out.trans ho3).set _ (by simp)⟩
theorem logic42_7 (g : Nat) (cv rv wv : Value) (m : Mach) (a b : Nat) (n : Int) (hR : RegOk m) (ha : a < 16) (hb : b < 16)  (w : World) (h : SMem w g cv rv wv m 7 a b n) :
    Calls Try.prog 42 #[ptr g] w fun e w' => e = .returned (.int .i64 1) ∧ SMem w' g cv rv wv { fl m (bits BinOp.and IntKind.i32 (m.R a) (m.R b)) with R := upd m.R a (IntKind.i32.wrap (bits BinOp.and IntKind.i32 (m.R a) (m.R b))) } 7 a b n ∧ Only [g] w w' := by
  have c25 := h.cell 25 rfl
  have c26 := h.cell 26 rfl
  have c27 := h.cell 27 rfl
  have c3 := h.cell 3 rfl
  have ca := h.cell (2 + a) (mc_reg cv rv wv m 7 a b n ha)
  have cb := h.cell (2 + b) (mc_reg cv rv wv m 7 a b n hb)
  have fa := h.froz (2 + a)
  have H := Lib.hid h; clear h
  have ha' : (a : Int) < 16 := by omega
  have hb' : (b : Int) < 16 := by omega
  have ra := hR a ha
  have rb := hR b hb
  have r1 := hR 1 (by omega)
  unfold I32 at ra rb r1
  have e1 : IntKind.i64.wrap (m.R a) = m.R a := by rw [IntKind.wrap_i64]; omega
  have e2 : IntKind.i64.wrap (m.R b) = m.R b := by rw [IntKind.wrap_i64]; omega
  have hbr : I32 (bits BinOp.and IntKind.i32 (m.R a) (m.R b)) := bits_rng _ _ _ (by simp)
  unfold I32 at hbr
  have e3 : IntKind.i64.wrap (bits BinOp.and IntKind.i32 (m.R a) (m.R b)) = bits BinOp.and IntKind.i32 (m.R a) (m.R b) := by rw [IntKind.wrap_i64]; omega
  go_enter Try.func42, Try.ntmps42
  go_wp2_with fail
  go_quiet (fail)
  go_wp2_with fail
  have H1 : Hid (SMem (w.drewN nq) g cv rv wv m 7 a b n) := Lib.hid ⟨H.out.h⟩
  have HO : Hid (Only [g] w (w.drewN nq)) := Lib.hid ⟨rfl, rfl, rfl, Nat.le_refl _, fun _ _ _ => rfl⟩
  have c26' : (w.drewN nq).cell? ⟨g, 26, none⟩ = some (.int .i64 (a : Int)) := c26
  clear c25 c26 c27 ca cb fa c3
  generalize w.drewN nq = w1 at *
  go_region_law (go_simp; go_at_call 52; refine (flags52 g cv rv wv m 7 a b n (bits BinOp.and IntKind.i32 (m.R a) (m.R b)) _ (show SMem w1.drew g cv rv wv m 7 a b n from H1.out.drew)).mono ?_; rintro e w2 ⟨rfl, h2, ho2, hs2⟩; have ho3 : Only [g] w1 w2 := ⟨ho2.os, ho2.tape, ho2.output, ho2.size, ho2.same⟩; have c26'' := h2.cell 26 rfl; have ca'' := h2.cell (2 + a) (mc_reg cv rv wv _ 7 a b n ha); have fa'' := h2.froz (2 + a); have H2 := Lib.hid h2; clear h2)
  all_goals go_wp2
  all_goals go_ret
  all_goals exact ⟨rfl, H2.out.set (2 + a) _ (mc_setR cv rv wv (fl m (bits BinOp.and IntKind.i32 (m.R a) (m.R b))) 7 a b n ha _), (HO.out.trans ho3).set _ (by simp)⟩
theorem logic42_9 (g : Nat) (cv rv wv : Value) (m : Mach) (a b : Nat) (n : Int) (hR : RegOk m) (ha : a < 16) (hb : b < 16)  (w : World) (h : SMem w g cv rv wv m 9 a b n) :
    Calls Try.prog 42 #[ptr g] w fun e w' => e = .returned (.int .i64 1) ∧ SMem w' g cv rv wv { fl m (bits BinOp.xor IntKind.i32 (m.R a) (m.R b)) with R := upd m.R a (IntKind.i32.wrap (bits BinOp.xor IntKind.i32 (m.R a) (m.R b))) } 9 a b n ∧ Only [g] w w' := by
  have c25 := h.cell 25 rfl
  have c26 := h.cell 26 rfl
  have c27 := h.cell 27 rfl
  have c3 := h.cell 3 rfl
  have ca := h.cell (2 + a) (mc_reg cv rv wv m 9 a b n ha)
  have cb := h.cell (2 + b) (mc_reg cv rv wv m 9 a b n hb)
  have fa := h.froz (2 + a)
  have H := Lib.hid h; clear h
  have ha' : (a : Int) < 16 := by omega
  have hb' : (b : Int) < 16 := by omega
  have ra := hR a ha
  have rb := hR b hb
  have r1 := hR 1 (by omega)
  unfold I32 at ra rb r1
  have e1 : IntKind.i64.wrap (m.R a) = m.R a := by rw [IntKind.wrap_i64]; omega
  have e2 : IntKind.i64.wrap (m.R b) = m.R b := by rw [IntKind.wrap_i64]; omega
  have hbr : I32 (bits BinOp.xor IntKind.i32 (m.R a) (m.R b)) := bits_rng _ _ _ (by simp)
  unfold I32 at hbr
  have e3 : IntKind.i64.wrap (bits BinOp.xor IntKind.i32 (m.R a) (m.R b)) = bits BinOp.xor IntKind.i32 (m.R a) (m.R b) := by rw [IntKind.wrap_i64]; omega
  go_enter Try.func42, Try.ntmps42
  go_wp2_with fail
  go_quiet (fail)
  go_wp2_with fail
  have H1 : Hid (SMem (w.drewN nq) g cv rv wv m 9 a b n) := Lib.hid ⟨H.out.h⟩
  have HO : Hid (Only [g] w (w.drewN nq)) := Lib.hid ⟨rfl, rfl, rfl, Nat.le_refl _, fun _ _ _ => rfl⟩
  have c26' : (w.drewN nq).cell? ⟨g, 26, none⟩ = some (.int .i64 (a : Int)) := c26
  clear c25 c26 c27 ca cb fa c3
  generalize w.drewN nq = w1 at *
  go_region_law (go_simp; go_at_call 52; refine (flags52 g cv rv wv m 9 a b n (bits BinOp.xor IntKind.i32 (m.R a) (m.R b)) _ (show SMem w1.drew g cv rv wv m 9 a b n from H1.out.drew)).mono ?_; rintro e w2 ⟨rfl, h2, ho2, hs2⟩; have ho3 : Only [g] w1 w2 := ⟨ho2.os, ho2.tape, ho2.output, ho2.size, ho2.same⟩; have c26'' := h2.cell 26 rfl; have ca'' := h2.cell (2 + a) (mc_reg cv rv wv _ 9 a b n ha); have fa'' := h2.froz (2 + a); have H2 := Lib.hid h2; clear h2)
  all_goals go_wp2
  all_goals go_ret
  all_goals exact ⟨rfl, H2.out.set (2 + a) _ (mc_setR cv rv wv (fl m (bits BinOp.xor IntKind.i32 (m.R a) (m.R b))) 9 a b n ha _), (HO.out.trans ho3).set _ (by simp)⟩
def goes (m : Mach) : Nat → Bool
  | 18 => true
  | 19 => m.Z
  | 20 => !m.Z
  | 21 => m.S != m.O
  | 22 => m.S == m.O
  | 23 => m.Z || (m.S != m.O)
  | 24 => !m.Z && (m.S == m.O)
  | _ => false
theorem jump46 (op : Nat) (hop : 18 ≤ op ∧ op ≤ 24) (g : Nat) (cv rv wv : Value) (m : Mach) (a b n : Int) (hat : 0 ≤ m.at_ ∧ m.at_ ≤ 1000000) (hn : I32 n) (w : World) (h : SMem w g cv rv wv m op a b n) :
    Calls Try.prog 46 #[ptr g] w fun e w' => e = .returned (.int .i64 1) ∧ SMem w' g cv rv wv { m with at_ := if goes m op = true then m.at_ + n else m.at_ } op a b n ∧ Only [g] w w' := by
  have c25 := h.cell 25 rfl
  have c28 := h.cell 28 rfl
  have c19 := h.cell 19 rfl
  have c22 := h.cell 22 rfl
  have c23 := h.cell 23 rfl
  have c24 := h.cell 24 rfl
  have f19 := h.froz 19
  have H := Lib.hid h; clear h
  unfold I32 at hn
  have e1 : IntKind.i64.wrap n = n := by rw [IntKind.wrap_i64]; omega
  have e2 : IntKind.i64.wrap (m.at_ + n) = m.at_ + n := by rw [IntKind.wrap_i64]; omega
  clear hat hn
  obtain ⟨z, hz⟩ : ∃ z, m.Z = z := ⟨_, rfl⟩
  obtain ⟨s, hs⟩ : ∃ s, m.S = s := ⟨_, rfl⟩
  obtain ⟨o, ho⟩ : ∃ o, m.O = o := ⟨_, rfl⟩
  obtain ⟨t, ht⟩ : ∃ t, m.at_ = t := ⟨_, rfl⟩
  have hgo : goes m op = goes { m with Z := z, S := s, O := o } op := by rw [← hz, ← hs, ← ho]
  rw [hgo, ht]
  rw [hz] at c22
  rw [hs] at c23
  rw [ho] at c24
  rw [ht] at c19 e2
  have HT := Lib.hid ht
  clear hgo hz hs ho ht
  have ho : op = 18 ∨ op = 19 ∨ op = 20 ∨ op = 21 ∨ op = 22 ∨ op = 23 ∨ op = 24 := by omega
  rcases ho with rfl | rfl | rfl | rfl | rfl | rfl | rfl <;> cases z <;> cases s <;> cases o <;>
    (go_enter Try.func46, Try.ntmps46
     go_wp2_with fail
     go_quiet (fail)
     go_wp2_with fail
     first
       | (go_ret
          exact ⟨rfl, ⟨by have := H.out.h; rw [← HT.out]; exact this⟩, ⟨rfl, rfl, rfl, Nat.le_refl _, fun _ _ _ => rfl⟩⟩)
       | (go_region
          have HM1 : Hid (SMem ((w.drewN (nq + 1)).setCell ⟨g, 19, none⟩ (.int .i64 (t + n))) g cv rv wv { m with at_ := t + n } _ a b n) := Lib.hid ((show SMem (w.drewN (nq + 1)) g cv rv wv m _ a b n from ⟨H.out.h⟩).set 19 _ rfl)
          have HO1 : Hid (Only [g] w ((w.drewN (nq + 1)).setCell ⟨g, 19, none⟩ (.int .i64 (t + n)))) := Lib.hid ((show Only [g] w (w.drewN (nq + 1)) from ⟨rfl, rfl, rfl, Nat.le_refl _, fun _ _ _ => rfl⟩).set _ (by simp))
          generalize (w.drewN (nq + 1)).setCell ⟨g, 19, none⟩ (.int .i64 (t + n)) = w9 at *
          go_wp2_with fail
          go_ret
          exact ⟨rfl, HM1.out, HO1.out⟩))
end Go.Proofs.Ytpcocfdgcihpdaa.rdw
namespace Go.Proofs.Ytpcocfdgcihpdaa.rdw
open Go Go.RowKit Go.BigFrame
open Go.Proofs.Ytpcocfdgcihpdaa Go.Proofs.Ytpcocfdgcihpdaa.wr Go.Proofs.Ytpcocfdgcihpdaa.x86enc
theorem mem40_3 (g gw : Nat) (cv rv : Value) (m : Mach) (a : Nat) (b n : Int) (hR : RegOk m) (ha : a < 16) (hgg : gw ≠ g) (q : Nat) (hq : q < m.W.length) (hn : n = 4 * (q : Int)) (hl : m.W.length ≤ 1000) (w : World) (h : SMem w g cv rv (wsl gw m.W.length) m 3 a b n) (hw : WMem w gw m.W) :
    Calls Try.prog 40 #[ptr g] w fun e w' => e = .returned (.int .i64 1) ∧ SMem w' g cv rv (wsl gw m.W.length) { m with R := upd m.R a (m.W.getD q 0) } 3 a b n ∧ WMem w' gw m.W ∧ Only [g, gw] w w' := by
  have c18 := h.cell 18 rfl
  have c25 := h.cell 25 rfl
  have c26 := h.cell 26 rfl
  have c28 := h.cell 28 rfl
  have ca := h.cell (2 + a) (mc_reg cv rv (wsl gw m.W.length) m 3 a b n ha)
  have fa := h.froz (2 + a)
  have cw := hw.cell q hq
  have fw := hw.froz q
  have H := Lib.hid h; clear h
  have HW := Lib.hid hw; clear hw
  have ha' : (a : Int) < 16 := by omega
  have hq' : (q : Int) < (m.W.length : Int) := by omega
  obtain ⟨nw, hnw⟩ : ∃ nw, m.W.length = nw := ⟨_, rfl⟩
  have e1 : IntKind.i64.wrap n = n := by rw [IntKind.wrap_i64]; omega
  have e2 : n.tdiv 4 = (q : Int) := by rw [hn]; simp
  have e3 : n.tmod 4 = 0 := by rw [hn]; simp
  have e4 : decide (n < 0) = false := by simp; omega
  have e5 : IntKind.i64.wrap (q : Int) = (q : Int) := by rw [IntKind.wrap_i64]; omega
  have e6 : decide (m.W.length ≤ q) = false := by simp; omega
  obtain ⟨u, hu⟩ : ∃ u, m.W.getD q 0 = u := ⟨_, rfl⟩
  rw [hu] at cw
  have HU := Lib.hid hu; clear hu
  have HN := Lib.hid hn; clear hn
  go_enter Try.func40, Try.ntmps40
  go_wp2_with fail
  go_region
  have HM1 := Lib.hid ((H.out.set (2 + a) (.int .i32 u) (mc_setR cv rv (wsl gw m.W.length) m 3 a b n ha _)).drew)
  have HO1 := Lib.hid (((Only.refl [g] w).set (g := g) (j := 2 + a) (.int .i32 u) (by simp)).drew)
  clear ca fa cw fw c18 c25 c26 c28
  generalize (w.setCell ⟨g, 2 + a, none⟩ (.int .i32 u)).drew = w1 at *
  go_wp2_with fail
  go_ret
  rw [HU.out]
  exact ⟨rfl, HM1.out, HW.out.keep HO1.out (by simp; exact hgg), HO1.out.mono (by simp)⟩
theorem mem40_4 (g gw : Nat) (cv rv : Value) (m : Mach) (a : Nat) (b n : Int) (hR : RegOk m) (ha : a < 16) (hgg : gw ≠ g) (q : Nat) (hq : q < m.W.length) (hn : n = 4 * (q : Int)) (hl : m.W.length ≤ 1000) (w : World) (h : SMem w g cv rv (wsl gw m.W.length) m 4 a b n) (hw : WMem w gw m.W) :
    Calls Try.prog 40 #[ptr g] w fun e w' => e = .returned (.int .i64 1) ∧ SMem w' g cv rv (wsl gw m.W.length) m 4 a b n ∧ WMem w' gw (m.W.set q (m.R a)) ∧ Only [g, gw] w w' := by
  have c18 := h.cell 18 rfl
  have c25 := h.cell 25 rfl
  have c26 := h.cell 26 rfl
  have c28 := h.cell 28 rfl
  have ca := h.cell (2 + a) (mc_reg cv rv (wsl gw m.W.length) m 4 a b n ha)
  have fa := h.froz (2 + a)
  have cw := hw.cell q hq
  have fw := hw.froz q
  have H := Lib.hid h; clear h
  have HW := Lib.hid hw; clear hw
  have ha' : (a : Int) < 16 := by omega
  have hq' : (q : Int) < (m.W.length : Int) := by omega
  obtain ⟨nw, hnw⟩ : ∃ nw, m.W.length = nw := ⟨_, rfl⟩
  have e1 : IntKind.i64.wrap n = n := by rw [IntKind.wrap_i64]; omega
  have e2 : n.tdiv 4 = (q : Int) := by rw [hn]; simp
  have e3 : n.tmod 4 = 0 := by rw [hn]; simp
  have e4 : decide (n < 0) = false := by simp; omega
  have e5 : IntKind.i64.wrap (q : Int) = (q : Int) := by rw [IntKind.wrap_i64]; omega
  have e6 : decide (m.W.length ≤ q) = false := by simp; omega
  obtain ⟨u, hu⟩ : ∃ u, m.W.getD q 0 = u := ⟨_, rfl⟩
  rw [hu] at cw
  have HU := Lib.hid hu; clear hu
  have HN := Lib.hid hn; clear hn
  go_enter Try.func40, Try.ntmps40
  go_wp2_with fail
  go_region
  have HM1 := Lib.hid (HW.out.set q (m.R a))
  have HO1 := Lib.hid (((Only.refl [gw] w).set (g := gw) (j := q) (.int .i32 (m.R a)) (by simp)).drew)
  have HW1 : Hid (WMem ((w.setCell ⟨gw, q, none⟩ (.int .i32 (m.R a))).drew) gw (m.W.set q (m.R a))) := Lib.hid ⟨HM1.out.h⟩
  clear ca fa cw fw c18 c25 c26 c28 HM1
  generalize (w.setCell ⟨gw, q, none⟩ (.int .i32 (m.R a))).drew = w1 at *
  go_wp2_with fail
  go_ret
  exact ⟨rfl, H.out.keep HO1.out (by simp; exact fun e => hgg e.symm), HW1.out, HO1.out.mono (by simp)⟩
theorem mem40_3w (g gw : Nat) (cv rv : Value) (m : Mach) (a : Nat) (b n : Int) (hR : RegOk m) (ha : a < 16) (hgg : gw ≠ g) (hn : I32 n) (hbad : n.tmod 4 ≠ 0 ∨ n < 0 ∨ (m.W.length : Int) ≤ n.tdiv 4) (w : World) (h : SMem w g cv rv (wsl gw m.W.length) m 3 a b n) (hw : WMem w gw m.W) :
    Calls Try.prog 40 #[ptr g] w fun e w' => e = .returned (.int .i64 5) ∧ w' = w := by
  have c18 := h.cell 18 rfl
  have c25 := h.cell 25 rfl
  have c26 := h.cell 26 rfl
  have c28 := h.cell 28 rfl
  clear ha hR
  have H := Lib.hid h; clear h
  have HW := Lib.hid hw; clear hw
  unfold I32 at hn
  have e1 : IntKind.i64.wrap n = n := by rw [IntKind.wrap_i64]; omega
  by_cases h1 : n.tmod 4 = 0
  · have b1 : (n.tmod 4 == 0) = true := by simp [h1]
    by_cases h2 : n < 0
    · have b2 : decide (n < 0) = true := by simp; omega
      clear hn hbad
      go_enter Try.func40, Try.ntmps40
      go_wp2_with fail
      go_ret
      exact ⟨rfl, rfl⟩
    · have b2 : decide (n < 0) = false := by simp; omega
      have h3 : (m.W.length : Int) ≤ n.tdiv 4 := by
        rcases hbad with q | q | q
        · exact absurd h1 q
        · exact absurd q h2
        · exact q
      have b3 : decide ((m.W.length : Int) ≤ n.tdiv 4) = true := by simp; exact h3
      have e2 : IntKind.i64.wrap (n.tdiv 4) = n.tdiv 4 := by rw [Int.tdiv_eq_ediv_of_nonneg (by omega), IntKind.wrap_i64]; omega
      clear hn hbad
      go_enter Try.func40, Try.ntmps40
      go_wp2_with fail
      go_ret
      exact ⟨rfl, rfl⟩
  · have b1 : (n.tmod 4 == 0) = false := by simp [h1]
    clear hn hbad
    go_enter Try.func40, Try.ntmps40
    go_wp2_with fail
    go_ret
    exact ⟨rfl, rfl⟩
theorem mem40_4w (g gw : Nat) (cv rv : Value) (m : Mach) (a : Nat) (b n : Int) (hR : RegOk m) (ha : a < 16) (hgg : gw ≠ g) (hn : I32 n) (hbad : n.tmod 4 ≠ 0 ∨ n < 0 ∨ (m.W.length : Int) ≤ n.tdiv 4) (w : World) (h : SMem w g cv rv (wsl gw m.W.length) m 4 a b n) (hw : WMem w gw m.W) :
    Calls Try.prog 40 #[ptr g] w fun e w' => e = .returned (.int .i64 5) ∧ w' = w := by
  have c18 := h.cell 18 rfl
  have c25 := h.cell 25 rfl
  have c26 := h.cell 26 rfl
  have c28 := h.cell 28 rfl
  clear ha hR
  have H := Lib.hid h; clear h
  have HW := Lib.hid hw; clear hw
  unfold I32 at hn
  have e1 : IntKind.i64.wrap n = n := by rw [IntKind.wrap_i64]; omega
  by_cases h1 : n.tmod 4 = 0
  · have b1 : (n.tmod 4 == 0) = true := by simp [h1]
    by_cases h2 : n < 0
    · have b2 : decide (n < 0) = true := by simp; omega
      clear hn hbad
      go_enter Try.func40, Try.ntmps40
      go_wp2_with fail
      go_ret
      exact ⟨rfl, rfl⟩
    · have b2 : decide (n < 0) = false := by simp; omega
      have h3 : (m.W.length : Int) ≤ n.tdiv 4 := by
        rcases hbad with q | q | q
        · exact absurd h1 q
        · exact absurd q h2
        · exact q
      have b3 : decide ((m.W.length : Int) ≤ n.tdiv 4) = true := by simp; exact h3
      have e2 : IntKind.i64.wrap (n.tdiv 4) = n.tdiv 4 := by rw [Int.tdiv_eq_ediv_of_nonneg (by omega), IntKind.wrap_i64]; omega
      clear hn hbad
      go_enter Try.func40, Try.ntmps40
      go_wp2_with fail
      go_ret
      exact ⟨rfl, rfl⟩
  · have b1 : (n.tmod 4 == 0) = false := by simp [h1]
    clear hn hbad
    go_enter Try.func40, Try.ntmps40
    go_wp2_with fail
    go_ret
    exact ⟨rfl, rfl⟩
end Go.Proofs.Ytpcocfdgcihpdaa.rdw
namespace Go.Proofs.Ytpcocfdgcihpdaa.rdw
open Go Go.RowKit Go.BigFrame
open Go.Proofs.Ytpcocfdgcihpdaa Go.Proofs.Ytpcocfdgcihpdaa.wr Go.Proofs.Ytpcocfdgcihpdaa.x86enc
theorem or_hi (h lo : Int) (h1 : -2147483648 ≤ h) (h2 : h ≤ 2147483647) (l1 : 0 ≤ lo) (l2 : lo < 4294967296) : bits BinOp.or IntKind.i64 (h * 4294967296) lo = h * 4294967296 + lo := by
  have key : ∀ (a b : Nat), b < 2 ^ 32 → (a * 2 ^ 32) ||| b = a * 2 ^ 32 + b := by
    intro a b hb
    have := Nat.two_pow_add_eq_or_of_lt (b := b) (i := 32) hb a
    rw [Nat.mul_comm a, ← this]
  obtain ⟨a, ha, haB⟩ : ∃ a : Nat, (h % 4294967296) = (a : Int) ∧ a < 4294967296 := ⟨(h % 4294967296).toNat, by omega, by omega⟩
  obtain ⟨b, rfl⟩ := Int.eq_ofNat_of_zero_le l1
  have e1 : (BitVec.ofInt 64 (h * 4294967296)).toNat = a * 2 ^ 32 := by
    rw [BitVec.toNat_ofInt]; omega
  have e2 : (BitVec.ofInt 64 (b : Int)).toNat = b := by
    rw [BitVec.toNat_ofInt]; omega
  show IntKind.i64.wrap ((BitVec.ofInt 64 (h * 4294967296) ||| BitVec.ofInt 64 (b : Int)).toNat : Int) = _
  rw [BitVec.toNat_or, e1, e2, key a b (by omega), IntKind.wrap_i64]
  omega
theorem size54 (n : Int) (h : -9223372036854775808 ≤ n ∧ n ≤ 9223372036854775807) (w : World) : Calls Try.prog 54 #[.int .i64 n] w fun e w' => e = .returned (.int .u64 (n.natAbs : Int)) ∧ w' = w := by
  obtain ⟨k, hk⟩ : ∃ k : Int, (n.natAbs : Int) = k := ⟨_, rfl⟩
  rw [hk]
  by_cases hn : n < 0
  · have hd : decide (n < 0) = true := by simp; omega
    have e1 : IntKind.u64.wrap n = n + 18446744073709551616 := by rw [IntKind.wrap_u64]; omega
    have e2 : IntKind.u64.wrap (-(n + 18446744073709551616)) = k := by rw [IntKind.wrap_u64]; omega
    clear h hk
    go_enter Try.func54, Try.ntmps54
    go_wp2_with fail
    go_ret
    exact ⟨rfl, rfl⟩
  · have hd : decide (n < 0) = false := by simp; omega
    have e1 : IntKind.u64.wrap n = k := by rw [IntKind.wrap_u64]; omega
    clear h hk
    go_enter Try.func54, Try.ntmps54
    go_wp2_with fail
    go_ret
    exact ⟨rfl, rfl⟩
theorem div53 (x y : Nat) (hy : 0 < y) (hx : x < 18446744073709551616) (hy2 : y < 18446744073709551616) (w : World) : Calls Try.prog 53 #[.int .u64 0, .int .u64 (x : Int), .int .u64 (y : Int)] w fun e w' => e = .returned (.tuple #[.int .u64 ((x / y : Nat) : Int), .int .u64 ((x % y : Nat) : Int)]) ∧ ∃ j, w' = w.drewN j := by
  have h1 : ((y : Int) == 0) = false := by simp; omega
  have h2 : decide ((y : Int) ≤ 0) = false := by simp; omega
  have h3 : (y : Int) ≠ 0 := by omega
  have hq : x / y ≤ x := Nat.div_le_self _ _
  have hm : x % y < y := Nat.mod_lt _ hy
  have e1 : IntKind.u64.wrap ((x : Int) / (y : Int)) = ((x / y : Nat) : Int) := by
    obtain ⟨q, hq'⟩ : ∃ q, x / y = q := ⟨_, rfl⟩
    rw [hq'] at hq
    rw [← Int.natCast_ediv, hq', IntKind.wrap_u64]; omega
  go_enter Try.func53, Try.ntmps53
  go_wp2_with fail
  go_quiet (fail)
  go_wp2_with fail
  go_ret2
  exact ⟨rfl, _, rfl⟩
theorem tdiv_abs (N D : Int) : N.tdiv D = if decide (N < 0) = decide (D < 0) then ((N.natAbs / D.natAbs : Nat) : Int) else -((N.natAbs / D.natAbs : Nat) : Int) := by
  have p : ∀ x : Nat, decide (Int.ofNat x < 0) = false := fun x => decide_eq_false (Int.not_lt.2 (Int.natCast_nonneg x))
  have q : ∀ x : Nat, decide (Int.negSucc x < 0) = true := fun x => decide_eq_true (Int.negSucc_lt_zero x)
  cases N with
  | ofNat x => cases D with
    | ofNat y => rw [p, p, if_pos rfl]; rfl
    | negSucc y => rw [p, q, if_neg (by decide)]; rfl
  | negSucc x => cases D with
    | ofNat y => rw [p, q, if_neg (by decide)]; rfl
    | negSucc y => rw [q, q, if_pos rfl]; rfl
theorem tmod_abs (N D : Int) : N.tmod D = if N < 0 then -((N.natAbs % D.natAbs : Nat) : Int) else ((N.natAbs % D.natAbs : Nat) : Int) := by
  cases N with
  | ofNat x =>
    rw [if_neg (show ¬ (Int.ofNat x < 0) from Int.not_lt.2 (Int.natCast_nonneg x))]
    cases D <;> rfl
  | negSucc x =>
    rw [if_pos (Int.negSucc_lt_zero x)]
    cases D <;> rfl
def dvn (N D : Int) : Option (Int × Int) := if D = 0 then none else if N.tdiv D < -2147483648 ∨ 2147483647 < N.tdiv D then none else some (N.tdiv D, N.tmod D)
def num (m : Mach) : Int := m.R 2 * 4294967296 + m.R 0 % 4294967296
theorem div_fin {w : World} {J g : Nat} {cv rv wv : Value} {m : Mach} {a b n : Int} (H : SMem w g cv rv wv m 14 a b n) (q r : Int) :
    SMem (((w.drewN J).setCell ⟨g, 2, none⟩ (.int .i32 q)).setCell ⟨g, 4, none⟩ (.int .i32 r)) g cv rv wv { m with R := upd (upd m.R 0 q) 2 r } 14 a b n ∧ Only [g] w (((w.drewN J).setCell ⟨g, 2, none⟩ (.int .i32 q)).setCell ⟨g, 4, none⟩ (.int .i32 r)) := by
  have h0 : SMem (w.drewN J) g cv rv wv m 14 a b n := ⟨H.h⟩
  have o0 : Only [g] w (w.drewN J) := ⟨rfl, rfl, rfl, Nat.le_refl _, fun _ _ _ => rfl⟩
  exact ⟨(h0.set 2 _ (mc_setR cv rv wv m 14 a b n (r := 0) (by omega) q)).set 4 _ (mc_setR cv rv wv { m with R := upd m.R 0 q } 14 a b n (r := 2) (by omega) r), (o0.set _ (by simp)).set _ (by simp)⟩
theorem divide44 (g : Nat) (cv rv wv : Value) (m : Mach) (a : Nat) (b n : Int) (hR : RegOk m) (ha : a < 16) (w : World) (h : SMem w g cv rv wv m 14 a b n) :
    Calls Try.prog 44 #[ptr g] w fun e w' => ((dvn (num m) (m.R a) = none ∧ e = .returned (.int .i64 4) ∧ SMem w' g cv rv wv m 14 a b n) ∨ ∃ q r, dvn (num m) (m.R a) = some (q, r) ∧ e = .returned (.int .i64 1) ∧ SMem w' g cv rv wv { m with R := upd (upd m.R 0 q) 2 r } 14 a b n) ∧ Only [g] w w' := by
  have c2 := h.cell 2 rfl
  have c4 := h.cell 4 rfl
  have c26 := h.cell 26 rfl
  have ca := h.cell (2 + a) (mc_reg cv rv wv m 14 a b n ha)
  have f2 := h.froz 2
  have f4 := h.froz 4
  have H := Lib.hid h; clear h
  have ha' : (a : Int) < 16 := by omega
  have r0 := hR 0 (by omega)
  have r2 := hR 2 (by omega)
  have rA := hR a ha
  unfold I32 at r0 r2 rA
  obtain ⟨N, hN⟩ : ∃ N, num m = N := ⟨_, rfl⟩
  obtain ⟨D, hD⟩ : ∃ D, m.R a = D := ⟨_, rfl⟩
  have ho := or_hi (m.R 2) (m.R 0 % 4294967296) r2.1 r2.2 (by omega) (by omega)
  rw [show m.R 2 * 4294967296 + m.R 0 % 4294967296 = N from hN] at ho
  have hNr : -9223372036854775808 ≤ N ∧ N ≤ 9223372036854775807 := by rw [← hN]; unfold num; omega
  rw [hN, hD]
  rw [hD] at ca rA
  have e1 : IntKind.i64.wrap (m.R 2) = m.R 2 := by rw [IntKind.wrap_i64]; omega
  have e2 : IntKind.i64.wrap (m.R 2 * 4294967296) = m.R 2 * 4294967296 := by rw [IntKind.wrap_i64]; omega
  have e3 : IntKind.u32.wrap (m.R 0) = m.R 0 % 4294967296 := by rw [IntKind.wrap_u32]
  have e4 : IntKind.i64.wrap (m.R 0 % 4294967296) = m.R 0 % 4294967296 := by rw [IntKind.wrap_i64]; omega
  have e5 : IntKind.i64.wrap D = D := by rw [IntKind.wrap_i64]; omega
  have HN := Lib.hid hN; have HD := Lib.hid hD; clear hN hD
  by_cases hD0 : D = 0
  · have hd0 : (D == 0) = true := by simp [hD0]
    have hdv : dvn N D = none := by unfold dvn; rw [if_pos hD0]
    have HDV := Lib.hid hdv
    clear hdv hD0 r0 r2 rA hNr
    go_enter Try.func44, Try.ntmps44
    go_wp2_with fail
    go_quiet (fail)
    go_wp2_with fail
    go_quiet (fail)
    go_wp2_with fail
    go_ret
    exact ⟨.inl ⟨HDV.out, rfl, ⟨H.out.h⟩⟩, ⟨rfl, rfl, rfl, Nat.le_refl _, fun _ _ _ => rfl⟩⟩
  · have hd0 : (D == 0) = false := by simp [hD0]
    have hy : 0 < D.natAbs := by omega
    have tq := tdiv_abs N D
    have tm := tmod_abs N D
    have s1 := fun w => size54 N hNr w
    have s2 := fun w => size54 D (by omega) w
    have s3 := fun w => div53 N.natAbs D.natAbs hy (by omega) (by omega) w
    obtain ⟨Q, hQ⟩ : ∃ Q, N.natAbs / D.natAbs = Q := ⟨_, rfl⟩
    obtain ⟨M, hM⟩ : ∃ M, N.natAbs % D.natAbs = M := ⟨_, rfl⟩
    have hMr : M < D.natAbs := by rw [← hM]; exact Nat.mod_lt _ hy
    have hQr : Q ≤ N.natAbs := by rw [← hQ]; exact Nat.div_le_self _ _
    rw [hQ] at tq
    rw [hM] at tm
    simp only [hQ, hM] at s3
    have S1 := Lib.hid s1; have S2 := Lib.hid s2; have S3 := Lib.hid s3; clear s1 s2 s3
    have hQc : 2147483648 < Q ∨ Q ≤ 2147483648 := by omega
    rcases hQc with hQc | hQc
    · have c1 : decide ((2147483648 : Int) < (Q : Int)) = true := by simp; omega
      have hdv : dvn N D = none := by
        unfold dvn
        rw [if_neg hD0, if_pos]
        rw [tq]; split <;> omega
      have HDV := Lib.hid hdv
      clear hdv tq tm hQ hM hMr hQr hD0 hy r0 r2 rA hNr hQc
      go_enter Try.func44, Try.ntmps44
      go_wp2_with fail
      go_quiet (fail)
      go_wp2_with fail
      go_quiet (fail)
      go_wp2_with (first
        | (go_at_call 54; first | (with_reducible refine (S1.out _).mono ?_; rintro e w1 ⟨rfl, rfl⟩) | (with_reducible refine (S2.out _).mono ?_; rintro e w1 ⟨rfl, rfl⟩))
        | (go_at_call 53; with_reducible refine (S3.out _).mono ?_; rintro e w1 ⟨rfl, j, rfl⟩))
      go_ret
      exact ⟨.inl ⟨HDV.out, rfl, ⟨H.out.h⟩⟩, ⟨rfl, rfl, rfl, Nat.le_refl _, fun _ _ _ => rfl⟩⟩
    · have c1 : decide ((2147483648 : Int) < (Q : Int)) = false := by simp; omega
      have u1 : IntKind.i64.wrap (Q : Int) = (Q : Int) := by rw [IntKind.wrap_i64]; omega
      have u2 : IntKind.i64.wrap (M : Int) = (M : Int) := by rw [IntKind.wrap_i64]; omega
      have u3 : IntKind.i64.wrap (-(Q : Int)) = -(Q : Int) := by rw [IntKind.wrap_i64]; omega
      have u4 : IntKind.i64.wrap (-(M : Int)) = -(M : Int) := by rw [IntKind.wrap_i64]; omega
      obtain ⟨q, hq⟩ : ∃ q, N.tdiv D = q := ⟨_, rfl⟩
      obtain ⟨r, hr⟩ : ∃ r, N.tmod D = r := ⟨_, rfl⟩
      rw [hq] at tq
      rw [hr] at tm
      have hMl : (M : Int) ≤ 2147483647 := by omega
      have hdv : dvn N D = if 2147483647 < q then none else some (q, r) := by
        unfold dvn
        rw [if_neg hD0, hq, hr]
        by_cases hb : 2147483647 < q
        · rw [if_pos (.inr hb), if_pos hb]
        · rw [if_neg, if_neg hb]
          rintro (h | h)
          · split at tq <;> omega
          · exact hb h
      have HDV := Lib.hid hdv
      clear hdv hQ hM hMr hQr hq hr
      by_cases hn : N < 0 <;> by_cases hd : D < 0
      · have b1 : decide (N < 0) = true := decide_eq_true (by omega)
        have b2 : decide (D < 0) = true := decide_eq_true (by omega)
        have eq : q = (Q : Int) := by rw [tq, b1, b2]; rfl
        have er : r = -(M : Int) := by rw [tm, if_pos hn]
        subst eq er
        have v2 : IntKind.i32.wrap (-(M : Int)) = -(M : Int) := by rw [IntKind.wrap_i32]; omega
        by_cases hb : (2147483647 : Int) < (Q : Int)
        · have c2' : decide ((2147483647 : Int) < (Q : Int)) = true := by simp; omega
          have HDV2 : Hid (dvn N D = none) := Lib.hid (by rw [HDV.out, if_pos hb])
          clear tq tm hb hMl hQc hn hd hNr r0 r2 rA hD0 hy
          go_enter Try.func44, Try.ntmps44
          go_wp2_with fail
          go_quiet (fail)
          go_wp2_with fail
          go_quiet (fail)
          go_wp2_with (first
            | (go_at_call 54; first | (with_reducible refine (S1.out _).mono ?_; rintro e w1 ⟨rfl, rfl⟩) | (with_reducible refine (S2.out _).mono ?_; rintro e w1 ⟨rfl, rfl⟩))
            | (go_at_call 53; with_reducible refine (S3.out _).mono ?_; rintro e w1 ⟨rfl, j, rfl⟩))
          go_ret
          exact ⟨.inl ⟨HDV2.out, rfl, ⟨H.out.h⟩⟩, ⟨rfl, rfl, rfl, Nat.le_refl _, fun _ _ _ => rfl⟩⟩
        · have c2' : decide ((2147483647 : Int) < (Q : Int)) = false := by simp; omega
          have v1 : IntKind.i32.wrap (Q : Int) = (Q : Int) := by rw [IntKind.wrap_i32]; omega
          have HDV2 : Hid (dvn N D = some ((Q : Int), -(M : Int))) := Lib.hid (by rw [HDV.out, if_neg hb])
          clear tq tm hb hMl hQc hn hd hNr r0 r2 rA hD0 hy
          go_enter Try.func44, Try.ntmps44
          go_wp2_with fail
          go_quiet (fail)
          go_wp2_with fail
          go_quiet (fail)
          go_wp2_with (first
            | (go_at_call 54; first | (with_reducible refine (S1.out _).mono ?_; rintro e w1 ⟨rfl, rfl⟩) | (with_reducible refine (S2.out _).mono ?_; rintro e w1 ⟨rfl, rfl⟩))
            | (go_at_call 53; with_reducible refine (S3.out _).mono ?_; rintro e w1 ⟨rfl, j, rfl⟩))
          go_region
          go_wp2_with fail
          go_ret
          exact ⟨.inr ⟨_, _, HDV2.out, rfl, (div_fin H.out _ _).1⟩, (div_fin H.out _ _).2⟩
      · have b1 : decide (N < 0) = true := decide_eq_true (by omega)
        have b2 : decide (D < 0) = false := decide_eq_false (by omega)
        have eq : q = -(Q : Int) := by rw [tq, b1, b2]; rfl
        have er : r = -(M : Int) := by rw [tm, if_pos hn]
        subst eq er
        have v2 : IntKind.i32.wrap (-(M : Int)) = -(M : Int) := by rw [IntKind.wrap_i32]; omega
        have c2' : decide ((2147483647 : Int) < -(Q : Int)) = false := decide_eq_false (by omega)
        have v1 : IntKind.i32.wrap (-(Q : Int)) = -(Q : Int) := by rw [IntKind.wrap_i32]; omega
        have HDV2 : Hid (dvn N D = some (-(Q : Int), -(M : Int))) := Lib.hid (by rw [HDV.out, if_neg (by omega)])
        clear tq tm hMl hQc hn hd hNr r0 r2 rA hD0 hy
        go_enter Try.func44, Try.ntmps44
        go_wp2_with fail
        go_quiet (fail)
        go_wp2_with fail
        go_quiet (fail)
        go_wp2_with (first
          | (go_at_call 54; first | (with_reducible refine (S1.out _).mono ?_; rintro e w1 ⟨rfl, rfl⟩) | (with_reducible refine (S2.out _).mono ?_; rintro e w1 ⟨rfl, rfl⟩))
          | (go_at_call 53; with_reducible refine (S3.out _).mono ?_; rintro e w1 ⟨rfl, j, rfl⟩))
        go_region
        go_wp2_with fail
        go_ret
        exact ⟨.inr ⟨_, _, HDV2.out, rfl, (div_fin H.out _ _).1⟩, (div_fin H.out _ _).2⟩
      · have b1 : decide (N < 0) = false := decide_eq_false (by omega)
        have b2 : decide (D < 0) = true := decide_eq_true (by omega)
        have eq : q = -(Q : Int) := by rw [tq, b1, b2]; rfl
        have er : r = (M : Int) := by rw [tm, if_neg hn]
        subst eq er
        have v2 : IntKind.i32.wrap ((M : Int)) = (M : Int) := by rw [IntKind.wrap_i32]; omega
        have c2' : decide ((2147483647 : Int) < -(Q : Int)) = false := decide_eq_false (by omega)
        have v1 : IntKind.i32.wrap (-(Q : Int)) = -(Q : Int) := by rw [IntKind.wrap_i32]; omega
        have HDV2 : Hid (dvn N D = some (-(Q : Int), (M : Int))) := Lib.hid (by rw [HDV.out, if_neg (by omega)])
        clear tq tm hMl hQc hn hd hNr r0 r2 rA hD0 hy
        go_enter Try.func44, Try.ntmps44
        go_wp2_with fail
        go_quiet (fail)
        go_wp2_with fail
        go_quiet (fail)
        go_wp2_with (first
          | (go_at_call 54; first | (with_reducible refine (S1.out _).mono ?_; rintro e w1 ⟨rfl, rfl⟩) | (with_reducible refine (S2.out _).mono ?_; rintro e w1 ⟨rfl, rfl⟩))
          | (go_at_call 53; with_reducible refine (S3.out _).mono ?_; rintro e w1 ⟨rfl, j, rfl⟩))
        go_region
        go_wp2_with fail
        go_ret
        exact ⟨.inr ⟨_, _, HDV2.out, rfl, (div_fin H.out _ _).1⟩, (div_fin H.out _ _).2⟩
      · have b1 : decide (N < 0) = false := decide_eq_false (by omega)
        have b2 : decide (D < 0) = false := decide_eq_false (by omega)
        have eq : q = (Q : Int) := by rw [tq, b1, b2]; rfl
        have er : r = (M : Int) := by rw [tm, if_neg hn]
        subst eq er
        have v2 : IntKind.i32.wrap ((M : Int)) = (M : Int) := by rw [IntKind.wrap_i32]; omega
        by_cases hb : (2147483647 : Int) < (Q : Int)
        · have c2' : decide ((2147483647 : Int) < (Q : Int)) = true := by simp; omega
          have HDV2 : Hid (dvn N D = none) := Lib.hid (by rw [HDV.out, if_pos hb])
          clear tq tm hb hMl hQc hn hd hNr r0 r2 rA hD0 hy
          go_enter Try.func44, Try.ntmps44
          go_wp2_with fail
          go_quiet (fail)
          go_wp2_with fail
          go_quiet (fail)
          go_wp2_with (first
            | (go_at_call 54; first | (with_reducible refine (S1.out _).mono ?_; rintro e w1 ⟨rfl, rfl⟩) | (with_reducible refine (S2.out _).mono ?_; rintro e w1 ⟨rfl, rfl⟩))
            | (go_at_call 53; with_reducible refine (S3.out _).mono ?_; rintro e w1 ⟨rfl, j, rfl⟩))
          go_ret
          exact ⟨.inl ⟨HDV2.out, rfl, ⟨H.out.h⟩⟩, ⟨rfl, rfl, rfl, Nat.le_refl _, fun _ _ _ => rfl⟩⟩
        · have c2' : decide ((2147483647 : Int) < (Q : Int)) = false := by simp; omega
          have v1 : IntKind.i32.wrap (Q : Int) = (Q : Int) := by rw [IntKind.wrap_i32]; omega
          have HDV2 : Hid (dvn N D = some ((Q : Int), (M : Int))) := Lib.hid (by rw [HDV.out, if_neg hb])
          clear tq tm hb hMl hQc hn hd hNr r0 r2 rA hD0 hy
          go_enter Try.func44, Try.ntmps44
          go_wp2_with fail
          go_quiet (fail)
          go_wp2_with fail
          go_quiet (fail)
          go_wp2_with (first
            | (go_at_call 54; first | (with_reducible refine (S1.out _).mono ?_; rintro e w1 ⟨rfl, rfl⟩) | (with_reducible refine (S2.out _).mono ?_; rintro e w1 ⟨rfl, rfl⟩))
            | (go_at_call 53; with_reducible refine (S3.out _).mono ?_; rintro e w1 ⟨rfl, j, rfl⟩))
          go_region
          go_wp2_with fail
          go_ret
          exact ⟨.inr ⟨_, _, HDV2.out, rfl, (div_fin H.out _ _).1⟩, (div_fin H.out _ _).2⟩
end Go.Proofs.Ytpcocfdgcihpdaa.rdw
namespace Go.Proofs.Ytpcocfdgcihpdaa.rdw
open Go Go.RowKit Go.BigFrame
open Go.Proofs.Ytpcocfdgcihpdaa Go.Proofs.Ytpcocfdgcihpdaa.wr Go.Proofs.Ytpcocfdgcihpdaa.x86enc
def badW (m : Mach) (n : Int) : Prop := n.tmod 4 ≠ 0 ∨ n < 0 ∨ (m.W.length : Int) ≤ n.tdiv 4
instance (m : Mach) (n : Int) : Decidable (badW m n) := by unfold badW; exact inferInstance
def res (m : Mach) (a : Nat) (v : Int) : Mach × Int := ({ m with R := upd m.R a v }, 1)
def resF (m : Mach) (a : Nat) (v : Int) : Mach × Int := ({ fl m v with R := upd m.R a (IntKind.i32.wrap v) }, 1)
def exA (m : Mach) (op a b : Nat) (n : Int) : Mach × Int :=
  match op with
  | 1 => res m a n
  | 2 => res m a (m.R b)
  | 3 => if badW m n then (m, 5) else res m a (m.W.getD (n.tdiv 4).toNat 0)
  | 4 => if badW m n then (m, 5) else ({ m with W := m.W.set (n.tdiv 4).toNat (m.R a) }, 1)
  | 5 => resF m a (m.R a + m.R b)
  | 6 => resF m a (bits BinOp.or IntKind.i32 (m.R a) (m.R b))
  | 7 => resF m a (bits BinOp.and IntKind.i32 (m.R a) (m.R b))
  | 8 => resF m a (m.R a - m.R b)
  | 9 => resF m a (bits BinOp.xor IntKind.i32 (m.R a) (m.R b))
  | 10 => (fl m (m.R a - m.R b), 1)
  | 11 => res m a (wrap32 (m.R a * m.R b))
  | 12 => resF m a (-m.R a)
  | 13 => res m 2 (m.R 0 / 2147483648)
  | 14 => match dvn (num m) (m.R a) with
    | none => (m, 4)
    | some (q, r) => ({ m with R := upd (upd m.R 0 q) 2 r }, 1)
  | 15 => res m a (wrap32 (m.R a * 2 ^ (m.R 1 % 32).toNat))
  | 16 => res m a (m.R a / 2 ^ (m.R 1 % 32).toNat)
  | 17 => res m a (wrap32 (m.R a % 4294967296 / 2 ^ (m.R 1 % 32).toNat))
  | 25 => (m, 2)
  | 26 => ({ m with N := n }, 3)
  | op => ({ m with at_ := if goes m op = true then m.at_ + n else m.at_ }, 1)
def fOf (op : Nat) : Nat := if op = 1 ∨ op = 2 ∨ op = 13 then 39 else if op = 3 ∨ op = 4 then 40 else if op = 5 ∨ op = 8 ∨ op = 10 ∨ op = 12 then 41 else if op = 6 ∨ op = 7 ∨ op = 9 then 42 else if op = 11 ∨ op = 15 ∨ op = 16 ∨ op = 17 then 43 else if op = 14 then 44 else if op = 25 ∨ op = 26 then 45 else 46
def MethP (g gw : Nat) (cv rv : Value) (m m' : Mach) (op a b : Nat) (n s : Int) (w : World) (e : Ending) (w' : World) : Prop :=
  e = .returned (.int .i64 s) ∧ SMem w' g cv rv (wsl gw m.W.length) m' op a b n ∧ WMem w' gw m'.W ∧ m'.W.length = m.W.length ∧ Only [g, gw] w w'
theorem meth_of {g gw : Nat} {cv rv : Value} {m m' : Mach} {op a b : Nat} {n s : Int} {w w' : World} {e : Ending} (hgg : gw ≠ g) (hW : m'.W = m.W) (hw : WMem w gw m.W) (h : e = .returned (.int .i64 s) ∧ SMem w' g cv rv (wsl gw m.W.length) m' op a b n ∧ Only [g] w w') : MethP g gw cv rv m m' op a b n s w e w' :=
  ⟨h.1, h.2.1, by rw [hW]; exact hw.keep h.2.2 (by simp; exact hgg), by rw [hW], h.2.2.mono (by simp)⟩
theorem meth (g gw : Nat) (cv rv : Value) (m : Mach) (op a b : Nat) (n : Int) (h1 : 1 ≤ op) (h2 : op ≤ 26) (hR : RegOk m) (ha : a < 16) (hb : b < 16) (hn : I32 n) (hat : 0 ≤ m.at_ ∧ m.at_ ≤ 1000000) (hl : m.W.length ≤ 1000) (hgg : gw ≠ g) (w : World)
    (h : SMem w g cv rv (wsl gw m.W.length) m op a b n) (hw : WMem w gw m.W) :
    Calls Try.prog (fOf op) #[ptr g] w (MethP g gw cv rv m (exA m op a b n).1 op a b n (exA m op a b n).2 w) := by
  rcases RD.op_cases op h1 h2 with e | e | e | e | e | e | e | e | e | e | e | e | e | e | e | e | e | e | e | e | e | e | e | e | e | e <;> subst e
  · exact (move39 g cv rv _ m a b n w ha h).mono fun e w' hh => meth_of hgg rfl hw hh
  · exact (move39_2 g cv rv _ m a b n w ha hb h).mono fun e w' hh => meth_of hgg rfl hw hh
  · show Calls Try.prog 40 #[ptr g] w (MethP g gw cv rv m (if badW m n then (m, 5) else res m a (m.W.getD (n.tdiv 4).toNat 0)).1 3 a b n (if badW m n then (m, 5) else res m a (m.W.getD (n.tdiv 4).toNat 0)).2 w)
    by_cases hbad : badW m n
    · rw [if_pos hbad]
      refine (mem40_3w g gw cv rv m a b n hR ha hgg hn hbad w h hw).mono fun e w' hh => ?_
      obtain ⟨rfl, rfl⟩ := hh
      exact ⟨rfl, h, hw, rfl, Only.refl _ _⟩
    · rw [if_neg hbad]
      unfold badW at hbad
      obtain ⟨q, hq⟩ : ∃ q : Nat, n = 4 * (q : Int) := ⟨(n / 4).toNat, by have : n.tmod 4 = n % 4 := Int.tmod_eq_emod_of_nonneg (by omega); omega⟩
      have hq2 : n.tdiv 4 = (q : Int) := by rw [hq]; simp
      refine (mem40_3 g gw cv rv m a b n hR ha hgg q (by omega) hq hl w h hw).mono fun e w' hh => ?_
      obtain ⟨rfl, x1, x2, x3⟩ := hh
      rw [hq2]
      exact ⟨rfl, x1, x2, rfl, x3⟩
  · show Calls Try.prog 40 #[ptr g] w (MethP g gw cv rv m (if badW m n then (m, 5) else ({ m with W := m.W.set (n.tdiv 4).toNat (m.R a) }, 1)).1 4 a b n (if badW m n then (m, 5) else ({ m with W := m.W.set (n.tdiv 4).toNat (m.R a) }, 1)).2 w)
    by_cases hbad : badW m n
    · rw [if_pos hbad]
      refine (mem40_4w g gw cv rv m a b n hR ha hgg hn hbad w h hw).mono fun e w' hh => ?_
      obtain ⟨rfl, rfl⟩ := hh
      exact ⟨rfl, h, hw, rfl, Only.refl _ _⟩
    · rw [if_neg hbad]
      unfold badW at hbad
      obtain ⟨q, hq⟩ : ∃ q : Nat, n = 4 * (q : Int) := ⟨(n / 4).toNat, by have : n.tmod 4 = n % 4 := Int.tmod_eq_emod_of_nonneg (by omega); omega⟩
      have hq2 : n.tdiv 4 = (q : Int) := by rw [hq]; simp
      refine (mem40_4 g gw cv rv m a b n hR ha hgg q (by omega) hq hl w h hw).mono fun e w' hh => ?_
      obtain ⟨rfl, x1, x2, x3⟩ := hh
      rw [hq2]
      exact ⟨rfl, ⟨x1.h⟩, x2, by simp, x3⟩
  · exact (sum41_5 g cv rv _ m a b n hR ha hb w h).mono fun e w' hh => meth_of hgg rfl hw hh
  · exact (logic42_6 g cv rv _ m a b n hR ha hb w h).mono fun e w' hh => meth_of hgg rfl hw hh
  · exact (logic42_7 g cv rv _ m a b n hR ha hb w h).mono fun e w' hh => meth_of hgg rfl hw hh
  · exact (sum41_8 g cv rv _ m a b n hR ha hb w h).mono fun e w' hh => meth_of hgg rfl hw hh
  · exact (logic42_9 g cv rv _ m a b n hR ha hb w h).mono fun e w' hh => meth_of hgg rfl hw hh
  · exact (sum41_10 g cv rv _ m a b n hR ha hb w h).mono fun e w' hh => meth_of hgg rfl hw hh
  · exact (other43_11 g cv rv _ m a b n hR ha hb w h).mono fun e w' hh => meth_of hgg rfl hw hh
  · exact (sum41_12 g cv rv _ m a b n hR ha hb w h).mono fun e w' hh => meth_of hgg rfl hw hh
  · exact (move39_13 g cv rv _ m a b n w h).mono fun e w' hh => meth_of hgg rfl hw hh
  · refine (divide44 g cv rv _ m a b n hR ha w h).mono fun e w' hh => ?_
    obtain ⟨hh, ho⟩ := hh
    rcases hh with ⟨e1, e2, e3⟩ | ⟨q, r, e1, e2, e3⟩
    · have ee : exA m 14 a b n = (m, 4) := by simp only [exA, e1]
      rw [ee]
      exact meth_of hgg rfl hw ⟨e2, e3, ho⟩
    · have ee : exA m 14 a b n = ({ m with R := upd (upd m.R 0 q) 2 r }, 1) := by simp only [exA, e1]
      rw [ee]
      exact meth_of hgg rfl hw ⟨e2, e3, ho⟩
  · exact (other43_15 g cv rv _ m a b n hR ha hb w h).mono fun e w' hh => meth_of hgg rfl hw hh
  · exact (other43_16 g cv rv _ m a b n hR ha hb w h).mono fun e w' hh => meth_of hgg rfl hw hh
  · exact (other43_17 g cv rv _ m a b n hR ha hb w h).mono fun e w' hh => meth_of hgg rfl hw hh
  · exact (jump46 18 (by omega) g cv rv _ m a b n hat hn w h).mono fun e w' hh => meth_of hgg rfl hw hh
  · exact (jump46 19 (by omega) g cv rv _ m a b n hat hn w h).mono fun e w' hh => meth_of hgg rfl hw hh
  · exact (jump46 20 (by omega) g cv rv _ m a b n hat hn w h).mono fun e w' hh => meth_of hgg rfl hw hh
  · exact (jump46 21 (by omega) g cv rv _ m a b n hat hn w h).mono fun e w' hh => meth_of hgg rfl hw hh
  · exact (jump46 22 (by omega) g cv rv _ m a b n hat hn w h).mono fun e w' hh => meth_of hgg rfl hw hh
  · exact (jump46 23 (by omega) g cv rv _ m a b n hat hn w h).mono fun e w' hh => meth_of hgg rfl hw hh
  · exact (jump46 24 (by omega) g cv rv _ m a b n hat hn w h).mono fun e w' hh => meth_of hgg rfl hw hh
  · refine (leave45_25 g cv rv _ m a b n w h).mono fun e w' hh => ?_
    obtain ⟨rfl, rfl⟩ := hh
    exact ⟨rfl, h, hw, rfl, Only.refl _ _⟩
  · exact (leave45_26 g cv rv _ m a b n hn w h).mono fun e w' hh => meth_of hgg rfl hw hh
end Go.Proofs.Ytpcocfdgcihpdaa.rdw
