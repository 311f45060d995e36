/-
  sim.Machine.Step, whatever stands there.
-/
import Derived.Test.YtpcocfdgcihpdaaSmF
import Derived.Test.YtpcocfdgcihpdaaSmMeth
set_option maxHeartbeats 64000000
set_option maxRecDepth 1000000
set_option linter.unusedVariables false
set_option linter.unusedSimpArgs false
namespace Go.Proofs.Ytpcocfdgcihpdaa.rdw
open Go Go.RowKit Go.BigFrame
open Go.Proofs.Ytpcocfdgcihpdaa Go.Proofs.Ytpcocfdgcihpdaa.wr Go.Proofs.Ytpcocfdgcihpdaa.x86enc
set_option linter.unusedVariables false
set_option linter.unusedSimpArgs false
theorem decoded_out (g : Nat) (cb gb : Nat) (rv wv : Value) (m : Mach) (op a b n : Int) (bs : List Int) (hat : m.at_ < 0 ∨ (bs.length : Int) ≤ m.at_) (w : World)
    (h : SMem w g (csl gb bs.length cb) rv wv m op a b n) :
    Calls Try.prog 29 #[ptr g] w fun e w' => ∃ q, e = .returned (ptr q) ∧ w.heap.size ≤ q ∧ KMem w' q (.err 1) ∧ Only [] w w' := by
  have c0 := h.cell 0 rfl
  have c19 := h.cell 19 rfl
  obtain ⟨t, ht⟩ : ∃ t, m.at_ = t := ⟨_, rfl⟩
  rw [ht] at c19 hat
  have H := Lib.hid h; clear h
  have HT := Lib.hid ht; clear ht
  by_cases h1 : t < 0
  · have d1 : decide (t < 0) = true := decide_eq_true h1
    go_enter Try.func29, Try.ntmps29
    go_wp2_with fail
    go_quiet (fail)
    go_wp2_with fail
    go_ret
    exact ⟨_, rfl, by simp, look_new (by simp) rfl, ⟨rfl, rfl, rfl, by simp, fun c hc _ => Below.heap_alloc _ _ _ hc⟩⟩
  · have d1 : decide (t < 0) = false := decide_eq_false h1
    have d2 : decide ((bs.length : Int) ≤ t) = true := decide_eq_true (by omega)
    go_enter Try.func29, Try.ntmps29
    go_wp2_with fail
    go_quiet (fail)
    go_wp2_with fail
    go_ret
    exact ⟨_, rfl, by simp, look_new (by simp) rfl, ⟨rfl, rfl, rfl, by simp, fun c hc _ => Below.heap_alloc _ _ _ hc⟩⟩
def stepP (m : Mach) (d : RD.Dec) : Mach × Int :=
  match d with
  | .err _ => ({ m with over := 5 }, 5)
  | .ok op a b n len =>
    if (exA { m with at_ := m.at_ + len } op a.toNat b.toNat n).2 = 5 ∨ (exA { m with at_ := m.at_ + len } op a.toNat b.toNat n).2 = 4 then
      ({ (exA { m with at_ := m.at_ + len } op a.toNat b.toNat n).1 with at_ := m.at_, over := (exA { m with at_ := m.at_ + len } op a.toNat b.toNat n).2 }, (exA { m with at_ := m.at_ + len } op a.toNat b.toNat n).2)
    else if (exA { m with at_ := m.at_ + len } op a.toNat b.toNat n).2 = 2 then ({ (exA { m with at_ := m.at_ + len } op a.toNat b.toNat n).1 with over := 2 }, 2)
    else exA { m with at_ := m.at_ + len } op a.toNat b.toNat n
theorem okA_range' {u : Bool} {n : Int} (h : RD.okA u n = true) : ∃ r : Nat, r < 16 ∧ n = (r : Int) := by
  have hr : 0 ≤ n ∧ n ≤ 15 := by
    revert h; cases u <;> simp [RD.okA, RD.reg_iff] <;> omega
  exact ⟨n.toNat, by omega, by omega⟩
def WOk (m : Mach) : Prop := ∀ i, i < m.W.length → I32 (m.W.getD i 0)
theorem wrap32_rng (v : Int) : I32 (wrap32 v) := by unfold wrap32 I32; omega
theorem div_rng {v : Int} (h : I32 v) (k : Nat) : I32 (v / 2 ^ k) := by
  have hp : (0 : Int) < 2 ^ k := Int.pow_pos (by decide)
  unfold I32 at h ⊢
  constructor
  · rw [Int.le_ediv_iff_mul_le hp]
    have h1 : (1 : Int) ≤ 2 ^ k := hp
    have : (-2147483648 : Int) * 2 ^ k ≤ -2147483648 * 1 := Int.mul_le_mul_of_nonpos_left (by decide) h1
    omega
  · have h1 : (1 : Int) ≤ 2 ^ k := hp
    have := Int.ediv_lt_of_lt_mul hp (show v < 2147483648 * 2 ^ k by
      have : (2147483648 : Int) * 1 ≤ 2147483648 * 2 ^ k := Int.mul_le_mul_of_nonneg_left h1 (by decide)
      omega)
    omega
theorem res_ok {m : Mach} (h : RegOk m) (hw : WOk m) {a : Nat} {v : Int} (hv : I32 v) : RegOk (res m a v).1 ∧ WOk (res m a v).1 := ⟨h.upd hv rfl, hw⟩
theorem resF_ok {m : Mach} (h : RegOk m) (hw : WOk m) {a : Nat} {v : Int} : RegOk (resF m a v).1 ∧ WOk (resF m a v).1 := ⟨h.upd (w32_rng v) rfl, hw⟩
theorem exA_ok (m : Mach) (op a b : Nat) (n : Int) (h : RegOk m) (hw : WOk m) (h1 : 1 ≤ op) (h2 : op ≤ 26) (ha : a < 16) (hb : b < 16) (hn : I32 n) : RegOk (exA m op a b n).1 ∧ WOk (exA m op a b n).1 := by
  rcases RD.op_cases op h1 h2 with e | e | e | e | e | e | e | e | e | e | e | e | e | e | e | e | e | e | e | e | e | e | e | e | e | e <;> subst e
  · exact res_ok h hw hn
  · exact res_ok h hw (h b hb)
  · simp only [exA]
    split
    · exact ⟨h, hw⟩
    · rename_i hb'
      unfold badW at hb'
      refine res_ok h hw (hw _ ?_)
      have : n.tmod 4 = n % 4 := Int.tmod_eq_emod_of_nonneg (by omega)
      have : n.tdiv 4 = n / 4 := Int.tdiv_eq_ediv_of_nonneg (by omega)
      omega
  · simp only [exA]
    split
    · exact ⟨h, hw⟩
    · refine ⟨h, fun i hi => ?_⟩
      simp only [List.length_set] at hi
      by_cases e : (n.tdiv 4).toNat = i
      · subst e
        simp only [List.getD, List.getElem?_set_self hi]
        exact h a ha
      · simp only [List.getD, List.getElem?_set_ne e]
        exact hw i hi
  · exact resF_ok h hw
  · exact resF_ok h hw
  · exact resF_ok h hw
  · exact resF_ok h hw
  · exact resF_ok h hw
  · exact ⟨h, hw⟩
  · exact res_ok h hw (wrap32_rng _)
  · exact resF_ok h hw
  · exact res_ok h hw (by have := h 0 (by omega); unfold I32 at this ⊢; omega)
  · simp only [exA]
    cases hd : dvn (num m) (m.R a) with
    | none => exact ⟨h, hw⟩
    | some p =>
      obtain ⟨q, r⟩ := p
      have hqr : I32 q ∧ I32 r := by
        unfold dvn at hd
        by_cases h0 : m.R a = 0
        · rw [if_pos h0] at hd; cases hd
        · rw [if_neg h0] at hd
          by_cases hb' : (num m).tdiv (m.R a) < -2147483648 ∨ 2147483647 < (num m).tdiv (m.R a)
          · rw [if_pos hb'] at hd; cases hd
          · rw [if_neg hb'] at hd
            injection hd with hd
            injection hd with e1 e2
            subst e1 e2
            refine ⟨by unfold I32; omega, ?_⟩
            have hm := tmod_abs (num m) (m.R a)
            have hlt : (num m).natAbs % (m.R a).natAbs < (m.R a).natAbs := Nat.mod_lt _ (by omega)
            have hra := h a ha
            generalize (num m).natAbs % (m.R a).natAbs = M at *
            unfold I32 at hra ⊢
            rw [hm]; split <;> omega
      refine ⟨fun i hi => ?_, hw⟩
      show I32 (upd (upd m.R 0 q) 2 r i)
      unfold upd
      split
      · exact hqr.2
      · split
        · exact hqr.1
        · exact h i hi
  · exact res_ok h hw (wrap32_rng _)
  · exact res_ok h hw (div_rng (h a ha) _)
  · exact res_ok h hw (wrap32_rng _)
  · exact ⟨h, hw⟩
  · exact ⟨h, hw⟩
  · exact ⟨h, hw⟩
  · exact ⟨h, hw⟩
  · exact ⟨h, hw⟩
  · exact ⟨h, hw⟩
  · exact ⟨h, hw⟩
  · exact ⟨h, hw⟩
  · exact ⟨h, hw⟩
theorem reads_ex (x : List Int) : ∃ d, RD.Reads x d := by
  by_cases h : ∃ op, 1 ≤ op ∧ op ≤ 26 ∧ RD.hit op x = true
  · obtain ⟨op, h1, h2, h3⟩ := h
    exact ⟨_, .ok h1 h2 (RD.hit_iff h3)⟩
  · have hno : ∀ op, 1 ≤ op → op ≤ 26 → RD.hit op x = false := fun op h1 h2 => by
      cases hh : RD.hit op x with
      | false => rfl
      | true => exact absurd ⟨op, h1, h2, hh⟩ h
    by_cases hs : RD.start x
    · exact ⟨_, .cut hno hs⟩
    · exact ⟨_, .bad hno hs⟩
theorem decAt_ex (x : List Int) (t : Int) : ∃ d, DecAt x t d := by
  by_cases h : 0 ≤ t ∧ t < (x.length : Int)
  · obtain ⟨d, hd⟩ := reads_ex (x.drop t.toNat)
    exact ⟨d, .inl ⟨h.1, h.2, hd⟩⟩
  · exact ⟨_, .inr ⟨by omega, rfl⟩⟩
theorem read_fit {x : List Int} {op : Nat} {a b n : Int} {len : Nat} (h : RD.Reads x (.ok op a b n len)) : 1 ≤ op ∧ op ≤ 26 ∧ (∃ r : Nat, r < 16 ∧ a = (r : Int)) ∧ (∃ r : Nat, r < 16 ∧ b = (r : Int)) ∧ I32 n ∧ len ≤ 7 := by
  have hl := (RD.len_pos h).2.2
  cases h with
  | ok h1 h2 h =>
    obtain ⟨ha, hb, hn⟩ := (RD.valid_iff _ _ _ _).1 h.1
    refine ⟨h1, h2, okA_range' ha, okA_range' hb, ?_, hl⟩
    unfold I32
    rcases RD.nb_cases op with e | e | e <;> rw [e] at hn
    · rw [RD.okN_0] at hn; omega
    · rw [RD.okN_1] at hn; omega
    · rw [RD.okN_4] at hn; omega
theorem err_val {x : List Int} {e : Int} (h : RD.Reads x (.err e)) : e = 10 ∨ e = 12 := by
  cases h
  · exact .inl rfl
  · exact .inr rfl
theorem decodedA (g gr gw gb cb : Nat) (bs : List Int) (m : Mach) (w : World) (h : SimW w g gr gw gb cb bs m) (op a b n : Int) (hm : SMem w g (csl gb bs.length cb) (csl gr bs.length bs.length) (wsl gw m.W.length) m op a b n) :
    Calls Try.prog 29 #[ptr g] w fun e w' => ∃ q d L', e = .returned (ptr q) ∧ q ∉ [g, gr, gw] ∧ KMem w' q d ∧ DecAt bs m.at_ d ∧ RMem w' gr [g, gr, gw] bs L' ∧ Only [gr] w w' := by
  obtain ⟨_, ⟨L, hr⟩, hrow, hwm, hdis, hcap, hbyt, hregs⟩ := h
  have hlt : ∀ q ∈ [g, gr, gw], q < w.heap.size := by
    intro q hq
    simp only [List.mem_cons, List.not_mem_nil, or_false] at hq
    rcases hq with rfl | rfl | rfl
    · exact block_lt hm.h
    · exact block_lt hr.h
    · exact block_lt hwm.h
  by_cases hin : 0 ≤ m.at_ ∧ m.at_ < (bs.length : Int)
  · have := decoded29 g gr gb cb m.at_.toNat [g, gr, gw] (wsl gw m.W.length) m op a b n bs L ⟨by simp, hdis.1, by simp⟩ (by omega) (by omega) hbyt.1 hcap w hlt hm hr hrow
    rw [show ((m.at_.toNat : Nat) : Int) = m.at_ by omega] at this
    exact this
  · refine (decoded_out g cb gb _ _ m op a b n bs (by omega) w hm).mono fun e w' hh => ?_
    obtain ⟨q, rfl, hq, hk, ho⟩ := hh
    exact ⟨q, _, L, rfl, fun hin' => by have := hlt q hin'; omega, hk, .inr ⟨by omega, rfl⟩, hr.keep ho (by simp) (fun _ _ => by simp), ho.mono (by simp)⟩
end Go.Proofs.Ytpcocfdgcihpdaa.rdw
namespace Go.Proofs.Ytpcocfdgcihpdaa.rdw
open Go Go.RowKit Go.BigFrame
open Go.Proofs.Ytpcocfdgcihpdaa Go.Proofs.Ytpcocfdgcihpdaa.wr Go.Proofs.Ytpcocfdgcihpdaa.x86enc
theorem f_cases (op : Nat) (h1 : 1 ≤ op) (h2 : op ≤ 26) (m : Mach) (a b : Nat) (n : Int) : ∃ f s, fOf op = f ∧ (exA m op a b n).2 = s ∧ ((f = 39 ∧ s = 1) ∨ (f = 40 ∧ s = 1) ∨ (f = 40 ∧ s = 5) ∨ (f = 41 ∧ s = 1) ∨ (f = 42 ∧ s = 1) ∨ (f = 43 ∧ s = 1) ∨ (f = 44 ∧ s = 1) ∨ (f = 44 ∧ s = 4) ∨ (f = 45 ∧ s = 2) ∨ (f = 45 ∧ s = 3) ∨ (f = 46 ∧ s = 1)) := by
  refine ⟨_, _, rfl, rfl, ?_⟩
  rcases RD.op_cases op h1 h2 with e | e | e | e | e | e | e | e | e | e | e | e | e | e | e | e | e | e | e | e | e | e | e | e | e | e <;> subst e
  case inr.inr.inl => simp only [exA]; split <;> simp [fOf, res]
  case inr.inr.inr.inl => simp only [exA]; split <;> simp [fOf]
  case inr.inr.inr.inr.inr.inr.inr.inr.inr.inr.inr.inr.inr.inl => simp only [exA]; split <;> simp [fOf]
  all_goals simp [fOf, exA, res, resF]
def StepPost (g gr gw gb cb : Nat) (bs : List Int) (m : Mach) (d : RD.Dec) (w : World) (e : Ending) (w' : World) : Prop :=
  e = .returned (.int .i64 (stepP m d).2) ∧ SimW w' g gr gw gb cb bs (stepP m d).1 ∧ WOk (stepP m d).1 ∧ (stepP m d).1.W.length = m.W.length ∧ Only [g, gr, gw] w w'
theorem step_err (g gr gw gb cb : Nat) (bs : List Int) (m : Mach) (w : World) (h : SimW w g gr gw gb cb bs m) (hov : m.over = 0) (hwo : WOk m) (er : Int) (hd : DecAt bs m.at_ (.err er)) :
    Calls Try.prog 23 #[ptr g] w (StepPost g gr gw gb cb bs m (.err er) w) := by
  obtain ⟨op0, a0, b0, n0, hm⟩ := h.mem
  have D := decodedA g gr gw gb cb bs m w h op0 a0 b0 n0 hm
  have c20 := hm.cell 20 rfl
  rw [hov] at c20
  have her : er = 1 ∨ er = 10 ∨ er = 12 := by
    rcases hd with ⟨_, _, h⟩ | ⟨_, h⟩
    · exact .inr (err_val h)
    · injection h with h; exact .inl h
  have hne : (er == 0) = false := by simp; omega
  have HD := Lib.hid D; clear D
  have HS := Lib.hid h; clear h
  have HM := Lib.hid hm; clear hm
  have HDA := Lib.hid hd; clear hd
  have HWO := Lib.hid hwo; clear hwo her
  go_enter Try.func23, Try.ntmps23
  go_wp2_with (first
    | (go_at_call 29; with_reducible refine HD.out.mono ?_; rintro e w1 ⟨q, d, L', rfl, hqS, hK, hd', hR1, ho1⟩; obtain rfl := hd'.unique HDA.out; have hm1 := HM.out.keep ho1 (by simp; exact HS.out.dis.1); have q5 : w1.cell? ⟨q, 5, none⟩ = some (.int .i64 er) := (by unfold KMem kc at hK; simp [World.cell?, hK]); have HK := Lib.hid hK; have HM1 := Lib.hid hm1; clear hK hm1 hd')
    | (go_at_call 30; with_reducible refine (end30 g _ _ _ _ _ _ _ _ 5 _ HM1.out).mono ?_; rintro e w2 ⟨rfl, hm2, ho2⟩; have HM2 := Lib.hid hm2; clear hm2))
  go_ret
  have hs := HS.out
  have ho : Only [g, gr] w w2 := (ho1.mono (by simp)).trans (ho2.mono (by simp))
  refine ⟨rfl, ⟨⟨_, _, _, _, HM2.out⟩, ⟨L', hR1.keep ho2 (by simp; exact fun e => hs.dis.1 e.symm) (fun q hq => by simp at hq ⊢; exact hq.1)⟩, hs.row.keep ho (by simp; exact ⟨fun e => hs.dis.2.2.1 e.symm, fun e => hs.dis.2.2.2.2.1 e.symm⟩), hs.words.keep ho (by simp; exact ⟨fun e => hs.dis.2.1 e.symm, fun e => hs.dis.2.2.2.1 e.symm⟩), hs.dis, hs.cap, hs.byt, hs.regs⟩, HWO.out, rfl, ho.mono (by simp)⟩
theorem step_ok (g gr gw gb cb k : Nat) (bs : List Int) (m : Mach) (op a b : Nat) (n : Int) (len : Nat) (w : World) (h : SimW w g gr gw gb cb bs m) (hov : m.over = 0) (hwo : WOk m) (hwl : m.W.length ≤ 1000) (hk : m.at_ = (k : Int)) (hkl : k < bs.length)
    (hdat : DecAt bs m.at_ (.ok op a b n len)) (ho1 : 1 ≤ op) (ho2 : op ≤ 26) (ha : a < 16) (hb : b < 16) (hn : I32 n) (hlen : len ≤ 7) :
    Calls Try.prog 23 #[ptr g] w (StepPost g gr gw gb cb bs m (.ok op a b n len) w) := by
  obtain ⟨op0, a0, b0, n0, hm⟩ := h.mem
  have D := decodedA g gr gw gb cb bs m w h op0 a0 b0 n0 hm
  obtain ⟨_, ⟨L, hr⟩, hrow, hwm, hdis, hcap, hbyt, hregs⟩ := h
  have c20 := hm.cell 20 rfl
  rw [hov] at c20
  have HD := Lib.hid D; clear D
  have HM := Lib.hid hm; clear hm
  have HW := Lib.hid hrow; clear hrow
  have HWM := Lib.hid hwm; clear hwm
  have HDI := Lib.hid hdis; clear hdis
  have HC := Lib.hid hcap; clear hcap
  have HBY := Lib.hid hbyt; clear hbyt
  have HRG := Lib.hid hregs; clear hregs
  have HWO := Lib.hid hwo; clear hwo hr
  have HDA := Lib.hid hdat; clear hdat
  have e19 : IntKind.i64.wrap ((k : Int) + (len : Int)) = (k : Int) + (len : Int) := by have := HBY.out.2; rw [IntKind.wrap_i64]; omega
  go_enter Try.func23, Try.ntmps23
  go_upto_region 8 with (go_at_call 29; with_reducible refine HD.out.mono ?_; rintro e w1 ⟨q, d, L', rfl, hqS, hK, hd', hR1, ho1⟩; obtain rfl := hd'.unique HDA.out; have hm1 := HM.out.keep ho1 (by simp; exact HDI.out.1); obtain ⟨q0, q1, q2, q3, q4, q5⟩ : w1.cell? ⟨q, 0, none⟩ = some (.int .i64 (op : Int)) ∧ w1.cell? ⟨q, 1, none⟩ = some (.int .i64 (a : Int)) ∧ w1.cell? ⟨q, 2, none⟩ = some (.int .i64 (b : Int)) ∧ w1.cell? ⟨q, 3, none⟩ = some (.int .i32 n) ∧ w1.cell? ⟨q, 4, none⟩ = some (.int .i64 (len : Int)) ∧ w1.cell? ⟨q, 5, none⟩ = some (.int .i64 0) := (by unfold KMem kc at hK; simp [World.cell?, hK]); have g19 := hm1.cell 19 rfl; have g25 := hm1.cell 25 rfl; have g26 := hm1.cell 26 rfl; have g27 := hm1.cell 27 rfl; have g28 := hm1.cell 28 rfl; have y25 := hm1.froz 25; have y26 := hm1.froz 26; have y27 := hm1.froz 27; have y28 := hm1.froz 28; have HK := Lib.hid hK; have HM1 := Lib.hid hm1; clear hK hm1 hd')
  have hm2 := HM1.out.setI op a b n
  have ho2 := only_setI w1 g op a b n
  have hK2 := HK.out.keep ho2 (by simp at hqS ⊢; exact hqS.1)
  have hR2 := hR1.keep ho2 (by simp; exact fun e => HDI.out.1 e.symm) (fun q hq => by simp at hq ⊢; exact hq.1)
  have ho02 : Only [g, gr] w _ := (ho1.mono (T := [g, gr]) (by simp)).trans (ho2.mono (T := [g, gr]) (by simp))
  clear g19 g25 g26 g27 g28 y25 y26 y27 y28 q0 q1 q2 q3 q4 q5 c20 ho1 ho2 hR1 HK HM1
  generalize (((w1.setCell ⟨g, 25, none⟩ (.int .i64 (op : Int))).setCell ⟨g, 26, none⟩ (.int .i64 (a : Int))).setCell ⟨g, 27, none⟩ (.int .i64 (b : Int))).setCell ⟨g, 28, none⟩ (.int .i32 n) = w2 at *
  have g19 := hm2.cell 19 rfl
  rw [hk] at g19
  have y19 := hm2.froz 19
  have q4 : w2.cell? ⟨q, 4, none⟩ = some (.int .i64 (len : Int)) := by unfold KMem kc at hK2; simp [World.cell?, hK2]
  have HM2 := Lib.hid hm2; clear hm2
  have HR2 := Lib.hid hR2; clear hR2
  have HO2 := Lib.hid ho02; clear ho02
  have HK2 := Lib.hid hK2; clear hK2
  go_region
  have hm3 : SMem ((w2.setCell ⟨g, 19, none⟩ (.int .i64 ((k : Int) + (len : Int)))).drew) g (csl gb bs.length cb) (csl gr bs.length bs.length) (wsl gw m.W.length) { m with at_ := m.at_ + len } op a b n := (HM2.out.set 19 _ (by rw [hk]; rfl)).drew
  have ho3 : Only [g] w2 ((w2.setCell ⟨g, 19, none⟩ (.int .i64 ((k : Int) + (len : Int)))).drew) := ((Only.refl _ _).set _ (by simp)).drew
  have hR3 := HR2.out.keep ho3 (by simp; exact fun e => HDI.out.1 e.symm) (fun q hq => by simp at hq ⊢; exact hq.1)
  have ho03 := HO2.out.trans (ho3.mono (T := [g, gr]) (by simp))
  clear g19 y19 q4 ho3
  generalize (w2.setCell ⟨g, 19, none⟩ (.int .i64 ((k : Int) + (len : Int)))).drew = w3 at *
  have HM3 := Lib.hid hm3; clear hm3
  have HR3 := Lib.hid hR3; clear hR3
  have HO3 := Lib.hid ho03; clear ho03
  have hw3 : WMem w3 gw m.W := HWM.out.keep HO3.out (by simp; exact ⟨fun e => HDI.out.2.1 e.symm, fun e => HDI.out.2.2.2.1 e.symm⟩)
  have MT := meth g gw _ _ { m with at_ := m.at_ + len } op a b n ho1 ho2 HRG.out ha hb hn (by show 0 ≤ m.at_ + (len : Int) ∧ m.at_ + (len : Int) ≤ 1000000; have := HBY.out.2; omega) hwl (fun e => HDI.out.2.1 e.symm) w3 HM3.out hw3
  have XO := exA_ok { m with at_ := m.at_ + len } op a b n HRG.out HWO.out ho1 ho2 ha hb hn
  obtain ⟨f, s, hf, hs, hfs⟩ := f_cases op ho1 ho2 { m with at_ := m.at_ + len } a b n
  have hd31 := fun f' (e : f' = f) => does31_all g _ _ _ _ op a b n f' w3 HM3.out ho1 ho2 (by rw [e, ← hf]; rfl)
  have hst : stepP m (.ok op a b n len) = if s = 5 ∨ s = 4 then ({ (exA { m with at_ := m.at_ + len } op a b n).1 with at_ := m.at_, over := s }, s) else if s = 2 then ({ (exA { m with at_ := m.at_ + len } op a b n).1 with over := 2 }, 2) else exA { m with at_ := m.at_ + len } op a b n := by
    simp only [stepP, Int.toNat_natCast, hs]
  rw [hf, hs] at MT
  obtain ⟨M2, hM2⟩ : ∃ M2, (exA { m with at_ := m.at_ + len } op a b n).1 = M2 := ⟨_, rfl⟩
  have hex : exA { m with at_ := m.at_ + len } op a b n = (M2, s) := by rw [← hM2, ← hs]
  rw [hM2] at MT XO
  rw [hex] at hst
  have fin : ∀ (w4 : World) (m' : Mach), m'.W = M2.W → m'.R = M2.R → M2.W.length = m.W.length → Only [g, gw] w3 w4 → SMem w4 g (csl gb bs.length cb) (csl gr bs.length bs.length) (wsl gw m.W.length) m' op a b n → WMem w4 gw M2.W → SimW w4 g gr gw gb cb bs m' ∧ WOk m' ∧ m'.W.length = m.W.length ∧ Only [g, gr, gw] w w4 := by
    intro w4 m' hW hRR hWl ho4 hm4 hw4
    have ho : Only [g, gr, gw] w w4 := (HO3.out.mono (T := [g, gr, gw]) (by simp)).trans (ho4.mono (T := [g, gr, gw]) (by simp))
    have hdis := HDI.out
    refine ⟨⟨⟨_, _, _, _, by rw [hW, hWl]; exact hm4⟩, ⟨L', HR3.out.keep ho4 (by simp; exact ⟨fun e => hdis.1 e.symm, hdis.2.2.2.1⟩) (fun q hq => by simp at hq ⊢; exact ⟨hq.1, hq.2.2⟩)⟩, HW.out.keep ho (by simp; exact ⟨fun e => hdis.2.2.1 e.symm, fun e => hdis.2.2.2.2.1 e.symm, fun e => hdis.2.2.2.2.2 e.symm⟩), by rw [hW]; exact hw4, hdis, HC.out, HBY.out, fun r hr => by rw [hRR]; exact XO.1 r hr⟩, fun i hi => by rw [hW] at hi ⊢; exact XO.2 i hi, by rw [hW]; exact hWl, ho⟩
  have FIN := Lib.hid fin
  have MTT := Lib.hid MT
  have D31 := Lib.hid hd31
  have HST := Lib.hid hst
  clear fin MT hd31 hst XO hex hM2 hs hf hw3
  unfold StepPost
  rcases hfs with ⟨rfl, rfl⟩ | ⟨rfl, rfl⟩ | ⟨rfl, rfl⟩ | ⟨rfl, rfl⟩ | ⟨rfl, rfl⟩ | ⟨rfl, rfl⟩ | ⟨rfl, rfl⟩ | ⟨rfl, rfl⟩ | ⟨rfl, rfl⟩ | ⟨rfl, rfl⟩ | ⟨rfl, rfl⟩
  · have HV : Hid (stepP m (.ok op a b n len) = (M2, 1)) := HST
    go_wp2_with (first | (go_at_call 31; with_reducible refine (D31.out 39 rfl).mono ?_; rintro e w4 ⟨rfl, rfl⟩) | (go_at_call 39; with_reducible refine MTT.out.mono ?_; unfold MethP; rintro e w4 ⟨rfl, hm4, hw4, hl4, ho4⟩; have y19 := hm4.froz 19; have g19 := hm4.cell 19 rfl; have HM4 := Lib.hid hm4; have HW4 := Lib.hid hw4; clear hm4 hw4))
    go_ret
    unfold StepPost
    rw [HV.out]
    exact ⟨rfl, FIN.out w4 M2 rfl rfl hl4 ho4 HM4.out HW4.out⟩
  · have HV : Hid (stepP m (.ok op a b n len) = (M2, 1)) := HST
    go_wp2_with (first | (go_at_call 31; with_reducible refine (D31.out 40 rfl).mono ?_; rintro e w4 ⟨rfl, rfl⟩) | (go_at_call 40; with_reducible refine MTT.out.mono ?_; unfold MethP; rintro e w4 ⟨rfl, hm4, hw4, hl4, ho4⟩; have y19 := hm4.froz 19; have g19 := hm4.cell 19 rfl; have HM4 := Lib.hid hm4; have HW4 := Lib.hid hw4; clear hm4 hw4))
    go_ret
    unfold StepPost
    rw [HV.out]
    exact ⟨rfl, FIN.out w4 M2 rfl rfl hl4 ho4 HM4.out HW4.out⟩
  · have HV : Hid (stepP m (.ok op a b n len) = ({ M2 with at_ := m.at_, over := 5 }, 5)) := HST
    go_wp2_with (first | (go_at_call 31; with_reducible refine (D31.out 40 rfl).mono ?_; rintro e w4 ⟨rfl, rfl⟩) | (go_at_call 40; with_reducible refine MTT.out.mono ?_; unfold MethP; rintro e w4 ⟨rfl, hm4, hw4, hl4, ho4⟩; have y19 := hm4.froz 19; have g19 := hm4.cell 19 rfl; have HM4 := Lib.hid hm4; have HW4 := Lib.hid hw4; clear hm4 hw4) | (go_at_call 30; have hm5 : SMem (w4.setCell ⟨g, 19, none⟩ (.int .i64 (k : Int))) g (csl gb bs.length cb) (csl gr bs.length bs.length) (wsl gw m.W.length) { M2 with at_ := m.at_ } op a b n := HM4.out.set 19 _ (by rw [hk]; rfl); with_reducible refine (end30 g _ _ _ _ _ _ _ _ 5 _ hm5).mono ?_; rintro e w5 ⟨rfl, hm6, ho5⟩; have HM5 := Lib.hid hm6; clear hm5 hm6))
    go_ret
    unfold StepPost
    rw [HV.out]
    have ho6 : Only [g] w4 (w4.setCell ⟨g, 19, none⟩ (.int .i64 (k : Int))) := (Only.refl _ _).set _ (by simp)
    exact ⟨rfl, FIN.out w5 _ rfl rfl hl4 (ho4.trans ((ho6.trans ho5).mono (by simp))) HM5.out (HW4.out.keep (ho6.trans ho5) (by simp; exact fun e => HDI.out.2.1 e.symm))⟩
  · have HV : Hid (stepP m (.ok op a b n len) = (M2, 1)) := HST
    go_wp2_with (first | (go_at_call 31; with_reducible refine (D31.out 41 rfl).mono ?_; rintro e w4 ⟨rfl, rfl⟩) | (go_at_call 41; with_reducible refine MTT.out.mono ?_; unfold MethP; rintro e w4 ⟨rfl, hm4, hw4, hl4, ho4⟩; have y19 := hm4.froz 19; have g19 := hm4.cell 19 rfl; have HM4 := Lib.hid hm4; have HW4 := Lib.hid hw4; clear hm4 hw4))
    go_ret
    unfold StepPost
    rw [HV.out]
    exact ⟨rfl, FIN.out w4 M2 rfl rfl hl4 ho4 HM4.out HW4.out⟩
  · have HV : Hid (stepP m (.ok op a b n len) = (M2, 1)) := HST
    go_wp2_with (first | (go_at_call 31; with_reducible refine (D31.out 42 rfl).mono ?_; rintro e w4 ⟨rfl, rfl⟩) | (go_at_call 42; with_reducible refine MTT.out.mono ?_; unfold MethP; rintro e w4 ⟨rfl, hm4, hw4, hl4, ho4⟩; have y19 := hm4.froz 19; have g19 := hm4.cell 19 rfl; have HM4 := Lib.hid hm4; have HW4 := Lib.hid hw4; clear hm4 hw4))
    go_ret
    unfold StepPost
    rw [HV.out]
    exact ⟨rfl, FIN.out w4 M2 rfl rfl hl4 ho4 HM4.out HW4.out⟩
  · have HV : Hid (stepP m (.ok op a b n len) = (M2, 1)) := HST
    go_wp2_with (first | (go_at_call 31; with_reducible refine (D31.out 43 rfl).mono ?_; rintro e w4 ⟨rfl, rfl⟩) | (go_at_call 43; with_reducible refine MTT.out.mono ?_; unfold MethP; rintro e w4 ⟨rfl, hm4, hw4, hl4, ho4⟩; have y19 := hm4.froz 19; have g19 := hm4.cell 19 rfl; have HM4 := Lib.hid hm4; have HW4 := Lib.hid hw4; clear hm4 hw4))
    go_ret
    unfold StepPost
    rw [HV.out]
    exact ⟨rfl, FIN.out w4 M2 rfl rfl hl4 ho4 HM4.out HW4.out⟩
  · have HV : Hid (stepP m (.ok op a b n len) = (M2, 1)) := HST
    go_wp2_with (first | (go_at_call 31; with_reducible refine (D31.out 44 rfl).mono ?_; rintro e w4 ⟨rfl, rfl⟩) | (go_at_call 44; with_reducible refine MTT.out.mono ?_; unfold MethP; rintro e w4 ⟨rfl, hm4, hw4, hl4, ho4⟩; have y19 := hm4.froz 19; have g19 := hm4.cell 19 rfl; have HM4 := Lib.hid hm4; have HW4 := Lib.hid hw4; clear hm4 hw4))
    go_ret
    unfold StepPost
    rw [HV.out]
    exact ⟨rfl, FIN.out w4 M2 rfl rfl hl4 ho4 HM4.out HW4.out⟩
  · have HV : Hid (stepP m (.ok op a b n len) = ({ M2 with at_ := m.at_, over := 4 }, 4)) := HST
    go_wp2_with (first | (go_at_call 31; with_reducible refine (D31.out 44 rfl).mono ?_; rintro e w4 ⟨rfl, rfl⟩) | (go_at_call 44; with_reducible refine MTT.out.mono ?_; unfold MethP; rintro e w4 ⟨rfl, hm4, hw4, hl4, ho4⟩; have y19 := hm4.froz 19; have g19 := hm4.cell 19 rfl; have HM4 := Lib.hid hm4; have HW4 := Lib.hid hw4; clear hm4 hw4) | (go_at_call 30; have hm5 : SMem (w4.setCell ⟨g, 19, none⟩ (.int .i64 (k : Int))) g (csl gb bs.length cb) (csl gr bs.length bs.length) (wsl gw m.W.length) { M2 with at_ := m.at_ } op a b n := HM4.out.set 19 _ (by rw [hk]; rfl); with_reducible refine (end30 g _ _ _ _ _ _ _ _ 4 _ hm5).mono ?_; rintro e w5 ⟨rfl, hm6, ho5⟩; have HM5 := Lib.hid hm6; clear hm5 hm6))
    go_ret
    unfold StepPost
    rw [HV.out]
    have ho6 : Only [g] w4 (w4.setCell ⟨g, 19, none⟩ (.int .i64 (k : Int))) := (Only.refl _ _).set _ (by simp)
    exact ⟨rfl, FIN.out w5 _ rfl rfl hl4 (ho4.trans ((ho6.trans ho5).mono (by simp))) HM5.out (HW4.out.keep (ho6.trans ho5) (by simp; exact fun e => HDI.out.2.1 e.symm))⟩
  · have HV : Hid (stepP m (.ok op a b n len) = ({ M2 with over := 2 }, 2)) := HST
    go_wp2_with (first | (go_at_call 31; with_reducible refine (D31.out 45 rfl).mono ?_; rintro e w4 ⟨rfl, rfl⟩) | (go_at_call 45; with_reducible refine MTT.out.mono ?_; unfold MethP; rintro e w4 ⟨rfl, hm4, hw4, hl4, ho4⟩; have y19 := hm4.froz 19; have g19 := hm4.cell 19 rfl; have HM4 := Lib.hid hm4; have HW4 := Lib.hid hw4; clear hm4 hw4) | (go_at_call 30; with_reducible refine (end30 g _ _ _ _ _ _ _ _ 2 _ HM4.out).mono ?_; rintro e w5 ⟨rfl, hm5, ho5⟩; have HM5 := Lib.hid hm5; clear hm5))
    go_ret
    unfold StepPost
    rw [HV.out]
    exact ⟨rfl, FIN.out w5 _ rfl rfl hl4 (ho4.trans (ho5.mono (by simp))) HM5.out (HW4.out.keep ho5 (by simp; exact fun e => HDI.out.2.1 e.symm))⟩
  · have HV : Hid (stepP m (.ok op a b n len) = (M2, 3)) := HST
    go_wp2_with (first | (go_at_call 31; with_reducible refine (D31.out 45 rfl).mono ?_; rintro e w4 ⟨rfl, rfl⟩) | (go_at_call 45; with_reducible refine MTT.out.mono ?_; unfold MethP; rintro e w4 ⟨rfl, hm4, hw4, hl4, ho4⟩; have y19 := hm4.froz 19; have g19 := hm4.cell 19 rfl; have HM4 := Lib.hid hm4; have HW4 := Lib.hid hw4; clear hm4 hw4))
    go_ret
    unfold StepPost
    rw [HV.out]
    exact ⟨rfl, FIN.out w4 M2 rfl rfl hl4 ho4 HM4.out HW4.out⟩
  · have HV : Hid (stepP m (.ok op a b n len) = (M2, 1)) := HST
    go_wp2_with (first | (go_at_call 31; with_reducible refine (D31.out 46 rfl).mono ?_; rintro e w4 ⟨rfl, rfl⟩) | (go_at_call 46; with_reducible refine MTT.out.mono ?_; unfold MethP; rintro e w4 ⟨rfl, hm4, hw4, hl4, ho4⟩; have y19 := hm4.froz 19; have g19 := hm4.cell 19 rfl; have HM4 := Lib.hid hm4; have HW4 := Lib.hid hw4; clear hm4 hw4))
    go_ret
    unfold StepPost
    rw [HV.out]
    exact ⟨rfl, FIN.out w4 M2 rfl rfl hl4 ho4 HM4.out HW4.out⟩
end Go.Proofs.Ytpcocfdgcihpdaa.rdw
namespace Go.Proofs.Ytpcocfdgcihpdaa.rdw
open Go Go.RowKit Go.BigFrame
open Go.Proofs.Ytpcocfdgcihpdaa Go.Proofs.Ytpcocfdgcihpdaa.wr Go.Proofs.Ytpcocfdgcihpdaa.x86enc
def next (bs : List Int) (m m' : Mach) (s : Int) : Prop := (m.over ≠ 0 ∧ m' = m ∧ s = m.over) ∨ (m.over = 0 ∧ ∃ d, DecAt bs m.at_ d ∧ m' = (stepP m d).1 ∧ s = (stepP m d).2)
theorem next_unique {bs : List Int} {m m1 m2 : Mach} {s1 s2 : Int} (h : next bs m m1 s1) (h' : next bs m m2 s2) : m1 = m2 ∧ s1 = s2 := by
  rcases h with ⟨a, rfl, rfl⟩ | ⟨a, d, hd, rfl, rfl⟩ <;> rcases h' with ⟨b, rfl, rfl⟩ | ⟨b, d', hd', rfl, rfl⟩
  · exact ⟨rfl, rfl⟩
  · exact absurd b a
  · exact absurd a b
  · obtain rfl := hd.unique hd'
    exact ⟨rfl, rfl⟩
inductive RunR (bs : List Int) (m : Mach) : Nat → Mach → Int → Prop where
  | zero : RunR bs m 0 m 1
  | more {n : Nat} {m1 m2 : Mach} {s : Int} (h : RunR bs m n m1 1) (hn : next bs m1 m2 s) : RunR bs m (n + 1) m2 s
theorem RunR.unique {bs : List Int} {m : Mach} : ∀ {n : Nat} {m1 m2 : Mach} {s1 s2 : Int}, RunR bs m n m1 s1 → RunR bs m n m2 s2 → m1 = m2 ∧ s1 = s2
  | 0, _, _, _, _, h, h' => by cases h; cases h'; exact ⟨rfl, rfl⟩
  | n + 1, _, _, _, _, h, h' => by
    cases h with
    | more a an => cases h' with
      | more b bn =>
        obtain ⟨rfl, _⟩ := a.unique b
        exact next_unique an bn
theorem RunR.pre {bs : List Int} {m : Mach} : ∀ {n k : Nat} {m1 : Mach} {s1 : Int}, RunR bs m n m1 s1 → k < n → ∃ m2, RunR bs m k m2 1
  | 0, _, _, _, _, hk => by omega
  | n + 1, k, _, _, h, hk => by
    cases h with
    | more a an =>
      by_cases e : k = n
      · subst e; exact ⟨_, a⟩
      · exact a.pre (by omega)
theorem RunR.same {bs : List Int} {m : Mach} {lim n1 n2 : Nat} {m1 m2 : Mach} {s1 s2 : Int} (h1 : RunR bs m n1 m1 s1) (h2 : RunR bs m n2 m2 s2) (l1 : n1 ≤ lim) (l2 : n2 ≤ lim) (e1 : n1 = lim ∨ s1 ≠ 1) (e2 : n2 = lim ∨ s2 ≠ 1) : n1 = n2 ∧ m1 = m2 ∧ s1 = s2 := by
  have key : n1 = n2 := by
    rcases Nat.lt_trichotomy n1 n2 with h | h | h
    · obtain ⟨m3, h3⟩ := h2.pre h
      obtain ⟨_, e⟩ := h1.unique h3
      rcases e1 with e1 | e1
      · omega
      · exact absurd e e1
    · exact h
    · obtain ⟨m3, h3⟩ := h1.pre h
      obtain ⟨_, e⟩ := h2.unique h3
      rcases e2 with e2 | e2
      · omega
      · exact absurd e e2
  subst key
  exact ⟨rfl, h1.unique h2⟩
structure SimA (w : World) (g gr gw gb cb : Nat) (bs : List Int) (m : Mach) : Prop where
  sim : SimW w g gr gw gb cb bs m
  wok : WOk m
  wl : m.W.length ≤ 1000
theorem step_over (g : Nat) (cv rv wv : Value) (m : Mach) (op a b n : Int) (hov : m.over ≠ 0) (w : World) (h : SMem w g cv rv wv m op a b n) :
    Calls Try.prog 23 #[ptr g] w fun e w' => e = .returned (.int .i64 m.over) ∧ w' = w := by
  have c20 := h.cell 20 rfl
  have H := Lib.hid h; clear h
  have hb : (m.over == 0) = false := by simp [hov]
  obtain ⟨t, ht⟩ : ∃ t, m.over = t := ⟨_, rfl⟩
  rw [ht] at c20 hb ⊢
  clear ht hov
  go_enter Try.func23, Try.ntmps23
  go_wp2_with fail
  go_ret
  exact ⟨rfl, rfl⟩
theorem stepA (g gr gw gb cb : Nat) (bs : List Int) (m : Mach) (w : World) (h : SimA w g gr gw gb cb bs m) :
    Calls Try.prog 23 #[ptr g] w fun e w' => ∃ m' s, e = .returned (.int .i64 s) ∧ next bs m m' s ∧ SimA w' g gr gw gb cb bs m' ∧ m'.W.length = m.W.length ∧ Only [g, gr, gw] w w' := by
  by_cases hov : m.over = 0
  · obtain ⟨d, hd⟩ := decAt_ex bs m.at_
    have hn : next bs m (stepP m d).1 (stepP m d).2 := .inr ⟨hov, d, hd, rfl, rfl⟩
    cases d with
    | err er =>
      refine (step_err g gr gw gb cb bs m w h.sim hov h.wok er hd).mono fun e w' hh => ?_
      obtain ⟨e1, e2, e3, e4, e5⟩ := hh
      exact ⟨_, _, e1, hn, ⟨e2, e3, by rw [e4]; exact h.wl⟩, e4, e5⟩
    | ok op a b n len =>
      have hin : 0 ≤ m.at_ ∧ m.at_ < (bs.length : Int) ∧ RD.Reads (bs.drop m.at_.toNat) (.ok op a b n len) := by
        rcases hd with h | ⟨_, h⟩
        · exact h
        · cases h
      obtain ⟨f1, f2, ⟨ra, ha, rfl⟩, ⟨rb, hb, rfl⟩, hn', hl⟩ := read_fit hin.2.2
      refine (step_ok g gr gw gb cb m.at_.toNat bs m op ra rb n len w h.sim hov h.wok h.wl (by omega) (by omega) hd f1 f2 ha hb hn' hl).mono fun e w' hh => ?_
      obtain ⟨e1, e2, e3, e4, e5⟩ := hh
      exact ⟨_, _, e1, hn, ⟨e2, e3, by rw [e4]; exact h.wl⟩, e4, e5⟩
  · obtain ⟨op0, a0, b0, n0, hm⟩ := h.sim.mem
    refine (step_over g _ _ _ m op0 a0 b0 n0 hov w hm).mono fun e w' hh => ?_
    obtain ⟨rfl, rfl⟩ := hh
    exact ⟨m, m.over, rfl, .inl ⟨hov, rfl, rfl⟩, h, rfl, Only.refl _ _⟩
end Go.Proofs.Ytpcocfdgcihpdaa.rdw
