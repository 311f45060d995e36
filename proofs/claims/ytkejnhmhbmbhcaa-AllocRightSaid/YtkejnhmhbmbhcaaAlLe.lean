/-
  AllocRight: the walk.
-/
import Derived.Test.YtkejnhmhbmbhcaaAlLf
import Derived.Test.YtkejnhmhbmbhcaaAlRuns
set_option maxHeartbeats 64000000
set_option maxRecDepth 1000000
set_option linter.unusedVariables false
set_option linter.unusedSimpArgs false
namespace Go.Proofs.Ytkejnhmhbmbhcaa.al
open Go Go.RowKit Go.BigFrame Go.Maps
open Go.Proofs.Ytkejnhmhbmbhcaa
theorem most_iff {s : AlScan.Sps} {R n : Nat} {E : Nat → Nat} {a : AlScan.St} (o : AlScan.Ordr s n E) (hf : Fine s n) (h : AlScan.At s R n n E a) : AlScan.mx s n 90 ≤ R ↔ a.cnt = 0 := by
  have hF : ∀ g, g < n → s.F g ≤ s.T g := fun g hg => (hf.t g hg).1
  have h0 : ∀ g, g < n → 0 ≤ s.F g := fun g hg => (hf.f g hg).1
  have hp : Pl s R n a.reg a.spill ∨ True := .inr trivial
  constructor
  · intro hm
    refine Classical.byContradiction fun hc => ?_
    obtain ⟨g, hg, h1⟩ := AlScan.cv_spill o hF h0 n (Nat.le_refl _) a h.st (by omega)
    have hb := hf.f g hg
    obtain ⟨x, hx⟩ : ∃ x : Nat, s.F g = (x : Int) := ⟨(s.F g).toNat, by omega⟩
    rw [hx] at h1
    have := AlScan.mx_ge s n 90 x (by omega)
    omega
  · intro hc
    refine AlScan.mx_up (fun x => AlScan.cv_regs (reg := a.reg) (fun i hi => ?_) (fun i j hi hj hne h1 h2 h3 => ?_)) 90
    · rcases h.each o i hi with ⟨e1, e2, e3⟩ | ⟨r, e1, e2, e3⟩ <;> omega
    · obtain ⟨d, now, hinv, hd, _⟩ := h.inv
      have hin : ∀ i, i < n → i ∈ d := fun i hi => (hd i).2 (o.on i hi)
      rcases hinv.apart i (hin i hi) j (hin j hj) hne h1 h2 with h4 | h4 <;> omega
theorem law5 (o : Option Addr) (N0 cap0 : Nat) (X : Nat → Int) (z1 : Int) (w : World) (h : 0 < N0 → ∃ g off, o = some ⟨g, off, none⟩ ∧ ∀ i, i < N0 → w.cell? ⟨g, off + i, none⟩ = some (.int .i64 (X i))) :
    Calls Try.prog 5 #[.slice o N0 cap0, .int .i64 z1] w fun e w' => e = .returned (.bool true) ∧ Below w.heap.size w w' := by
  have C11 := Lib.hid (fine11 o N0 cap0 X w h)
  clear h
  go_enter Try.func5, Try.ntmps5
  go_wp2_with fail
  (with_reducible refine C11.out.mono ?_)
  rintro ee w1 ⟨hb1, lv, n, s, hn, hsv, hf, rfl⟩
  go_wp2_with fail
  (with_reducible refine (w16 _ _).mono ?_)
  rintro ee w1' ⟨⟨R, hR, rfl⟩, rfl⟩
  go_wp2_with fail
  (with_reducible refine (scanF (R := R) hsv hf hn hR).mono ?_)
  rintro ee w2 ⟨hb2, ob, E, a, hE, hA, hP, ho1, ho2, rfl⟩
  have ho := hE.ordr
  have hcn := cnt_le ho (fun g hg => (hf.t g hg).1) (fun g hg => (hf.f g hg).1) hA
  have hpl : Pl s R n a.reg a.spill := Pl.of ho hA (by omega)
  have hmost := most_iff ho hf hA
  have hmxn := AlScan.mx_le s n 90
  have hsv2 := hsv.below hb2
  obtain ⟨o', c', rfl, hsvx⟩ := hsv2
  have hsv2 : SpV w2 (.slice o' n c') n s := ⟨o', c', rfl, hsvx⟩
  have cp := right13 o' n c' ob n R s s.V a.reg a.spill (by omega) (Nat.le_refl _) (by omega) hpl.form w2 hsv2 hP ho2
  have hbel : Below w.heap.size w w2 := hb1.trans (hb2.mono hb1.size)
  obtain ⟨ca, hca⟩ : ∃ ca, a.cnt = ca := ⟨_, rfl⟩
  simp only [hca] at hmost hcn ⊢
  have HPL := Lib.hid hpl
  have HP := Lib.hid hP
  have HSV := Lib.hid hsv2
  have HB := Lib.hid hbel
  have HMO := Lib.hid hmost
  clear hpl hP hsv hsv2 hsvx hbel hb1 hb2 hf hE hA ho ho1 hmost hca
  go_wp2_with fail
  (with_reducible refine cp.mono ?_)
  clear cp
  rintro ee w3 ⟨hb3, hres⟩
  have hres2 : ee = .returned (.bool true) := by
    rcases hres with ⟨h1, h2⟩ | ⟨h1, h2⟩
    · exact h2
    · exact absurd HPL.out.right h1
  subst hres2
  have HB3 := Lib.hid (HB.out.trans (hb3.mono HB.out.size))
  have HP3 := Lib.hid (HP.out.below ho2 hb3)
  have HSV3 := Lib.hid (HSV.out.below hb3)
  have hob3 : ob < w3.heap.size := by have := hb3.size; omega
  clear hb3 hres HP HSV HB
  go_wp2_with fail
  go_loopw [9, 10] (fun v u wq => ∃ x : Nat, x ≤ 90 ∧ u = .int .i64 (x : Int) ∧ v = .int .i64 (AlScan.mx s n x : Int) ∧ Hid (Below w3.heap.size w3 wq)) (fun _ u _ => 90 - (intOf u).toNat)
  case atStart => exact ⟨0, by omega, rfl, rfl, Lib.hid (Below.refl _ _)⟩
  case round =>
    obtain ⟨x, hx, rfl, rfl, hM⟩ := hrel
    obtain ⟨mm, hmm⟩ : ∃ mm, AlScan.mx s n x = mm := ⟨_, rfl⟩
    simp only [hmm]
    have hmn := AlScan.mx_le s n x
    rw [hmm] at hmn
    by_cases hx90 : x < 90
    · have bx : (x : Int) < 90 := by omega
      have HMM := Lib.hid hmm
      clear hmm
      go_wp2_with fail
      go_loopw [11, 12] (fun v u wq => ∃ i : Nat, i ≤ n ∧ u = .int .i64 (i : Int) ∧ v = .int .i64 (AlScan.cv s (x : Int) i : Int) ∧ Hid (Below w3.heap.size w3 wq)) (fun _ u _ => n - (intOf u).toNat)
      case atStart => exact ⟨0, by omega, rfl, rfl, hM⟩
      case round =>
        clear hM
        obtain ⟨i, hi, rfl, rfl, hM⟩ := hrel
        obtain ⟨cc, hcc⟩ : ∃ cc, AlScan.cv s (x : Int) i = cc := ⟨_, rfl⟩
        simp only [hcc]
        have hcn2 := AlScan.cv_le s (x : Int) i
        rw [hcc] at hcn2
        by_cases hin : i < n
        · have bi : (i : Int) < (n : Int) := by omega
          obtain ⟨o2, c2, he, h2⟩ := HSV3.out.below hM.out
          injection he with h3 h4 h5
          subst h3 h5
          obtain ⟨bs, off, rfl, hsw⟩ := h2 (by omega)
          have fi := hsw.f i hin
          have ti := hsw.t i hin
          have HCC := Lib.hid hcc
          clear h2 hsw hcc
          by_cases c1 : s.F i ≤ (x : Int)
          · have d1 : decide (s.F i ≤ (x : Int)) = true := decide_eq_true c1
            by_cases c2 : (x : Int) ≤ s.T i
            · have d2 : decide ((x : Int) ≤ s.T i) = true := decide_eq_true c2
              have HC := Lib.hid (And.intro c1 c2)
              clear c1 c2
              go_wp2_with fail
              exact ⟨⟨i + 1, hin, by first | rfl | simp, by simp only [AlScan.cv, HCC.out, if_pos HC.out]; simp, hM⟩, by simp [intOf] <;> omega⟩
            · have d2 : decide ((x : Int) ≤ s.T i) = false := decide_eq_false c2
              have HC := Lib.hid (show ¬ (s.F i ≤ (x : Int) ∧ (x : Int) ≤ s.T i) from fun h => c2 h.2)
              clear c1 c2
              go_wp2_with fail
              exact ⟨⟨i + 1, hin, by first | rfl | simp, by simp only [AlScan.cv, HCC.out, if_neg HC.out]; simp, hM⟩, by simp [intOf] <;> omega⟩
          · have d1 : decide (s.F i ≤ (x : Int)) = false := decide_eq_false c1
            have HC := Lib.hid (show ¬ (s.F i ≤ (x : Int) ∧ (x : Int) ≤ s.T i) from fun h => c1 h.1)
            clear c1
            go_wp2_with fail
            exact ⟨⟨i + 1, hin, by first | rfl | simp, by simp only [AlScan.cv, HCC.out, if_neg HC.out]; simp, hM⟩, by simp [intOf] <;> omega⟩
        · have bi : ¬ (i : Int) < (n : Int) := by omega
          obtain rfl : n = i := by omega
          have HCC := Lib.hid hcc
          clear hcc
          by_cases hlt : mm < cc
          · have d1 : decide ((mm : Int) < (cc : Int)) = true := by simp; omega
            have d1' : decide (mm < cc) = true := by simp; omega
            have HL := Lib.hid hlt
            go_wp2_with fail
            exact ⟨⟨x + 1, by omega, by first | rfl | simp, by simp only [AlScan.mx, HMM.out, HCC.out, if_pos HL.out], hM⟩, by simp [intOf] <;> omega⟩
          · have d1 : decide ((mm : Int) < (cc : Int)) = false := by simp; omega
            have d1' : decide (mm < cc) = false := by simp; omega
            have HL := Lib.hid hlt
            go_wp2_with fail
            exact ⟨⟨x + 1, by omega, by first | rfl | simp, by simp only [AlScan.mx, HMM.out, HCC.out, if_neg HL.out], hM⟩, by simp [intOf] <;> omega⟩
    · have bx : ¬ (x : Int) < 90 := by omega
      obtain rfl : x = 90 := by omega
      have hiff : mm ≤ R ↔ ca = 0 := by rw [← hmm]; exact HMO.out
      clear hmm
      have hcond : (mm ≤ R ∧ ca = 0) ∨ (R < mm ∧ 0 < ca) := by omega
      have HBM := Lib.hid hM.out
      clear hM
      rcases hcond with ⟨hc1, hc2⟩ | ⟨hc1, hc2⟩
      · subst hc2
        have d5 : decide ((mm : Int) ≤ (R : Int)) = true := by simp; omega
        have d5' : decide (mm ≤ R) = true := by simp; omega
        have d6 : decide ((R : Int) < (mm : Int)) = false := by simp; omega
        have d6' : decide (R < mm) = false := by simp; omega
        clear hiff
        go_wp2_with fail
        go_loopw [13] (fun u wq => ∃ i : Nat, i ≤ n ∧ u = .int .i64 (i : Int) ∧ Hid (Below w3.heap.size w3 wq)) (fun u _ => n - (intOf u).toNat)
        case atStart => exact ⟨0, by omega, rfl, HBM⟩
        case round =>
          obtain ⟨i, hi, rfl, hM⟩ := hrel
          by_cases hin : i < n
          · have bi : (i : Int) < (n : Int) := by omega
            go_wp2_with fail
            go_loopw [14] (fun u wq => ∃ k : Nat, k ≤ i ∧ u = .int .i64 (k : Int) ∧ Hid (Below w3.heap.size w3 wq)) (fun u _ => i - (intOf u).toNat)
            case atStart => exact ⟨0, by omega, rfl, hM⟩
            case round =>
              clear hM
              obtain ⟨k, hk, rfl, hM⟩ := hrel
              by_cases hki : k < i
              · have bki : (k : Int) < (i : Int) := by omega
                have bk : (k : Int) < (n : Int) := by omega
                have hkn : k < n := by omega
                have hP := HP3.out.below hob3 hM.out
                have ri := hP.r i hin
                have rk := hP.r k hkn
                have si := hP.s i hin
                have sk := hP.s k hkn
                have HM := Lib.hid hM.out
                clear hM hP
                rcases HPL.out.form i hin with ⟨r, e1, e2⟩ | ⟨e1, q, hq, e2⟩
                · rw [e1] at ri
                  rw [e2] at si
                  have d1 : decide ((0 : Int) ≤ (r : Int)) = true := by simp
                  have d2 : decide ((0 : Int) ≤ -1) = false := by decide
                  by_cases hkr : a.reg k = (r : Int)
                  · rw [hkr] at rk
                    have d3 : ((r : Int) == (r : Int)) = true := by simp
                    have hmb : decide (s.F i ≤ s.T k ∧ s.F k ≤ s.T i) = false := decide_eq_false (HPL.out.apart i k hin hkn (by omega) (by omega) (by rw [e1, hkr]))
                    have HX := Lib.hid (And.intro e1 (And.intro e2 hkr))
                    obtain ⟨o2, c2, he, h2⟩ := HSV3.out
                    injection he with h3 h4 h5
                    subst h3 h5
                    obtain ⟨bs, off, rfl, _⟩ := h2 (by omega)
                    have HSWF := Lib.hid (show ∀ wz, Below w3.heap.size w3 wz → SpW wz bs off n s from fun wz hz => by
                      obtain ⟨o3, c3, he, h6⟩ := HSV3.out.below hz
                      injection he with h7 h8 h9
                      obtain ⟨bs2, off2, e, h10⟩ := h6 (by omega)
                      rw [← h7] at e
                      injection e with e
                      injection e with e1 e2
                      subst e1 e2
                      exact h10)
                    have CM := Lib.hid (fun W : World => by have := meet14 (s.V i) (s.F i) (s.T i) (s.V k) (s.F k) (s.T k) W; rw [hmb] at this; exact this)
                    clear hmb e1 e2 hkr h2
                    as_aux_lemma =>
                      go_wp2_with fail
                      refine region_below w3 (by kernel_rfl) (by kernel_rfl) HM.out ?_
                      repeat (first
                        | go_big_quiet_skip
                        | (go_big_quiet_want; go_big_quiet_op; go_big_quiet_on)
                        | (go_big_quiet_want; refine ⟨.bool false, fun wz hz => ?_, ?_⟩; (focus (go_simp; done)); go_simp; go_big_quiet_on)
                        | (go_big_quiet_want; refine ⟨.bool true, fun wz hz => ?_, ?_⟩; (focus (go_simp; done)); go_simp; go_big_quiet_on)
                        | (go_big_quiet_want; refine ⟨.pointer (some ⟨ob, i * 3, none⟩), fun wz hz => ?_, ?_⟩; (focus (go_simp; done)); go_simp; go_big_quiet_on)
                        | (go_big_quiet_want; refine ⟨.pointer (some ⟨ob, i * 3 + 1, none⟩), fun wz hz => ?_, ?_⟩; (focus (go_simp; done)); go_simp; go_big_quiet_on)
                        | (go_big_quiet_want; refine ⟨.pointer (some ⟨ob, i * 3 + 2, none⟩), fun wz hz => ?_, ?_⟩; (focus (go_simp; done)); go_simp; go_big_quiet_on)
                        | (go_big_quiet_want; refine ⟨.pointer (some ⟨ob, k * 3, none⟩), fun wz hz => ?_, ?_⟩; (focus (go_simp; done)); go_simp; go_big_quiet_on)
                        | (go_big_quiet_want; refine ⟨.pointer (some ⟨ob, k * 3 + 1, none⟩), fun wz hz => ?_, ?_⟩; (focus (go_simp; done)); go_simp; go_big_quiet_on)
                        | (go_big_quiet_want; refine ⟨.pointer (some ⟨bs, off + i * 3, none⟩), fun wz hz => ?_, ?_⟩; (focus (go_simp; done)); go_simp; go_big_quiet_on)
                        | (go_big_quiet_want; refine ⟨.pointer (some ⟨bs, off + k * 3, none⟩), fun wz hz => ?_, ?_⟩; (focus (go_simp; done)); go_simp; go_big_quiet_on)
                        | (go_big_quiet_want; refine ⟨.int .i64 (r : Int), fun wz hz => ?_, ?_⟩; (focus (have q1 := (HP3.out.below hob3 hz).r i hin; rw [HX.out.1] at q1; have q2 := (HP3.out.below hob3 hz).r k hkn; rw [HX.out.2.2] at q2; go_simp; done)); go_simp; go_big_quiet_on)
                        | (go_big_quiet_want; refine ⟨.int .i64 (-1), fun wz hz => ?_, ?_⟩; (focus (have q1 := (HP3.out.below hob3 hz).s i hin; rw [HX.out.2.1] at q1; go_simp; done)); go_simp; go_big_quiet_on)
                        | (go_big_quiet_want; refine ⟨.agg #[.int .i64 (s.V i), .int .i64 (s.F i), .int .i64 (s.T i)], fun wz hz => ?_, ?_⟩; (focus (have q1 := (HSWF.out wz hz).v i hin; have q2 := (HSWF.out wz hz).f i hin; have q3 := (HSWF.out wz hz).t i hin; go_simp; done)); go_simp; go_big_quiet_on)
                        | (go_big_quiet_want; refine ⟨.agg #[.int .i64 (s.V k), .int .i64 (s.F k), .int .i64 (s.T k)], fun wz hz => ?_, ?_⟩; (focus (have q1 := (HSWF.out wz hz).v k hkn; have q2 := (HSWF.out wz hz).f k hkn; have q3 := (HSWF.out wz hz).t k hkn; go_simp; done)); go_simp; go_big_quiet_on)
                        | (go_big_quiet_want; go_big_quiet_op; apply Exists.intro; refine ⟨fun wz hz => ?_, ?_⟩; (go_at_call 14; refine (CM.out _).mono ?_; rintro ee w7 ⟨rfl, o1, o2, rfl⟩; exact ⟨rfl, hz.trans ((((Below.refl _ _).alloc (Nat.le_refl _) _).alloc (by simp) _).mono hz.size)⟩); go_big_quiet_on))
                      refine wpQuiet_nil ?_
                      intro wz hz
                      go_wp2_with fail
                      exact ⟨⟨k + 1, hki, by first | rfl | simp, Lib.hid hz⟩, by simp [intOf] <;> omega⟩
                  · have d3 : ((r : Int) == a.reg k) = false := by simp; exact fun h => hkr h.symm
                    clear hkr e1 e2
                    as_aux_lemma =>
                      go_wp2_with fail
                      go_quiet (fail)
                      go_wp2_with fail
                      exact ⟨⟨k + 1, hki, by first | rfl | simp, Lib.hid (bel_drewN HM.out _)⟩, by simp [intOf] <;> omega⟩
                · rw [e1] at ri
                  rw [e2] at si
                  have d1 : decide ((0 : Int) ≤ -1) = false := by decide
                  have d2 : decide ((0 : Int) ≤ (q : Int)) = true := by simp
                  have hne := HPL.out.sp i k hin hkn (by omega) (by omega)
                  rw [e2] at hne
                  have d3 : ((q : Int) == a.spill k) = false := by simp; exact hne
                  clear hne e1 e2
                  as_aux_lemma =>
                    go_wp2_with fail
                    go_quiet (fail)
                    go_wp2_with fail
                    exact ⟨⟨k + 1, hki, by first | rfl | simp, Lib.hid (bel_drewN HM.out _)⟩, by simp [intOf] <;> omega⟩
              · have bki : ¬ (k : Int) < (i : Int) := by omega
                go_wp2_with fail
                exact ⟨⟨i + 1, hin, by first | rfl | simp, hM⟩, by simp [intOf] <;> omega⟩
          · have bi : ¬ (i : Int) < (n : Int) := by omega
            go_wp2_with (go_at_call 10; (with_reducible refine (known10 _).mono ?_); rintro ee w4 ⟨rfl, hb4⟩)
            go_ret
            have h1 := HB3.out.trans (hM.out.mono HB3.out.size)
            exact ⟨rfl, h1.trans (hb4.mono h1.size)⟩
      · have d5 : decide ((mm : Int) ≤ (R : Int)) = false := by simp; omega
        have d5' : decide (mm ≤ R) = false := by simp; omega
        have d6 : decide ((R : Int) < (mm : Int)) = true := by simp; omega
        have d6' : decide (R < mm) = true := by simp; omega
        have d7 : ((ca : Int) == 0) = false := by simp; omega
        clear hiff
        go_wp2_with fail
        go_loopw [13] (fun u wq => ∃ i : Nat, i ≤ n ∧ u = .int .i64 (i : Int) ∧ Hid (Below w3.heap.size w3 wq)) (fun u _ => n - (intOf u).toNat)
        case atStart => exact ⟨0, by omega, rfl, HBM⟩
        case round =>
          obtain ⟨i, hi, rfl, hM⟩ := hrel
          by_cases hin : i < n
          · have bi : (i : Int) < (n : Int) := by omega
            go_wp2_with fail
            go_loopw [14] (fun u wq => ∃ k : Nat, k ≤ i ∧ u = .int .i64 (k : Int) ∧ Hid (Below w3.heap.size w3 wq)) (fun u _ => i - (intOf u).toNat)
            case atStart => exact ⟨0, by omega, rfl, hM⟩
            case round =>
              clear hM
              obtain ⟨k, hk, rfl, hM⟩ := hrel
              by_cases hki : k < i
              · have bki : (k : Int) < (i : Int) := by omega
                have bk : (k : Int) < (n : Int) := by omega
                have hkn : k < n := by omega
                have hP := HP3.out.below hob3 hM.out
                have ri := hP.r i hin
                have rk := hP.r k hkn
                have si := hP.s i hin
                have sk := hP.s k hkn
                have HM := Lib.hid hM.out
                clear hM hP
                rcases HPL.out.form i hin with ⟨r, e1, e2⟩ | ⟨e1, q, hq, e2⟩
                · rw [e1] at ri
                  rw [e2] at si
                  have d1 : decide ((0 : Int) ≤ (r : Int)) = true := by simp
                  have d2 : decide ((0 : Int) ≤ -1) = false := by decide
                  by_cases hkr : a.reg k = (r : Int)
                  · rw [hkr] at rk
                    have d3 : ((r : Int) == (r : Int)) = true := by simp
                    have hmb : decide (s.F i ≤ s.T k ∧ s.F k ≤ s.T i) = false := decide_eq_false (HPL.out.apart i k hin hkn (by omega) (by omega) (by rw [e1, hkr]))
                    have HX := Lib.hid (And.intro e1 (And.intro e2 hkr))
                    obtain ⟨o2, c2, he, h2⟩ := HSV3.out
                    injection he with h3 h4 h5
                    subst h3 h5
                    obtain ⟨bs, off, rfl, _⟩ := h2 (by omega)
                    have HSWF := Lib.hid (show ∀ wz, Below w3.heap.size w3 wz → SpW wz bs off n s from fun wz hz => by
                      obtain ⟨o3, c3, he, h6⟩ := HSV3.out.below hz
                      injection he with h7 h8 h9
                      obtain ⟨bs2, off2, e, h10⟩ := h6 (by omega)
                      rw [← h7] at e
                      injection e with e
                      injection e with e1 e2
                      subst e1 e2
                      exact h10)
                    have CM := Lib.hid (fun W : World => by have := meet14 (s.V i) (s.F i) (s.T i) (s.V k) (s.F k) (s.T k) W; rw [hmb] at this; exact this)
                    clear hmb e1 e2 hkr h2
                    as_aux_lemma =>
                      go_wp2_with fail
                      refine region_below w3 (by kernel_rfl) (by kernel_rfl) HM.out ?_
                      repeat (first
                        | go_big_quiet_skip
                        | (go_big_quiet_want; go_big_quiet_op; go_big_quiet_on)
                        | (go_big_quiet_want; refine ⟨.bool false, fun wz hz => ?_, ?_⟩; (focus (go_simp; done)); go_simp; go_big_quiet_on)
                        | (go_big_quiet_want; refine ⟨.bool true, fun wz hz => ?_, ?_⟩; (focus (go_simp; done)); go_simp; go_big_quiet_on)
                        | (go_big_quiet_want; refine ⟨.pointer (some ⟨ob, i * 3, none⟩), fun wz hz => ?_, ?_⟩; (focus (go_simp; done)); go_simp; go_big_quiet_on)
                        | (go_big_quiet_want; refine ⟨.pointer (some ⟨ob, i * 3 + 1, none⟩), fun wz hz => ?_, ?_⟩; (focus (go_simp; done)); go_simp; go_big_quiet_on)
                        | (go_big_quiet_want; refine ⟨.pointer (some ⟨ob, i * 3 + 2, none⟩), fun wz hz => ?_, ?_⟩; (focus (go_simp; done)); go_simp; go_big_quiet_on)
                        | (go_big_quiet_want; refine ⟨.pointer (some ⟨ob, k * 3, none⟩), fun wz hz => ?_, ?_⟩; (focus (go_simp; done)); go_simp; go_big_quiet_on)
                        | (go_big_quiet_want; refine ⟨.pointer (some ⟨ob, k * 3 + 1, none⟩), fun wz hz => ?_, ?_⟩; (focus (go_simp; done)); go_simp; go_big_quiet_on)
                        | (go_big_quiet_want; refine ⟨.pointer (some ⟨bs, off + i * 3, none⟩), fun wz hz => ?_, ?_⟩; (focus (go_simp; done)); go_simp; go_big_quiet_on)
                        | (go_big_quiet_want; refine ⟨.pointer (some ⟨bs, off + k * 3, none⟩), fun wz hz => ?_, ?_⟩; (focus (go_simp; done)); go_simp; go_big_quiet_on)
                        | (go_big_quiet_want; refine ⟨.int .i64 (r : Int), fun wz hz => ?_, ?_⟩; (focus (have q1 := (HP3.out.below hob3 hz).r i hin; rw [HX.out.1] at q1; have q2 := (HP3.out.below hob3 hz).r k hkn; rw [HX.out.2.2] at q2; go_simp; done)); go_simp; go_big_quiet_on)
                        | (go_big_quiet_want; refine ⟨.int .i64 (-1), fun wz hz => ?_, ?_⟩; (focus (have q1 := (HP3.out.below hob3 hz).s i hin; rw [HX.out.2.1] at q1; go_simp; done)); go_simp; go_big_quiet_on)
                        | (go_big_quiet_want; refine ⟨.agg #[.int .i64 (s.V i), .int .i64 (s.F i), .int .i64 (s.T i)], fun wz hz => ?_, ?_⟩; (focus (have q1 := (HSWF.out wz hz).v i hin; have q2 := (HSWF.out wz hz).f i hin; have q3 := (HSWF.out wz hz).t i hin; go_simp; done)); go_simp; go_big_quiet_on)
                        | (go_big_quiet_want; refine ⟨.agg #[.int .i64 (s.V k), .int .i64 (s.F k), .int .i64 (s.T k)], fun wz hz => ?_, ?_⟩; (focus (have q1 := (HSWF.out wz hz).v k hkn; have q2 := (HSWF.out wz hz).f k hkn; have q3 := (HSWF.out wz hz).t k hkn; go_simp; done)); go_simp; go_big_quiet_on)
                        | (go_big_quiet_want; go_big_quiet_op; apply Exists.intro; refine ⟨fun wz hz => ?_, ?_⟩; (go_at_call 14; refine (CM.out _).mono ?_; rintro ee w7 ⟨rfl, o1, o2, rfl⟩; exact ⟨rfl, hz.trans ((((Below.refl _ _).alloc (Nat.le_refl _) _).alloc (by simp) _).mono hz.size)⟩); go_big_quiet_on))
                      refine wpQuiet_nil ?_
                      intro wz hz
                      go_wp2_with fail
                      exact ⟨⟨k + 1, hki, by first | rfl | simp, Lib.hid hz⟩, by simp [intOf] <;> omega⟩
                  · have d3 : ((r : Int) == a.reg k) = false := by simp; exact fun h => hkr h.symm
                    clear hkr e1 e2
                    as_aux_lemma =>
                      go_wp2_with fail
                      go_quiet (fail)
                      go_wp2_with fail
                      exact ⟨⟨k + 1, hki, by first | rfl | simp, Lib.hid (bel_drewN HM.out _)⟩, by simp [intOf] <;> omega⟩
                · rw [e1] at ri
                  rw [e2] at si
                  have d1 : decide ((0 : Int) ≤ -1) = false := by decide
                  have d2 : decide ((0 : Int) ≤ (q : Int)) = true := by simp
                  have hne := HPL.out.sp i k hin hkn (by omega) (by omega)
                  rw [e2] at hne
                  have d3 : ((q : Int) == a.spill k) = false := by simp; exact hne
                  clear hne e1 e2
                  as_aux_lemma =>
                    go_wp2_with fail
                    go_quiet (fail)
                    go_wp2_with fail
                    exact ⟨⟨k + 1, hki, by first | rfl | simp, Lib.hid (bel_drewN HM.out _)⟩, by simp [intOf] <;> omega⟩
              · have bki : ¬ (k : Int) < (i : Int) := by omega
                go_wp2_with fail
                exact ⟨⟨i + 1, hin, by first | rfl | simp, hM⟩, by simp [intOf] <;> omega⟩
          · have bi : ¬ (i : Int) < (n : Int) := by omega
            go_wp2_with (go_at_call 10; (with_reducible refine (known10 _).mono ?_); rintro ee w4 ⟨rfl, hb4⟩)
            go_ret
            have h1 := HB3.out.trans (hM.out.mono HB3.out.size)
            exact ⟨rfl, h1.trans (hb4.mono h1.size)⟩
end Go.Proofs.Ytkejnhmhbmbhcaa.al
