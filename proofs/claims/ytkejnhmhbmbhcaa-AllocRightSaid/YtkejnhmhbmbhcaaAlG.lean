/-
  slices: the merge by halves.
-/
import Derived.Test.YtkejnhmhbmbhcaaAlF
import Derived.Test.YtkejnhmhbmbhcaaAlRuns
set_option maxHeartbeats 64000000
set_option maxRecDepth 1000000
set_option linter.unusedVariables false
set_option linter.unusedSimpArgs false
namespace Go.Proofs.Ytkejnhmhbmbhcaa.al
open Go Go.RowKit Go.BigFrame
open Go.Proofs.Ytkejnhmhbmbhcaa
def MergeOk (g n bl bs off N cap : Nat) (s : AlScan.Sps) (k : Nat) : Prop :=
  ∀ (a m b : Nat) (D : Nat → Nat) (w : World), b - a ≤ k → a < m → m < b → b ≤ n → (∀ i, i < n → D i < N) → AlSo.Mrg s.F D a m b → IRow w g n D → SpM w bl bs off N cap s →
    Calls Try.prog 31 #[isl g n, .int .i64 (a : Int), .int .i64 (m : Int), .int .i64 (b : Int), cmpv bl] w fun e w' => e = .returned (.tuple #[]) ∧ (∃ E, IRow w' g n E ∧ AlSo.Same D E a b ∧ AlSo.SortedOn (AlSo.ord s.F) E a b) ∧ Only [g] w w'
theorem win_of (a m b mid : Nat) (am : a + 2 ≤ m) (mb : m + 2 ≤ b) (hmid : (a + b) / 2 = mid) :
    ∃ (gt : Bool) (s0 r0 : Nat), decide ((mid : Int) < (m : Int)) = gt ∧ AlSo.Win a m b mid s0 r0 ∧ (gt = true → s0 + b = mid + m ∧ r0 = mid) ∧ (gt = false → s0 = a ∧ r0 = m) := by
  by_cases h : mid < m
  · exact ⟨true, mid + m - b, mid, by simp; omega, ⟨am, mb, by omega, by omega, by omega, by omega, by omega, by omega, .inr (by omega), .inr rfl, by omega, by omega⟩, fun _ => ⟨by omega, rfl⟩, fun e => by cases e⟩
  · exact ⟨false, a, m, by simp; omega, ⟨am, mb, by omega, by omega, by omega, by omega, by omega, by omega, .inl rfl, .inl rfl, by omega, by omega⟩, fun e => (by cases e), fun _ => ⟨rfl, rfl⟩⟩
theorem tri (x y z : Nat) : (x < y ∧ y < z) ∨ (x < y ∧ ¬ y < z) ∨ ¬ x < y := by omega
theorem symM31 (g n bl bs off N cap : Nat) (s : AlScan.Sps) (hn : n ≤ 100000) (hg : g ≠ bl ∧ g ≠ bs) (k0 : Nat) (hih : MergeOk g n bl bs off N cap s k0)
    (a m b : Nat) (D : Nat → Nat) (w : World) (hk : b - a ≤ k0 + 1) (am : a + 2 ≤ m) (mb : m + 2 ≤ b) (hbn : b ≤ n) (hD : ∀ i, i < n → D i < N) (hm : AlSo.Mrg s.F D a m b) (h : IRow w g n D) (hs : SpM w bl bs off N cap s) :
    Calls Try.prog 31 #[isl g n, .int .i64 (a : Int), .int .i64 (m : Int), .int .i64 (b : Int), cmpv bl] w fun e w' => e = .returned (.tuple #[]) ∧ (∃ E, IRow w' g n E ∧ AlSo.Same D E a b ∧ AlSo.SortedOn (AlSo.ord s.F) E a b) ∧ Only [g] w w' := by
  have H := Lib.hid h; clear h
  have HS := Lib.hid hs; clear hs
  have HD := Lib.hid hD; clear hD
  have HM := Lib.hid hm; clear hm
  have ih := Lib.hid hih; clear hih
  obtain ⟨mid, hmid⟩ : ∃ mid, (a + b) / 2 = mid := ⟨_, rfl⟩
  obtain ⟨gt, s0, r0, hgt, hwin, ht, hf⟩ := win_of a m b mid am mb hmid
  have HWI := Lib.hid hwin
  have m1 := hwin.mid1; have m2 := hwin.mid2
  clear hwin
  obtain ⟨l, hl⟩ : ∃ l, m - a = l := ⟨_, rfl⟩
  obtain ⟨l2, hl2⟩ : ∃ l2, b - m = l2 := ⟨_, rfl⟩
  obtain ⟨q, hq⟩ : ∃ q, a + b = q := ⟨_, rfl⟩
  obtain ⟨nn, hnn⟩ : ∃ nn, mid + m = nn := ⟨_, rfl⟩
  obtain ⟨p, hp⟩ : ∃ p, nn - 1 = p := ⟨_, rfl⟩
  have e0 : IntKind.i64.wrap ((m : Int) - (a : Int)) = (l : Int) := by rw [IntKind.wrap_i64]; omega
  have d0 : ((l : Int) == 1) = false := by simp; omega
  have e1 : IntKind.i64.wrap ((b : Int) - (m : Int)) = (l2 : Int) := by rw [IntKind.wrap_i64]; omega
  have d1 : ((l2 : Int) == 1) = false := by simp; omega
  have e2 : IntKind.i64.wrap ((a : Int) + (b : Int)) = (q : Int) := by rw [IntKind.wrap_i64]; omega
  have e3 : IntKind.u64.wrap (q : Int) = (q : Int) := by rw [IntKind.wrap_u64]; omega
  have e4 : IntKind.i64.wrap ((q : Int) / 2) = (mid : Int) := by rw [IntKind.wrap_i64]; omega
  have e5 : IntKind.i64.wrap ((mid : Int) + (m : Int)) = (nn : Int) := by rw [IntKind.wrap_i64]; omega
  have e6 : IntKind.i64.wrap ((nn : Int) - 1) = (p : Int) := by rw [IntKind.wrap_i64]; omega
  have hp1 : p + 1 ≤ mid + m := by omega
  have hp2 : mid + m ≤ p + 1 := by omega
  have hn1 : nn ≤ mid + m := by omega
  have hn2 : mid + m ≤ nn := by omega
  cases gt
  case true =>
    have hr := Lib.hid (ht rfl).2
    have hgt2 : mid < m := by simpa using hgt
    have e7 : IntKind.i64.wrap ((nn : Int) - (b : Int)) = (s0 : Int) := by have := (ht rfl).1; rw [IntKind.wrap_i64]; omega
    clear ht hf hl hl2 hq hnn hp hmid
    go_enter Try.func31, Try.ntmps31
    go_wp2_with fail
    go_loopw [20, 21] (fun u v wq => ∃ i j : Nat, s0 ≤ i ∧ i ≤ j ∧ j ≤ r0 ∧ u = .int .i64 (i : Int) ∧ v = .int .i64 (j : Int) ∧ Hid (IRow wq g n D ∧ (∀ c, s0 ≤ c → c < i → s.F (D c) ≤ s.F (D (mid + m - 1 - c))) ∧ (∀ c, j ≤ c → c < r0 → s.F (D (mid + m - 1 - c)) < s.F (D c)) ∧ Only [] w wq)) (fun u v _ => (intOf v).toNat - (intOf u).toNat)
    case atStart => exact ⟨s0, r0, Nat.le_refl _, HWI.out.s0r, Nat.le_refl _, (by first | rfl | (rw [hs.out]) | go_num), (by first | rfl | (rw [hr.out]) | go_num), Lib.hid ⟨H.out, fun c h1 h2 => by omega, fun c h1 h2 => by omega, Only.refl _ _⟩⟩
    case round =>
      obtain ⟨i, j, hmi, hij, hjb, rfl, rfl, hM⟩ := hrel
      obtain ⟨hE, hlo, hhi, ho⟩ := hM.out
      have HE := Lib.hid hE; have HL := Lib.hid hlo; have HH := Lib.hid hhi; have HO := Lib.hid ho
      clear hE hlo hhi ho hM
      have k1 := HWI.out.s0a; have k2 := HWI.out.r0m; have k3 := HWI.out.up; have k4 := HWI.out.dn; have k5 := HWI.out.r0d
      by_cases hlt : i < j
      · have hkd : decide ((i : Int) < (j : Int)) = true := by simp; omega
        obtain ⟨k, hk⟩ : ∃ k, (i + j) / 2 = k := ⟨_, rfl⟩
        obtain ⟨q, hq⟩ : ∃ q, i + j = q := ⟨_, rfl⟩
        obtain ⟨x, hx⟩ : ∃ x, mid + m - 1 - k = x := ⟨_, rfl⟩
        have e2 : IntKind.i64.wrap ((i : Int) + (j : Int)) = (q : Int) := by rw [IntKind.wrap_i64]; omega
        have e3 : IntKind.u64.wrap (q : Int) = (q : Int) := by rw [IntKind.wrap_u64]; omega
        have e4 : IntKind.i64.wrap ((q : Int) / 2) = (k : Int) := by rw [IntKind.wrap_i64]; omega
        have e6 : IntKind.i64.wrap ((p : Int) - (k : Int)) = (x : Int) := by rw [IntKind.wrap_i64]; omega
        have c1 := HE.out.cell (i := x) (by omega)
        have c2 := HE.out.cell (i := k) (by omega)
        have b1 : (x : Int) < (n : Int) := by omega
        have b2 : (k : Int) < (n : Int) := by omega
        have hsp := HS.out.keep HO.out (by simp) (by simp)
        have C := fun y : Nat => cmp16 bl bs off N cap s (D x) (D k) (HD.out _ (by omega)) (HD.out _ (by omega)) (wr.drewN y) (hsp.drewN y)
        have e5 : IntKind.i64.wrap ((k : Int) + 1) = ((k + 1 : Nat) : Int) := by rw [IntKind.wrap_i64]; omega
        have hX := Lib.hid hx
        by_cases hc : s.F (D x) < s.F (D k)
        · have hv : cmpI (s.F (D x)) (s.F (D k)) = -1 := if_pos hc
          simp only [hv] at C
          have HC := Lib.hid C; clear C hsp hv hx
          go_wp2_with fail
          go_quiet ((go_at_call 16; refine Calls.quiet_of (HC.out _)))
          go_wp2_with fail
          refine ⟨⟨i, k, hmi, by omega, by omega, rfl, rfl, Lib.hid ⟨HE.out.drewN _, HL.out, fun c h1 h2 => ?_, HO.out.trans (only_drewN _ _ _)⟩⟩, by simp [intOf]; omega⟩
          have := HM.out.mono HWI.out (show s0 ≤ k by omega) h1 h2
          rw [hX.out] at this
          omega
        · obtain ⟨v, hv, hv2⟩ : ∃ v, cmpI (s.F (D x)) (s.F (D k)) = v ∧ decide (v < 0) = false := by
            refine ⟨_, rfl, ?_⟩
            unfold cmpI
            rw [if_neg hc]
            split <;> rfl
          simp only [hv] at C
          have HC := Lib.hid C; clear C hsp hv hx
          go_wp2_with fail
          go_quiet ((go_at_call 16; refine Calls.quiet_of (HC.out _)))
          go_wp2_with fail
          refine ⟨⟨k + 1, j, by omega, by omega, hjb, by go_num, rfl, Lib.hid ⟨HE.out.drewN _, fun c h1 h2 => ?_, HH.out, HO.out.trans (only_drewN _ _ _)⟩⟩, by simp [intOf]; omega⟩
          have := HM.out.mono HWI.out h1 (show c ≤ k by omega) (by omega)
          rw [hX.out] at this
          omega
      · have hkd : decide ((i : Int) < (j : Int)) = false := by simp; omega
        obtain rfl : i = j := by omega
        obtain ⟨e, he⟩ : ∃ e, mid + m - i = e := ⟨_, rfl⟩
        have e2 : IntKind.i64.wrap ((nn : Int) - (i : Int)) = (e : Int) := by rw [IntKind.wrap_i64]; omega
        have hmids := HM.out.mids HWI.out hmi hjb HL.out HH.out
        have k6 := HWI.out.am; have k7 := HWI.out.mb; have k8 := HWI.out.mid1; have k9 := HWI.out.mid2
        rw [he] at hmids
        have he2 : e ≤ b := by omega
        have he3 : mid ≤ e := by omega
        have he4 : m ≤ e := by omega
        clear he
        obtain ⟨E1, hE1⟩ : ∃ E1, AlSo.rot D i m e = E1 := ⟨_, rfl⟩
        rw [hE1] at hmids
        have HMI := Lib.hid hmids.1; have HSA := Lib.hid hmids.2
        have HE1e := Lib.hid hE1
        clear hmids hE1 HL HH
        rcases tri i m e with ⟨ha1, ha2⟩ | ⟨ha1, ha2⟩ | ha1
        · have da1 : decide ((i : Int) < (m : Int)) = true := by simp; omega
          have da2 : decide ((m : Int) < (e : Int)) = true := by simp; omega
          rcases tri a i mid with ⟨hb1, hb2⟩ | ⟨hb1, hb2⟩ | hb1
          · have db1 : decide ((a : Int) < (i : Int)) = true := by simp; omega
            have db2 : decide ((i : Int) < (mid : Int)) = true := by simp; omega
            rcases tri mid e b with ⟨hc1, hc2⟩ | ⟨hc1, hc2⟩ | hc1
            · have dc1 : decide ((mid : Int) < (e : Int)) = true := by simp; omega
              have dc2 : decide ((e : Int) < (b : Int)) = true := by simp; omega
              first
              | (have CA := Lib.hid (rotate32 g n i m e D (cmpv bl) hn ha1 ha2 (by omega) _ HE.out)
                 clear HE
                 go_wp2_with fail
                 (with_reducible refine CA.out.mono ?_); rintro ee w1 ⟨rfl, hR1, hW1⟩
                 rw [HE1e.out] at hR1
                 have HE1 := Lib.hid hR1
                 have HO1 := Lib.hid ((HO.out.mono (T := [g]) (by simp)).trans hW1)
                 clear hR1 hW1 HO)
              | (have HE1 := Lib.hid (HE.out.of hskipA.out)
                 have HO1 := Lib.hid (HO.out.mono (T := [g]) (by simp))
                 clear HE HO)
              first
              | (have CB := Lib.hid (ih.out a i mid E1 _ (by omega) hb1 hb2 (by omega) (HSA.out.lt hbn HD.out) (HMI.out.B hb1 hb2) HE1.out (HS.out.keep HO1.out (by simp; exact fun e => hg.1 e.symm) (by simp; exact fun e => hg.2 e.symm)))
                 clear HE1
                 go_wp2_with fail
                 (with_reducible refine CB.out.mono ?_); rintro ee w2 ⟨rfl, ⟨E2, hR2, hS2, hO2⟩, hW2⟩
                 have HR2 := Lib.hid hR2; have HS2 := Lib.hid hS2; have HP2 := Lib.hid hO2; have HOn := Lib.hid (HO1.out.trans hW2)
                 clear hR2 hS2 hO2 hW2 HO1)
              | (have HR2 := HE1; have HS2 := Lib.hid (AlSo.Same.refl E1 a mid); have HP2 := Lib.hid (HMI.out.B0 hnb.out); have HOn := HO1
                 clear HE1 HO1)
              have HCC := Lib.hid (HMI.out.c HS2.out)
              first
              | (have CC := Lib.hid (ih.out mid e b _ _ (by omega) hc1 hc2 hbn (HS2.out.lt (by omega) (HSA.out.lt hbn HD.out)) (HCC.out.1 hc1 hc2) HR2.out (HS.out.keep HOn.out (by simp; exact fun e => hg.1 e.symm) (by simp; exact fun e => hg.2 e.symm)))
                 clear HR2 HCC
                 go_wp2_with fail
                 (with_reducible refine CC.out.mono ?_); rintro ee w3 ⟨rfl, ⟨E3, hR3, hS3, hO3⟩, hW3⟩
                 have HR3 := Lib.hid hR3; have HS3 := Lib.hid hS3; have HP3 := Lib.hid hO3; have HOm := Lib.hid (HOn.out.trans hW3)
                 clear hR3 hS3 hO3 hW3 HOn)
              | (have HR3 := HR2; have HS3 := Lib.hid ((fun (X : Nat → Nat) (_ : IRow _ g n X) => AlSo.Same.refl X mid b) _ HR2.out); have HP3 := Lib.hid (HCC.out.2 hnc.out); have HOm := HOn
                 clear HR2 HOn HCC)
              try go_wp2_with fail
              go_end0
              exact ⟨rfl, ⟨_, HR3.out, (HMI.out.fin HSA.out (by omega) (by omega) HS2.out HP2.out HS3.out HP3.out).1, (HMI.out.fin HSA.out (by omega) (by omega) HS2.out HP2.out HS3.out HP3.out).2⟩, HOm.out⟩
            · have dc1 : decide ((mid : Int) < (e : Int)) = true := by simp; omega
              have dc2 : decide ((e : Int) < (b : Int)) = false := by simp; omega
              have hnc : Hid (¬ (mid < e ∧ e < b)) := Lib.hid (fun h => hc2 h.2)
              first
              | (have CA := Lib.hid (rotate32 g n i m e D (cmpv bl) hn ha1 ha2 (by omega) _ HE.out)
                 clear HE
                 go_wp2_with fail
                 (with_reducible refine CA.out.mono ?_); rintro ee w1 ⟨rfl, hR1, hW1⟩
                 rw [HE1e.out] at hR1
                 have HE1 := Lib.hid hR1
                 have HO1 := Lib.hid ((HO.out.mono (T := [g]) (by simp)).trans hW1)
                 clear hR1 hW1 HO)
              | (have HE1 := Lib.hid (HE.out.of hskipA.out)
                 have HO1 := Lib.hid (HO.out.mono (T := [g]) (by simp))
                 clear HE HO)
              first
              | (have CB := Lib.hid (ih.out a i mid E1 _ (by omega) hb1 hb2 (by omega) (HSA.out.lt hbn HD.out) (HMI.out.B hb1 hb2) HE1.out (HS.out.keep HO1.out (by simp; exact fun e => hg.1 e.symm) (by simp; exact fun e => hg.2 e.symm)))
                 clear HE1
                 go_wp2_with fail
                 (with_reducible refine CB.out.mono ?_); rintro ee w2 ⟨rfl, ⟨E2, hR2, hS2, hO2⟩, hW2⟩
                 have HR2 := Lib.hid hR2; have HS2 := Lib.hid hS2; have HP2 := Lib.hid hO2; have HOn := Lib.hid (HO1.out.trans hW2)
                 clear hR2 hS2 hO2 hW2 HO1)
              | (have HR2 := HE1; have HS2 := Lib.hid (AlSo.Same.refl E1 a mid); have HP2 := Lib.hid (HMI.out.B0 hnb.out); have HOn := HO1
                 clear HE1 HO1)
              have HCC := Lib.hid (HMI.out.c HS2.out)
              first
              | (have CC := Lib.hid (ih.out mid e b _ _ (by omega) hc1 hc2 hbn (HS2.out.lt (by omega) (HSA.out.lt hbn HD.out)) (HCC.out.1 hc1 hc2) HR2.out (HS.out.keep HOn.out (by simp; exact fun e => hg.1 e.symm) (by simp; exact fun e => hg.2 e.symm)))
                 clear HR2 HCC
                 go_wp2_with fail
                 (with_reducible refine CC.out.mono ?_); rintro ee w3 ⟨rfl, ⟨E3, hR3, hS3, hO3⟩, hW3⟩
                 have HR3 := Lib.hid hR3; have HS3 := Lib.hid hS3; have HP3 := Lib.hid hO3; have HOm := Lib.hid (HOn.out.trans hW3)
                 clear hR3 hS3 hO3 hW3 HOn)
              | (have HR3 := HR2; have HS3 := Lib.hid ((fun (X : Nat → Nat) (_ : IRow _ g n X) => AlSo.Same.refl X mid b) _ HR2.out); have HP3 := Lib.hid (HCC.out.2 hnc.out); have HOm := HOn
                 clear HR2 HOn HCC)
              try go_wp2_with fail
              go_end0
              exact ⟨rfl, ⟨_, HR3.out, (HMI.out.fin HSA.out (by omega) (by omega) HS2.out HP2.out HS3.out HP3.out).1, (HMI.out.fin HSA.out (by omega) (by omega) HS2.out HP2.out HS3.out HP3.out).2⟩, HOm.out⟩
            · have dc1 : decide ((mid : Int) < (e : Int)) = false := by simp; omega
              have hnc : Hid (¬ (mid < e ∧ e < b)) := Lib.hid (fun h => hc1 h.1)
              first
              | (have CA := Lib.hid (rotate32 g n i m e D (cmpv bl) hn ha1 ha2 (by omega) _ HE.out)
                 clear HE
                 go_wp2_with fail
                 (with_reducible refine CA.out.mono ?_); rintro ee w1 ⟨rfl, hR1, hW1⟩
                 rw [HE1e.out] at hR1
                 have HE1 := Lib.hid hR1
                 have HO1 := Lib.hid ((HO.out.mono (T := [g]) (by simp)).trans hW1)
                 clear hR1 hW1 HO)
              | (have HE1 := Lib.hid (HE.out.of hskipA.out)
                 have HO1 := Lib.hid (HO.out.mono (T := [g]) (by simp))
                 clear HE HO)
              first
              | (have CB := Lib.hid (ih.out a i mid E1 _ (by omega) hb1 hb2 (by omega) (HSA.out.lt hbn HD.out) (HMI.out.B hb1 hb2) HE1.out (HS.out.keep HO1.out (by simp; exact fun e => hg.1 e.symm) (by simp; exact fun e => hg.2 e.symm)))
                 clear HE1
                 go_wp2_with fail
                 (with_reducible refine CB.out.mono ?_); rintro ee w2 ⟨rfl, ⟨E2, hR2, hS2, hO2⟩, hW2⟩
                 have HR2 := Lib.hid hR2; have HS2 := Lib.hid hS2; have HP2 := Lib.hid hO2; have HOn := Lib.hid (HO1.out.trans hW2)
                 clear hR2 hS2 hO2 hW2 HO1)
              | (have HR2 := HE1; have HS2 := Lib.hid (AlSo.Same.refl E1 a mid); have HP2 := Lib.hid (HMI.out.B0 hnb.out); have HOn := HO1
                 clear HE1 HO1)
              have HCC := Lib.hid (HMI.out.c HS2.out)
              first
              | (have CC := Lib.hid (ih.out mid e b _ _ (by omega) hc1 hc2 hbn (HS2.out.lt (by omega) (HSA.out.lt hbn HD.out)) (HCC.out.1 hc1 hc2) HR2.out (HS.out.keep HOn.out (by simp; exact fun e => hg.1 e.symm) (by simp; exact fun e => hg.2 e.symm)))
                 clear HR2 HCC
                 go_wp2_with fail
                 (with_reducible refine CC.out.mono ?_); rintro ee w3 ⟨rfl, ⟨E3, hR3, hS3, hO3⟩, hW3⟩
                 have HR3 := Lib.hid hR3; have HS3 := Lib.hid hS3; have HP3 := Lib.hid hO3; have HOm := Lib.hid (HOn.out.trans hW3)
                 clear hR3 hS3 hO3 hW3 HOn)
              | (have HR3 := HR2; have HS3 := Lib.hid ((fun (X : Nat → Nat) (_ : IRow _ g n X) => AlSo.Same.refl X mid b) _ HR2.out); have HP3 := Lib.hid (HCC.out.2 hnc.out); have HOm := HOn
                 clear HR2 HOn HCC)
              try go_wp2_with fail
              go_end0
              exact ⟨rfl, ⟨_, HR3.out, (HMI.out.fin HSA.out (by omega) (by omega) HS2.out HP2.out HS3.out HP3.out).1, (HMI.out.fin HSA.out (by omega) (by omega) HS2.out HP2.out HS3.out HP3.out).2⟩, HOm.out⟩
          · have db1 : decide ((a : Int) < (i : Int)) = true := by simp; omega
            have db2 : decide ((i : Int) < (mid : Int)) = false := by simp; omega
            have hnb : Hid (¬ (a < i ∧ i < mid)) := Lib.hid (fun h => hb2 h.2)
            rcases tri mid e b with ⟨hc1, hc2⟩ | ⟨hc1, hc2⟩ | hc1
            · have dc1 : decide ((mid : Int) < (e : Int)) = true := by simp; omega
              have dc2 : decide ((e : Int) < (b : Int)) = true := by simp; omega
              first
              | (have CA := Lib.hid (rotate32 g n i m e D (cmpv bl) hn ha1 ha2 (by omega) _ HE.out)
                 clear HE
                 go_wp2_with fail
                 (with_reducible refine CA.out.mono ?_); rintro ee w1 ⟨rfl, hR1, hW1⟩
                 rw [HE1e.out] at hR1
                 have HE1 := Lib.hid hR1
                 have HO1 := Lib.hid ((HO.out.mono (T := [g]) (by simp)).trans hW1)
                 clear hR1 hW1 HO)
              | (have HE1 := Lib.hid (HE.out.of hskipA.out)
                 have HO1 := Lib.hid (HO.out.mono (T := [g]) (by simp))
                 clear HE HO)
              first
              | (have CB := Lib.hid (ih.out a i mid E1 _ (by omega) hb1 hb2 (by omega) (HSA.out.lt hbn HD.out) (HMI.out.B hb1 hb2) HE1.out (HS.out.keep HO1.out (by simp; exact fun e => hg.1 e.symm) (by simp; exact fun e => hg.2 e.symm)))
                 clear HE1
                 go_wp2_with fail
                 (with_reducible refine CB.out.mono ?_); rintro ee w2 ⟨rfl, ⟨E2, hR2, hS2, hO2⟩, hW2⟩
                 have HR2 := Lib.hid hR2; have HS2 := Lib.hid hS2; have HP2 := Lib.hid hO2; have HOn := Lib.hid (HO1.out.trans hW2)
                 clear hR2 hS2 hO2 hW2 HO1)
              | (have HR2 := HE1; have HS2 := Lib.hid (AlSo.Same.refl E1 a mid); have HP2 := Lib.hid (HMI.out.B0 hnb.out); have HOn := HO1
                 clear HE1 HO1)
              have HCC := Lib.hid (HMI.out.c HS2.out)
              first
              | (have CC := Lib.hid (ih.out mid e b _ _ (by omega) hc1 hc2 hbn (HS2.out.lt (by omega) (HSA.out.lt hbn HD.out)) (HCC.out.1 hc1 hc2) HR2.out (HS.out.keep HOn.out (by simp; exact fun e => hg.1 e.symm) (by simp; exact fun e => hg.2 e.symm)))
                 clear HR2 HCC
                 go_wp2_with fail
                 (with_reducible refine CC.out.mono ?_); rintro ee w3 ⟨rfl, ⟨E3, hR3, hS3, hO3⟩, hW3⟩
                 have HR3 := Lib.hid hR3; have HS3 := Lib.hid hS3; have HP3 := Lib.hid hO3; have HOm := Lib.hid (HOn.out.trans hW3)
                 clear hR3 hS3 hO3 hW3 HOn)
              | (have HR3 := HR2; have HS3 := Lib.hid ((fun (X : Nat → Nat) (_ : IRow _ g n X) => AlSo.Same.refl X mid b) _ HR2.out); have HP3 := Lib.hid (HCC.out.2 hnc.out); have HOm := HOn
                 clear HR2 HOn HCC)
              try go_wp2_with fail
              go_end0
              exact ⟨rfl, ⟨_, HR3.out, (HMI.out.fin HSA.out (by omega) (by omega) HS2.out HP2.out HS3.out HP3.out).1, (HMI.out.fin HSA.out (by omega) (by omega) HS2.out HP2.out HS3.out HP3.out).2⟩, HOm.out⟩
            · have dc1 : decide ((mid : Int) < (e : Int)) = true := by simp; omega
              have dc2 : decide ((e : Int) < (b : Int)) = false := by simp; omega
              have hnc : Hid (¬ (mid < e ∧ e < b)) := Lib.hid (fun h => hc2 h.2)
              first
              | (have CA := Lib.hid (rotate32 g n i m e D (cmpv bl) hn ha1 ha2 (by omega) _ HE.out)
                 clear HE
                 go_wp2_with fail
                 (with_reducible refine CA.out.mono ?_); rintro ee w1 ⟨rfl, hR1, hW1⟩
                 rw [HE1e.out] at hR1
                 have HE1 := Lib.hid hR1
                 have HO1 := Lib.hid ((HO.out.mono (T := [g]) (by simp)).trans hW1)
                 clear hR1 hW1 HO)
              | (have HE1 := Lib.hid (HE.out.of hskipA.out)
                 have HO1 := Lib.hid (HO.out.mono (T := [g]) (by simp))
                 clear HE HO)
              first
              | (have CB := Lib.hid (ih.out a i mid E1 _ (by omega) hb1 hb2 (by omega) (HSA.out.lt hbn HD.out) (HMI.out.B hb1 hb2) HE1.out (HS.out.keep HO1.out (by simp; exact fun e => hg.1 e.symm) (by simp; exact fun e => hg.2 e.symm)))
                 clear HE1
                 go_wp2_with fail
                 (with_reducible refine CB.out.mono ?_); rintro ee w2 ⟨rfl, ⟨E2, hR2, hS2, hO2⟩, hW2⟩
                 have HR2 := Lib.hid hR2; have HS2 := Lib.hid hS2; have HP2 := Lib.hid hO2; have HOn := Lib.hid (HO1.out.trans hW2)
                 clear hR2 hS2 hO2 hW2 HO1)
              | (have HR2 := HE1; have HS2 := Lib.hid (AlSo.Same.refl E1 a mid); have HP2 := Lib.hid (HMI.out.B0 hnb.out); have HOn := HO1
                 clear HE1 HO1)
              have HCC := Lib.hid (HMI.out.c HS2.out)
              first
              | (have CC := Lib.hid (ih.out mid e b _ _ (by omega) hc1 hc2 hbn (HS2.out.lt (by omega) (HSA.out.lt hbn HD.out)) (HCC.out.1 hc1 hc2) HR2.out (HS.out.keep HOn.out (by simp; exact fun e => hg.1 e.symm) (by simp; exact fun e => hg.2 e.symm)))
                 clear HR2 HCC
                 go_wp2_with fail
                 (with_reducible refine CC.out.mono ?_); rintro ee w3 ⟨rfl, ⟨E3, hR3, hS3, hO3⟩, hW3⟩
                 have HR3 := Lib.hid hR3; have HS3 := Lib.hid hS3; have HP3 := Lib.hid hO3; have HOm := Lib.hid (HOn.out.trans hW3)
                 clear hR3 hS3 hO3 hW3 HOn)
              | (have HR3 := HR2; have HS3 := Lib.hid ((fun (X : Nat → Nat) (_ : IRow _ g n X) => AlSo.Same.refl X mid b) _ HR2.out); have HP3 := Lib.hid (HCC.out.2 hnc.out); have HOm := HOn
                 clear HR2 HOn HCC)
              try go_wp2_with fail
              go_end0
              exact ⟨rfl, ⟨_, HR3.out, (HMI.out.fin HSA.out (by omega) (by omega) HS2.out HP2.out HS3.out HP3.out).1, (HMI.out.fin HSA.out (by omega) (by omega) HS2.out HP2.out HS3.out HP3.out).2⟩, HOm.out⟩
            · have dc1 : decide ((mid : Int) < (e : Int)) = false := by simp; omega
              have hnc : Hid (¬ (mid < e ∧ e < b)) := Lib.hid (fun h => hc1 h.1)
              first
              | (have CA := Lib.hid (rotate32 g n i m e D (cmpv bl) hn ha1 ha2 (by omega) _ HE.out)
                 clear HE
                 go_wp2_with fail
                 (with_reducible refine CA.out.mono ?_); rintro ee w1 ⟨rfl, hR1, hW1⟩
                 rw [HE1e.out] at hR1
                 have HE1 := Lib.hid hR1
                 have HO1 := Lib.hid ((HO.out.mono (T := [g]) (by simp)).trans hW1)
                 clear hR1 hW1 HO)
              | (have HE1 := Lib.hid (HE.out.of hskipA.out)
                 have HO1 := Lib.hid (HO.out.mono (T := [g]) (by simp))
                 clear HE HO)
              first
              | (have CB := Lib.hid (ih.out a i mid E1 _ (by omega) hb1 hb2 (by omega) (HSA.out.lt hbn HD.out) (HMI.out.B hb1 hb2) HE1.out (HS.out.keep HO1.out (by simp; exact fun e => hg.1 e.symm) (by simp; exact fun e => hg.2 e.symm)))
                 clear HE1
                 go_wp2_with fail
                 (with_reducible refine CB.out.mono ?_); rintro ee w2 ⟨rfl, ⟨E2, hR2, hS2, hO2⟩, hW2⟩
                 have HR2 := Lib.hid hR2; have HS2 := Lib.hid hS2; have HP2 := Lib.hid hO2; have HOn := Lib.hid (HO1.out.trans hW2)
                 clear hR2 hS2 hO2 hW2 HO1)
              | (have HR2 := HE1; have HS2 := Lib.hid (AlSo.Same.refl E1 a mid); have HP2 := Lib.hid (HMI.out.B0 hnb.out); have HOn := HO1
                 clear HE1 HO1)
              have HCC := Lib.hid (HMI.out.c HS2.out)
              first
              | (have CC := Lib.hid (ih.out mid e b _ _ (by omega) hc1 hc2 hbn (HS2.out.lt (by omega) (HSA.out.lt hbn HD.out)) (HCC.out.1 hc1 hc2) HR2.out (HS.out.keep HOn.out (by simp; exact fun e => hg.1 e.symm) (by simp; exact fun e => hg.2 e.symm)))
                 clear HR2 HCC
                 go_wp2_with fail
                 (with_reducible refine CC.out.mono ?_); rintro ee w3 ⟨rfl, ⟨E3, hR3, hS3, hO3⟩, hW3⟩
                 have HR3 := Lib.hid hR3; have HS3 := Lib.hid hS3; have HP3 := Lib.hid hO3; have HOm := Lib.hid (HOn.out.trans hW3)
                 clear hR3 hS3 hO3 hW3 HOn)
              | (have HR3 := HR2; have HS3 := Lib.hid ((fun (X : Nat → Nat) (_ : IRow _ g n X) => AlSo.Same.refl X mid b) _ HR2.out); have HP3 := Lib.hid (HCC.out.2 hnc.out); have HOm := HOn
                 clear HR2 HOn HCC)
              try go_wp2_with fail
              go_end0
              exact ⟨rfl, ⟨_, HR3.out, (HMI.out.fin HSA.out (by omega) (by omega) HS2.out HP2.out HS3.out HP3.out).1, (HMI.out.fin HSA.out (by omega) (by omega) HS2.out HP2.out HS3.out HP3.out).2⟩, HOm.out⟩
          · have db1 : decide ((a : Int) < (i : Int)) = false := by simp; omega
            have hnb : Hid (¬ (a < i ∧ i < mid)) := Lib.hid (fun h => hb1 h.1)
            rcases tri mid e b with ⟨hc1, hc2⟩ | ⟨hc1, hc2⟩ | hc1
            · have dc1 : decide ((mid : Int) < (e : Int)) = true := by simp; omega
              have dc2 : decide ((e : Int) < (b : Int)) = true := by simp; omega
              first
              | (have CA := Lib.hid (rotate32 g n i m e D (cmpv bl) hn ha1 ha2 (by omega) _ HE.out)
                 clear HE
                 go_wp2_with fail
                 (with_reducible refine CA.out.mono ?_); rintro ee w1 ⟨rfl, hR1, hW1⟩
                 rw [HE1e.out] at hR1
                 have HE1 := Lib.hid hR1
                 have HO1 := Lib.hid ((HO.out.mono (T := [g]) (by simp)).trans hW1)
                 clear hR1 hW1 HO)
              | (have HE1 := Lib.hid (HE.out.of hskipA.out)
                 have HO1 := Lib.hid (HO.out.mono (T := [g]) (by simp))
                 clear HE HO)
              first
              | (have CB := Lib.hid (ih.out a i mid E1 _ (by omega) hb1 hb2 (by omega) (HSA.out.lt hbn HD.out) (HMI.out.B hb1 hb2) HE1.out (HS.out.keep HO1.out (by simp; exact fun e => hg.1 e.symm) (by simp; exact fun e => hg.2 e.symm)))
                 clear HE1
                 go_wp2_with fail
                 (with_reducible refine CB.out.mono ?_); rintro ee w2 ⟨rfl, ⟨E2, hR2, hS2, hO2⟩, hW2⟩
                 have HR2 := Lib.hid hR2; have HS2 := Lib.hid hS2; have HP2 := Lib.hid hO2; have HOn := Lib.hid (HO1.out.trans hW2)
                 clear hR2 hS2 hO2 hW2 HO1)
              | (have HR2 := HE1; have HS2 := Lib.hid (AlSo.Same.refl E1 a mid); have HP2 := Lib.hid (HMI.out.B0 hnb.out); have HOn := HO1
                 clear HE1 HO1)
              have HCC := Lib.hid (HMI.out.c HS2.out)
              first
              | (have CC := Lib.hid (ih.out mid e b _ _ (by omega) hc1 hc2 hbn (HS2.out.lt (by omega) (HSA.out.lt hbn HD.out)) (HCC.out.1 hc1 hc2) HR2.out (HS.out.keep HOn.out (by simp; exact fun e => hg.1 e.symm) (by simp; exact fun e => hg.2 e.symm)))
                 clear HR2 HCC
                 go_wp2_with fail
                 (with_reducible refine CC.out.mono ?_); rintro ee w3 ⟨rfl, ⟨E3, hR3, hS3, hO3⟩, hW3⟩
                 have HR3 := Lib.hid hR3; have HS3 := Lib.hid hS3; have HP3 := Lib.hid hO3; have HOm := Lib.hid (HOn.out.trans hW3)
                 clear hR3 hS3 hO3 hW3 HOn)
              | (have HR3 := HR2; have HS3 := Lib.hid ((fun (X : Nat → Nat) (_ : IRow _ g n X) => AlSo.Same.refl X mid b) _ HR2.out); have HP3 := Lib.hid (HCC.out.2 hnc.out); have HOm := HOn
                 clear HR2 HOn HCC)
              try go_wp2_with fail
              go_end0
              exact ⟨rfl, ⟨_, HR3.out, (HMI.out.fin HSA.out (by omega) (by omega) HS2.out HP2.out HS3.out HP3.out).1, (HMI.out.fin HSA.out (by omega) (by omega) HS2.out HP2.out HS3.out HP3.out).2⟩, HOm.out⟩
            · have dc1 : decide ((mid : Int) < (e : Int)) = true := by simp; omega
              have dc2 : decide ((e : Int) < (b : Int)) = false := by simp; omega
              have hnc : Hid (¬ (mid < e ∧ e < b)) := Lib.hid (fun h => hc2 h.2)
              first
              | (have CA := Lib.hid (rotate32 g n i m e D (cmpv bl) hn ha1 ha2 (by omega) _ HE.out)
                 clear HE
                 go_wp2_with fail
                 (with_reducible refine CA.out.mono ?_); rintro ee w1 ⟨rfl, hR1, hW1⟩
                 rw [HE1e.out] at hR1
                 have HE1 := Lib.hid hR1
                 have HO1 := Lib.hid ((HO.out.mono (T := [g]) (by simp)).trans hW1)
                 clear hR1 hW1 HO)
              | (have HE1 := Lib.hid (HE.out.of hskipA.out)
                 have HO1 := Lib.hid (HO.out.mono (T := [g]) (by simp))
                 clear HE HO)
              first
              | (have CB := Lib.hid (ih.out a i mid E1 _ (by omega) hb1 hb2 (by omega) (HSA.out.lt hbn HD.out) (HMI.out.B hb1 hb2) HE1.out (HS.out.keep HO1.out (by simp; exact fun e => hg.1 e.symm) (by simp; exact fun e => hg.2 e.symm)))
                 clear HE1
                 go_wp2_with fail
                 (with_reducible refine CB.out.mono ?_); rintro ee w2 ⟨rfl, ⟨E2, hR2, hS2, hO2⟩, hW2⟩
                 have HR2 := Lib.hid hR2; have HS2 := Lib.hid hS2; have HP2 := Lib.hid hO2; have HOn := Lib.hid (HO1.out.trans hW2)
                 clear hR2 hS2 hO2 hW2 HO1)
              | (have HR2 := HE1; have HS2 := Lib.hid (AlSo.Same.refl E1 a mid); have HP2 := Lib.hid (HMI.out.B0 hnb.out); have HOn := HO1
                 clear HE1 HO1)
              have HCC := Lib.hid (HMI.out.c HS2.out)
              first
              | (have CC := Lib.hid (ih.out mid e b _ _ (by omega) hc1 hc2 hbn (HS2.out.lt (by omega) (HSA.out.lt hbn HD.out)) (HCC.out.1 hc1 hc2) HR2.out (HS.out.keep HOn.out (by simp; exact fun e => hg.1 e.symm) (by simp; exact fun e => hg.2 e.symm)))
                 clear HR2 HCC
                 go_wp2_with fail
                 (with_reducible refine CC.out.mono ?_); rintro ee w3 ⟨rfl, ⟨E3, hR3, hS3, hO3⟩, hW3⟩
                 have HR3 := Lib.hid hR3; have HS3 := Lib.hid hS3; have HP3 := Lib.hid hO3; have HOm := Lib.hid (HOn.out.trans hW3)
                 clear hR3 hS3 hO3 hW3 HOn)
              | (have HR3 := HR2; have HS3 := Lib.hid ((fun (X : Nat → Nat) (_ : IRow _ g n X) => AlSo.Same.refl X mid b) _ HR2.out); have HP3 := Lib.hid (HCC.out.2 hnc.out); have HOm := HOn
                 clear HR2 HOn HCC)
              try go_wp2_with fail
              go_end0
              exact ⟨rfl, ⟨_, HR3.out, (HMI.out.fin HSA.out (by omega) (by omega) HS2.out HP2.out HS3.out HP3.out).1, (HMI.out.fin HSA.out (by omega) (by omega) HS2.out HP2.out HS3.out HP3.out).2⟩, HOm.out⟩
            · have dc1 : decide ((mid : Int) < (e : Int)) = false := by simp; omega
              have hnc : Hid (¬ (mid < e ∧ e < b)) := Lib.hid (fun h => hc1 h.1)
              first
              | (have CA := Lib.hid (rotate32 g n i m e D (cmpv bl) hn ha1 ha2 (by omega) _ HE.out)
                 clear HE
                 go_wp2_with fail
                 (with_reducible refine CA.out.mono ?_); rintro ee w1 ⟨rfl, hR1, hW1⟩
                 rw [HE1e.out] at hR1
                 have HE1 := Lib.hid hR1
                 have HO1 := Lib.hid ((HO.out.mono (T := [g]) (by simp)).trans hW1)
                 clear hR1 hW1 HO)
              | (have HE1 := Lib.hid (HE.out.of hskipA.out)
                 have HO1 := Lib.hid (HO.out.mono (T := [g]) (by simp))
                 clear HE HO)
              first
              | (have CB := Lib.hid (ih.out a i mid E1 _ (by omega) hb1 hb2 (by omega) (HSA.out.lt hbn HD.out) (HMI.out.B hb1 hb2) HE1.out (HS.out.keep HO1.out (by simp; exact fun e => hg.1 e.symm) (by simp; exact fun e => hg.2 e.symm)))
                 clear HE1
                 go_wp2_with fail
                 (with_reducible refine CB.out.mono ?_); rintro ee w2 ⟨rfl, ⟨E2, hR2, hS2, hO2⟩, hW2⟩
                 have HR2 := Lib.hid hR2; have HS2 := Lib.hid hS2; have HP2 := Lib.hid hO2; have HOn := Lib.hid (HO1.out.trans hW2)
                 clear hR2 hS2 hO2 hW2 HO1)
              | (have HR2 := HE1; have HS2 := Lib.hid (AlSo.Same.refl E1 a mid); have HP2 := Lib.hid (HMI.out.B0 hnb.out); have HOn := HO1
                 clear HE1 HO1)
              have HCC := Lib.hid (HMI.out.c HS2.out)
              first
              | (have CC := Lib.hid (ih.out mid e b _ _ (by omega) hc1 hc2 hbn (HS2.out.lt (by omega) (HSA.out.lt hbn HD.out)) (HCC.out.1 hc1 hc2) HR2.out (HS.out.keep HOn.out (by simp; exact fun e => hg.1 e.symm) (by simp; exact fun e => hg.2 e.symm)))
                 clear HR2 HCC
                 go_wp2_with fail
                 (with_reducible refine CC.out.mono ?_); rintro ee w3 ⟨rfl, ⟨E3, hR3, hS3, hO3⟩, hW3⟩
                 have HR3 := Lib.hid hR3; have HS3 := Lib.hid hS3; have HP3 := Lib.hid hO3; have HOm := Lib.hid (HOn.out.trans hW3)
                 clear hR3 hS3 hO3 hW3 HOn)
              | (have HR3 := HR2; have HS3 := Lib.hid ((fun (X : Nat → Nat) (_ : IRow _ g n X) => AlSo.Same.refl X mid b) _ HR2.out); have HP3 := Lib.hid (HCC.out.2 hnc.out); have HOm := HOn
                 clear HR2 HOn HCC)
              try go_wp2_with fail
              go_end0
              exact ⟨rfl, ⟨_, HR3.out, (HMI.out.fin HSA.out (by omega) (by omega) HS2.out HP2.out HS3.out HP3.out).1, (HMI.out.fin HSA.out (by omega) (by omega) HS2.out HP2.out HS3.out HP3.out).2⟩, HOm.out⟩
        · have da1 : decide ((i : Int) < (m : Int)) = true := by simp; omega
          have da2 : decide ((m : Int) < (e : Int)) = false := by simp; omega
          have hskipA : Hid (D = E1) := Lib.hid (by rw [← HE1e.out, ← show m = e by omega, AlSo.rot_right0])
          rcases tri a i mid with ⟨hb1, hb2⟩ | ⟨hb1, hb2⟩ | hb1
          · have db1 : decide ((a : Int) < (i : Int)) = true := by simp; omega
            have db2 : decide ((i : Int) < (mid : Int)) = true := by simp; omega
            rcases tri mid e b with ⟨hc1, hc2⟩ | ⟨hc1, hc2⟩ | hc1
            · have dc1 : decide ((mid : Int) < (e : Int)) = true := by simp; omega
              have dc2 : decide ((e : Int) < (b : Int)) = true := by simp; omega
              first
              | (have CA := Lib.hid (rotate32 g n i m e D (cmpv bl) hn ha1 ha2 (by omega) _ HE.out)
                 clear HE
                 go_wp2_with fail
                 (with_reducible refine CA.out.mono ?_); rintro ee w1 ⟨rfl, hR1, hW1⟩
                 rw [HE1e.out] at hR1
                 have HE1 := Lib.hid hR1
                 have HO1 := Lib.hid ((HO.out.mono (T := [g]) (by simp)).trans hW1)
                 clear hR1 hW1 HO)
              | (have HE1 := Lib.hid (HE.out.of hskipA.out)
                 have HO1 := Lib.hid (HO.out.mono (T := [g]) (by simp))
                 clear HE HO)
              first
              | (have CB := Lib.hid (ih.out a i mid E1 _ (by omega) hb1 hb2 (by omega) (HSA.out.lt hbn HD.out) (HMI.out.B hb1 hb2) HE1.out (HS.out.keep HO1.out (by simp; exact fun e => hg.1 e.symm) (by simp; exact fun e => hg.2 e.symm)))
                 clear HE1
                 go_wp2_with fail
                 (with_reducible refine CB.out.mono ?_); rintro ee w2 ⟨rfl, ⟨E2, hR2, hS2, hO2⟩, hW2⟩
                 have HR2 := Lib.hid hR2; have HS2 := Lib.hid hS2; have HP2 := Lib.hid hO2; have HOn := Lib.hid (HO1.out.trans hW2)
                 clear hR2 hS2 hO2 hW2 HO1)
              | (have HR2 := HE1; have HS2 := Lib.hid (AlSo.Same.refl E1 a mid); have HP2 := Lib.hid (HMI.out.B0 hnb.out); have HOn := HO1
                 clear HE1 HO1)
              have HCC := Lib.hid (HMI.out.c HS2.out)
              first
              | (have CC := Lib.hid (ih.out mid e b _ _ (by omega) hc1 hc2 hbn (HS2.out.lt (by omega) (HSA.out.lt hbn HD.out)) (HCC.out.1 hc1 hc2) HR2.out (HS.out.keep HOn.out (by simp; exact fun e => hg.1 e.symm) (by simp; exact fun e => hg.2 e.symm)))
                 clear HR2 HCC
                 go_wp2_with fail
                 (with_reducible refine CC.out.mono ?_); rintro ee w3 ⟨rfl, ⟨E3, hR3, hS3, hO3⟩, hW3⟩
                 have HR3 := Lib.hid hR3; have HS3 := Lib.hid hS3; have HP3 := Lib.hid hO3; have HOm := Lib.hid (HOn.out.trans hW3)
                 clear hR3 hS3 hO3 hW3 HOn)
              | (have HR3 := HR2; have HS3 := Lib.hid ((fun (X : Nat → Nat) (_ : IRow _ g n X) => AlSo.Same.refl X mid b) _ HR2.out); have HP3 := Lib.hid (HCC.out.2 hnc.out); have HOm := HOn
                 clear HR2 HOn HCC)
              try go_wp2_with fail
              go_end0
              exact ⟨rfl, ⟨_, HR3.out, (HMI.out.fin HSA.out (by omega) (by omega) HS2.out HP2.out HS3.out HP3.out).1, (HMI.out.fin HSA.out (by omega) (by omega) HS2.out HP2.out HS3.out HP3.out).2⟩, HOm.out⟩
            · have dc1 : decide ((mid : Int) < (e : Int)) = true := by simp; omega
              have dc2 : decide ((e : Int) < (b : Int)) = false := by simp; omega
              have hnc : Hid (¬ (mid < e ∧ e < b)) := Lib.hid (fun h => hc2 h.2)
              first
              | (have CA := Lib.hid (rotate32 g n i m e D (cmpv bl) hn ha1 ha2 (by omega) _ HE.out)
                 clear HE
                 go_wp2_with fail
                 (with_reducible refine CA.out.mono ?_); rintro ee w1 ⟨rfl, hR1, hW1⟩
                 rw [HE1e.out] at hR1
                 have HE1 := Lib.hid hR1
                 have HO1 := Lib.hid ((HO.out.mono (T := [g]) (by simp)).trans hW1)
                 clear hR1 hW1 HO)
              | (have HE1 := Lib.hid (HE.out.of hskipA.out)
                 have HO1 := Lib.hid (HO.out.mono (T := [g]) (by simp))
                 clear HE HO)
              first
              | (have CB := Lib.hid (ih.out a i mid E1 _ (by omega) hb1 hb2 (by omega) (HSA.out.lt hbn HD.out) (HMI.out.B hb1 hb2) HE1.out (HS.out.keep HO1.out (by simp; exact fun e => hg.1 e.symm) (by simp; exact fun e => hg.2 e.symm)))
                 clear HE1
                 go_wp2_with fail
                 (with_reducible refine CB.out.mono ?_); rintro ee w2 ⟨rfl, ⟨E2, hR2, hS2, hO2⟩, hW2⟩
                 have HR2 := Lib.hid hR2; have HS2 := Lib.hid hS2; have HP2 := Lib.hid hO2; have HOn := Lib.hid (HO1.out.trans hW2)
                 clear hR2 hS2 hO2 hW2 HO1)
              | (have HR2 := HE1; have HS2 := Lib.hid (AlSo.Same.refl E1 a mid); have HP2 := Lib.hid (HMI.out.B0 hnb.out); have HOn := HO1
                 clear HE1 HO1)
              have HCC := Lib.hid (HMI.out.c HS2.out)
              first
              | (have CC := Lib.hid (ih.out mid e b _ _ (by omega) hc1 hc2 hbn (HS2.out.lt (by omega) (HSA.out.lt hbn HD.out)) (HCC.out.1 hc1 hc2) HR2.out (HS.out.keep HOn.out (by simp; exact fun e => hg.1 e.symm) (by simp; exact fun e => hg.2 e.symm)))
                 clear HR2 HCC
                 go_wp2_with fail
                 (with_reducible refine CC.out.mono ?_); rintro ee w3 ⟨rfl, ⟨E3, hR3, hS3, hO3⟩, hW3⟩
                 have HR3 := Lib.hid hR3; have HS3 := Lib.hid hS3; have HP3 := Lib.hid hO3; have HOm := Lib.hid (HOn.out.trans hW3)
                 clear hR3 hS3 hO3 hW3 HOn)
              | (have HR3 := HR2; have HS3 := Lib.hid ((fun (X : Nat → Nat) (_ : IRow _ g n X) => AlSo.Same.refl X mid b) _ HR2.out); have HP3 := Lib.hid (HCC.out.2 hnc.out); have HOm := HOn
                 clear HR2 HOn HCC)
              try go_wp2_with fail
              go_end0
              exact ⟨rfl, ⟨_, HR3.out, (HMI.out.fin HSA.out (by omega) (by omega) HS2.out HP2.out HS3.out HP3.out).1, (HMI.out.fin HSA.out (by omega) (by omega) HS2.out HP2.out HS3.out HP3.out).2⟩, HOm.out⟩
            · have dc1 : decide ((mid : Int) < (e : Int)) = false := by simp; omega
              have hnc : Hid (¬ (mid < e ∧ e < b)) := Lib.hid (fun h => hc1 h.1)
              first
              | (have CA := Lib.hid (rotate32 g n i m e D (cmpv bl) hn ha1 ha2 (by omega) _ HE.out)
                 clear HE
                 go_wp2_with fail
                 (with_reducible refine CA.out.mono ?_); rintro ee w1 ⟨rfl, hR1, hW1⟩
                 rw [HE1e.out] at hR1
                 have HE1 := Lib.hid hR1
                 have HO1 := Lib.hid ((HO.out.mono (T := [g]) (by simp)).trans hW1)
                 clear hR1 hW1 HO)
              | (have HE1 := Lib.hid (HE.out.of hskipA.out)
                 have HO1 := Lib.hid (HO.out.mono (T := [g]) (by simp))
                 clear HE HO)
              first
              | (have CB := Lib.hid (ih.out a i mid E1 _ (by omega) hb1 hb2 (by omega) (HSA.out.lt hbn HD.out) (HMI.out.B hb1 hb2) HE1.out (HS.out.keep HO1.out (by simp; exact fun e => hg.1 e.symm) (by simp; exact fun e => hg.2 e.symm)))
                 clear HE1
                 go_wp2_with fail
                 (with_reducible refine CB.out.mono ?_); rintro ee w2 ⟨rfl, ⟨E2, hR2, hS2, hO2⟩, hW2⟩
                 have HR2 := Lib.hid hR2; have HS2 := Lib.hid hS2; have HP2 := Lib.hid hO2; have HOn := Lib.hid (HO1.out.trans hW2)
                 clear hR2 hS2 hO2 hW2 HO1)
              | (have HR2 := HE1; have HS2 := Lib.hid (AlSo.Same.refl E1 a mid); have HP2 := Lib.hid (HMI.out.B0 hnb.out); have HOn := HO1
                 clear HE1 HO1)
              have HCC := Lib.hid (HMI.out.c HS2.out)
              first
              | (have CC := Lib.hid (ih.out mid e b _ _ (by omega) hc1 hc2 hbn (HS2.out.lt (by omega) (HSA.out.lt hbn HD.out)) (HCC.out.1 hc1 hc2) HR2.out (HS.out.keep HOn.out (by simp; exact fun e => hg.1 e.symm) (by simp; exact fun e => hg.2 e.symm)))
                 clear HR2 HCC
                 go_wp2_with fail
                 (with_reducible refine CC.out.mono ?_); rintro ee w3 ⟨rfl, ⟨E3, hR3, hS3, hO3⟩, hW3⟩
                 have HR3 := Lib.hid hR3; have HS3 := Lib.hid hS3; have HP3 := Lib.hid hO3; have HOm := Lib.hid (HOn.out.trans hW3)
                 clear hR3 hS3 hO3 hW3 HOn)
              | (have HR3 := HR2; have HS3 := Lib.hid ((fun (X : Nat → Nat) (_ : IRow _ g n X) => AlSo.Same.refl X mid b) _ HR2.out); have HP3 := Lib.hid (HCC.out.2 hnc.out); have HOm := HOn
                 clear HR2 HOn HCC)
              try go_wp2_with fail
              go_end0
              exact ⟨rfl, ⟨_, HR3.out, (HMI.out.fin HSA.out (by omega) (by omega) HS2.out HP2.out HS3.out HP3.out).1, (HMI.out.fin HSA.out (by omega) (by omega) HS2.out HP2.out HS3.out HP3.out).2⟩, HOm.out⟩
          · have db1 : decide ((a : Int) < (i : Int)) = true := by simp; omega
            have db2 : decide ((i : Int) < (mid : Int)) = false := by simp; omega
            have hnb : Hid (¬ (a < i ∧ i < mid)) := Lib.hid (fun h => hb2 h.2)
            rcases tri mid e b with ⟨hc1, hc2⟩ | ⟨hc1, hc2⟩ | hc1
            · have dc1 : decide ((mid : Int) < (e : Int)) = true := by simp; omega
              have dc2 : decide ((e : Int) < (b : Int)) = true := by simp; omega
              first
              | (have CA := Lib.hid (rotate32 g n i m e D (cmpv bl) hn ha1 ha2 (by omega) _ HE.out)
                 clear HE
                 go_wp2_with fail
                 (with_reducible refine CA.out.mono ?_); rintro ee w1 ⟨rfl, hR1, hW1⟩
                 rw [HE1e.out] at hR1
                 have HE1 := Lib.hid hR1
                 have HO1 := Lib.hid ((HO.out.mono (T := [g]) (by simp)).trans hW1)
                 clear hR1 hW1 HO)
              | (have HE1 := Lib.hid (HE.out.of hskipA.out)
                 have HO1 := Lib.hid (HO.out.mono (T := [g]) (by simp))
                 clear HE HO)
              first
              | (have CB := Lib.hid (ih.out a i mid E1 _ (by omega) hb1 hb2 (by omega) (HSA.out.lt hbn HD.out) (HMI.out.B hb1 hb2) HE1.out (HS.out.keep HO1.out (by simp; exact fun e => hg.1 e.symm) (by simp; exact fun e => hg.2 e.symm)))
                 clear HE1
                 go_wp2_with fail
                 (with_reducible refine CB.out.mono ?_); rintro ee w2 ⟨rfl, ⟨E2, hR2, hS2, hO2⟩, hW2⟩
                 have HR2 := Lib.hid hR2; have HS2 := Lib.hid hS2; have HP2 := Lib.hid hO2; have HOn := Lib.hid (HO1.out.trans hW2)
                 clear hR2 hS2 hO2 hW2 HO1)
              | (have HR2 := HE1; have HS2 := Lib.hid (AlSo.Same.refl E1 a mid); have HP2 := Lib.hid (HMI.out.B0 hnb.out); have HOn := HO1
                 clear HE1 HO1)
              have HCC := Lib.hid (HMI.out.c HS2.out)
              first
              | (have CC := Lib.hid (ih.out mid e b _ _ (by omega) hc1 hc2 hbn (HS2.out.lt (by omega) (HSA.out.lt hbn HD.out)) (HCC.out.1 hc1 hc2) HR2.out (HS.out.keep HOn.out (by simp; exact fun e => hg.1 e.symm) (by simp; exact fun e => hg.2 e.symm)))
                 clear HR2 HCC
                 go_wp2_with fail
                 (with_reducible refine CC.out.mono ?_); rintro ee w3 ⟨rfl, ⟨E3, hR3, hS3, hO3⟩, hW3⟩
                 have HR3 := Lib.hid hR3; have HS3 := Lib.hid hS3; have HP3 := Lib.hid hO3; have HOm := Lib.hid (HOn.out.trans hW3)
                 clear hR3 hS3 hO3 hW3 HOn)
              | (have HR3 := HR2; have HS3 := Lib.hid ((fun (X : Nat → Nat) (_ : IRow _ g n X) => AlSo.Same.refl X mid b) _ HR2.out); have HP3 := Lib.hid (HCC.out.2 hnc.out); have HOm := HOn
                 clear HR2 HOn HCC)
              try go_wp2_with fail
              go_end0
              exact ⟨rfl, ⟨_, HR3.out, (HMI.out.fin HSA.out (by omega) (by omega) HS2.out HP2.out HS3.out HP3.out).1, (HMI.out.fin HSA.out (by omega) (by omega) HS2.out HP2.out HS3.out HP3.out).2⟩, HOm.out⟩
            · have dc1 : decide ((mid : Int) < (e : Int)) = true := by simp; omega
              have dc2 : decide ((e : Int) < (b : Int)) = false := by simp; omega
              have hnc : Hid (¬ (mid < e ∧ e < b)) := Lib.hid (fun h => hc2 h.2)
              first
              | (have CA := Lib.hid (rotate32 g n i m e D (cmpv bl) hn ha1 ha2 (by omega) _ HE.out)
                 clear HE
                 go_wp2_with fail
                 (with_reducible refine CA.out.mono ?_); rintro ee w1 ⟨rfl, hR1, hW1⟩
                 rw [HE1e.out] at hR1
                 have HE1 := Lib.hid hR1
                 have HO1 := Lib.hid ((HO.out.mono (T := [g]) (by simp)).trans hW1)
                 clear hR1 hW1 HO)
              | (have HE1 := Lib.hid (HE.out.of hskipA.out)
                 have HO1 := Lib.hid (HO.out.mono (T := [g]) (by simp))
                 clear HE HO)
              first
              | (have CB := Lib.hid (ih.out a i mid E1 _ (by omega) hb1 hb2 (by omega) (HSA.out.lt hbn HD.out) (HMI.out.B hb1 hb2) HE1.out (HS.out.keep HO1.out (by simp; exact fun e => hg.1 e.symm) (by simp; exact fun e => hg.2 e.symm)))
                 clear HE1
                 go_wp2_with fail
                 (with_reducible refine CB.out.mono ?_); rintro ee w2 ⟨rfl, ⟨E2, hR2, hS2, hO2⟩, hW2⟩
                 have HR2 := Lib.hid hR2; have HS2 := Lib.hid hS2; have HP2 := Lib.hid hO2; have HOn := Lib.hid (HO1.out.trans hW2)
                 clear hR2 hS2 hO2 hW2 HO1)
              | (have HR2 := HE1; have HS2 := Lib.hid (AlSo.Same.refl E1 a mid); have HP2 := Lib.hid (HMI.out.B0 hnb.out); have HOn := HO1
                 clear HE1 HO1)
              have HCC := Lib.hid (HMI.out.c HS2.out)
              first
              | (have CC := Lib.hid (ih.out mid e b _ _ (by omega) hc1 hc2 hbn (HS2.out.lt (by omega) (HSA.out.lt hbn HD.out)) (HCC.out.1 hc1 hc2) HR2.out (HS.out.keep HOn.out (by simp; exact fun e => hg.1 e.symm) (by simp; exact fun e => hg.2 e.symm)))
                 clear HR2 HCC
                 go_wp2_with fail
                 (with_reducible refine CC.out.mono ?_); rintro ee w3 ⟨rfl, ⟨E3, hR3, hS3, hO3⟩, hW3⟩
                 have HR3 := Lib.hid hR3; have HS3 := Lib.hid hS3; have HP3 := Lib.hid hO3; have HOm := Lib.hid (HOn.out.trans hW3)
                 clear hR3 hS3 hO3 hW3 HOn)
              | (have HR3 := HR2; have HS3 := Lib.hid ((fun (X : Nat → Nat) (_ : IRow _ g n X) => AlSo.Same.refl X mid b) _ HR2.out); have HP3 := Lib.hid (HCC.out.2 hnc.out); have HOm := HOn
                 clear HR2 HOn HCC)
              try go_wp2_with fail
              go_end0
              exact ⟨rfl, ⟨_, HR3.out, (HMI.out.fin HSA.out (by omega) (by omega) HS2.out HP2.out HS3.out HP3.out).1, (HMI.out.fin HSA.out (by omega) (by omega) HS2.out HP2.out HS3.out HP3.out).2⟩, HOm.out⟩
            · have dc1 : decide ((mid : Int) < (e : Int)) = false := by simp; omega
              have hnc : Hid (¬ (mid < e ∧ e < b)) := Lib.hid (fun h => hc1 h.1)
              first
              | (have CA := Lib.hid (rotate32 g n i m e D (cmpv bl) hn ha1 ha2 (by omega) _ HE.out)
                 clear HE
                 go_wp2_with fail
                 (with_reducible refine CA.out.mono ?_); rintro ee w1 ⟨rfl, hR1, hW1⟩
                 rw [HE1e.out] at hR1
                 have HE1 := Lib.hid hR1
                 have HO1 := Lib.hid ((HO.out.mono (T := [g]) (by simp)).trans hW1)
                 clear hR1 hW1 HO)
              | (have HE1 := Lib.hid (HE.out.of hskipA.out)
                 have HO1 := Lib.hid (HO.out.mono (T := [g]) (by simp))
                 clear HE HO)
              first
              | (have CB := Lib.hid (ih.out a i mid E1 _ (by omega) hb1 hb2 (by omega) (HSA.out.lt hbn HD.out) (HMI.out.B hb1 hb2) HE1.out (HS.out.keep HO1.out (by simp; exact fun e => hg.1 e.symm) (by simp; exact fun e => hg.2 e.symm)))
                 clear HE1
                 go_wp2_with fail
                 (with_reducible refine CB.out.mono ?_); rintro ee w2 ⟨rfl, ⟨E2, hR2, hS2, hO2⟩, hW2⟩
                 have HR2 := Lib.hid hR2; have HS2 := Lib.hid hS2; have HP2 := Lib.hid hO2; have HOn := Lib.hid (HO1.out.trans hW2)
                 clear hR2 hS2 hO2 hW2 HO1)
              | (have HR2 := HE1; have HS2 := Lib.hid (AlSo.Same.refl E1 a mid); have HP2 := Lib.hid (HMI.out.B0 hnb.out); have HOn := HO1
                 clear HE1 HO1)
              have HCC := Lib.hid (HMI.out.c HS2.out)
              first
              | (have CC := Lib.hid (ih.out mid e b _ _ (by omega) hc1 hc2 hbn (HS2.out.lt (by omega) (HSA.out.lt hbn HD.out)) (HCC.out.1 hc1 hc2) HR2.out (HS.out.keep HOn.out (by simp; exact fun e => hg.1 e.symm) (by simp; exact fun e => hg.2 e.symm)))
                 clear HR2 HCC
                 go_wp2_with fail
                 (with_reducible refine CC.out.mono ?_); rintro ee w3 ⟨rfl, ⟨E3, hR3, hS3, hO3⟩, hW3⟩
                 have HR3 := Lib.hid hR3; have HS3 := Lib.hid hS3; have HP3 := Lib.hid hO3; have HOm := Lib.hid (HOn.out.trans hW3)
                 clear hR3 hS3 hO3 hW3 HOn)
              | (have HR3 := HR2; have HS3 := Lib.hid ((fun (X : Nat → Nat) (_ : IRow _ g n X) => AlSo.Same.refl X mid b) _ HR2.out); have HP3 := Lib.hid (HCC.out.2 hnc.out); have HOm := HOn
                 clear HR2 HOn HCC)
              try go_wp2_with fail
              go_end0
              exact ⟨rfl, ⟨_, HR3.out, (HMI.out.fin HSA.out (by omega) (by omega) HS2.out HP2.out HS3.out HP3.out).1, (HMI.out.fin HSA.out (by omega) (by omega) HS2.out HP2.out HS3.out HP3.out).2⟩, HOm.out⟩
          · have db1 : decide ((a : Int) < (i : Int)) = false := by simp; omega
            have hnb : Hid (¬ (a < i ∧ i < mid)) := Lib.hid (fun h => hb1 h.1)
            rcases tri mid e b with ⟨hc1, hc2⟩ | ⟨hc1, hc2⟩ | hc1
            · have dc1 : decide ((mid : Int) < (e : Int)) = true := by simp; omega
              have dc2 : decide ((e : Int) < (b : Int)) = true := by simp; omega
              first
              | (have CA := Lib.hid (rotate32 g n i m e D (cmpv bl) hn ha1 ha2 (by omega) _ HE.out)
                 clear HE
                 go_wp2_with fail
                 (with_reducible refine CA.out.mono ?_); rintro ee w1 ⟨rfl, hR1, hW1⟩
                 rw [HE1e.out] at hR1
                 have HE1 := Lib.hid hR1
                 have HO1 := Lib.hid ((HO.out.mono (T := [g]) (by simp)).trans hW1)
                 clear hR1 hW1 HO)
              | (have HE1 := Lib.hid (HE.out.of hskipA.out)
                 have HO1 := Lib.hid (HO.out.mono (T := [g]) (by simp))
                 clear HE HO)
              first
              | (have CB := Lib.hid (ih.out a i mid E1 _ (by omega) hb1 hb2 (by omega) (HSA.out.lt hbn HD.out) (HMI.out.B hb1 hb2) HE1.out (HS.out.keep HO1.out (by simp; exact fun e => hg.1 e.symm) (by simp; exact fun e => hg.2 e.symm)))
                 clear HE1
                 go_wp2_with fail
                 (with_reducible refine CB.out.mono ?_); rintro ee w2 ⟨rfl, ⟨E2, hR2, hS2, hO2⟩, hW2⟩
                 have HR2 := Lib.hid hR2; have HS2 := Lib.hid hS2; have HP2 := Lib.hid hO2; have HOn := Lib.hid (HO1.out.trans hW2)
                 clear hR2 hS2 hO2 hW2 HO1)
              | (have HR2 := HE1; have HS2 := Lib.hid (AlSo.Same.refl E1 a mid); have HP2 := Lib.hid (HMI.out.B0 hnb.out); have HOn := HO1
                 clear HE1 HO1)
              have HCC := Lib.hid (HMI.out.c HS2.out)
              first
              | (have CC := Lib.hid (ih.out mid e b _ _ (by omega) hc1 hc2 hbn (HS2.out.lt (by omega) (HSA.out.lt hbn HD.out)) (HCC.out.1 hc1 hc2) HR2.out (HS.out.keep HOn.out (by simp; exact fun e => hg.1 e.symm) (by simp; exact fun e => hg.2 e.symm)))
                 clear HR2 HCC
                 go_wp2_with fail
                 (with_reducible refine CC.out.mono ?_); rintro ee w3 ⟨rfl, ⟨E3, hR3, hS3, hO3⟩, hW3⟩
                 have HR3 := Lib.hid hR3; have HS3 := Lib.hid hS3; have HP3 := Lib.hid hO3; have HOm := Lib.hid (HOn.out.trans hW3)
                 clear hR3 hS3 hO3 hW3 HOn)
              | (have HR3 := HR2; have HS3 := Lib.hid ((fun (X : Nat → Nat) (_ : IRow _ g n X) => AlSo.Same.refl X mid b) _ HR2.out); have HP3 := Lib.hid (HCC.out.2 hnc.out); have HOm := HOn
                 clear HR2 HOn HCC)
              try go_wp2_with fail
              go_end0
              exact ⟨rfl, ⟨_, HR3.out, (HMI.out.fin HSA.out (by omega) (by omega) HS2.out HP2.out HS3.out HP3.out).1, (HMI.out.fin HSA.out (by omega) (by omega) HS2.out HP2.out HS3.out HP3.out).2⟩, HOm.out⟩
            · have dc1 : decide ((mid : Int) < (e : Int)) = true := by simp; omega
              have dc2 : decide ((e : Int) < (b : Int)) = false := by simp; omega
              have hnc : Hid (¬ (mid < e ∧ e < b)) := Lib.hid (fun h => hc2 h.2)
              first
              | (have CA := Lib.hid (rotate32 g n i m e D (cmpv bl) hn ha1 ha2 (by omega) _ HE.out)
                 clear HE
                 go_wp2_with fail
                 (with_reducible refine CA.out.mono ?_); rintro ee w1 ⟨rfl, hR1, hW1⟩
                 rw [HE1e.out] at hR1
                 have HE1 := Lib.hid hR1
                 have HO1 := Lib.hid ((HO.out.mono (T := [g]) (by simp)).trans hW1)
                 clear hR1 hW1 HO)
              | (have HE1 := Lib.hid (HE.out.of hskipA.out)
                 have HO1 := Lib.hid (HO.out.mono (T := [g]) (by simp))
                 clear HE HO)
              first
              | (have CB := Lib.hid (ih.out a i mid E1 _ (by omega) hb1 hb2 (by omega) (HSA.out.lt hbn HD.out) (HMI.out.B hb1 hb2) HE1.out (HS.out.keep HO1.out (by simp; exact fun e => hg.1 e.symm) (by simp; exact fun e => hg.2 e.symm)))
                 clear HE1
                 go_wp2_with fail
                 (with_reducible refine CB.out.mono ?_); rintro ee w2 ⟨rfl, ⟨E2, hR2, hS2, hO2⟩, hW2⟩
                 have HR2 := Lib.hid hR2; have HS2 := Lib.hid hS2; have HP2 := Lib.hid hO2; have HOn := Lib.hid (HO1.out.trans hW2)
                 clear hR2 hS2 hO2 hW2 HO1)
              | (have HR2 := HE1; have HS2 := Lib.hid (AlSo.Same.refl E1 a mid); have HP2 := Lib.hid (HMI.out.B0 hnb.out); have HOn := HO1
                 clear HE1 HO1)
              have HCC := Lib.hid (HMI.out.c HS2.out)
              first
              | (have CC := Lib.hid (ih.out mid e b _ _ (by omega) hc1 hc2 hbn (HS2.out.lt (by omega) (HSA.out.lt hbn HD.out)) (HCC.out.1 hc1 hc2) HR2.out (HS.out.keep HOn.out (by simp; exact fun e => hg.1 e.symm) (by simp; exact fun e => hg.2 e.symm)))
                 clear HR2 HCC
                 go_wp2_with fail
                 (with_reducible refine CC.out.mono ?_); rintro ee w3 ⟨rfl, ⟨E3, hR3, hS3, hO3⟩, hW3⟩
                 have HR3 := Lib.hid hR3; have HS3 := Lib.hid hS3; have HP3 := Lib.hid hO3; have HOm := Lib.hid (HOn.out.trans hW3)
                 clear hR3 hS3 hO3 hW3 HOn)
              | (have HR3 := HR2; have HS3 := Lib.hid ((fun (X : Nat → Nat) (_ : IRow _ g n X) => AlSo.Same.refl X mid b) _ HR2.out); have HP3 := Lib.hid (HCC.out.2 hnc.out); have HOm := HOn
                 clear HR2 HOn HCC)
              try go_wp2_with fail
              go_end0
              exact ⟨rfl, ⟨_, HR3.out, (HMI.out.fin HSA.out (by omega) (by omega) HS2.out HP2.out HS3.out HP3.out).1, (HMI.out.fin HSA.out (by omega) (by omega) HS2.out HP2.out HS3.out HP3.out).2⟩, HOm.out⟩
            · have dc1 : decide ((mid : Int) < (e : Int)) = false := by simp; omega
              have hnc : Hid (¬ (mid < e ∧ e < b)) := Lib.hid (fun h => hc1 h.1)
              first
              | (have CA := Lib.hid (rotate32 g n i m e D (cmpv bl) hn ha1 ha2 (by omega) _ HE.out)
                 clear HE
                 go_wp2_with fail
                 (with_reducible refine CA.out.mono ?_); rintro ee w1 ⟨rfl, hR1, hW1⟩
                 rw [HE1e.out] at hR1
                 have HE1 := Lib.hid hR1
                 have HO1 := Lib.hid ((HO.out.mono (T := [g]) (by simp)).trans hW1)
                 clear hR1 hW1 HO)
              | (have HE1 := Lib.hid (HE.out.of hskipA.out)
                 have HO1 := Lib.hid (HO.out.mono (T := [g]) (by simp))
                 clear HE HO)
              first
              | (have CB := Lib.hid (ih.out a i mid E1 _ (by omega) hb1 hb2 (by omega) (HSA.out.lt hbn HD.out) (HMI.out.B hb1 hb2) HE1.out (HS.out.keep HO1.out (by simp; exact fun e => hg.1 e.symm) (by simp; exact fun e => hg.2 e.symm)))
                 clear HE1
                 go_wp2_with fail
                 (with_reducible refine CB.out.mono ?_); rintro ee w2 ⟨rfl, ⟨E2, hR2, hS2, hO2⟩, hW2⟩
                 have HR2 := Lib.hid hR2; have HS2 := Lib.hid hS2; have HP2 := Lib.hid hO2; have HOn := Lib.hid (HO1.out.trans hW2)
                 clear hR2 hS2 hO2 hW2 HO1)
              | (have HR2 := HE1; have HS2 := Lib.hid (AlSo.Same.refl E1 a mid); have HP2 := Lib.hid (HMI.out.B0 hnb.out); have HOn := HO1
                 clear HE1 HO1)
              have HCC := Lib.hid (HMI.out.c HS2.out)
              first
              | (have CC := Lib.hid (ih.out mid e b _ _ (by omega) hc1 hc2 hbn (HS2.out.lt (by omega) (HSA.out.lt hbn HD.out)) (HCC.out.1 hc1 hc2) HR2.out (HS.out.keep HOn.out (by simp; exact fun e => hg.1 e.symm) (by simp; exact fun e => hg.2 e.symm)))
                 clear HR2 HCC
                 go_wp2_with fail
                 (with_reducible refine CC.out.mono ?_); rintro ee w3 ⟨rfl, ⟨E3, hR3, hS3, hO3⟩, hW3⟩
                 have HR3 := Lib.hid hR3; have HS3 := Lib.hid hS3; have HP3 := Lib.hid hO3; have HOm := Lib.hid (HOn.out.trans hW3)
                 clear hR3 hS3 hO3 hW3 HOn)
              | (have HR3 := HR2; have HS3 := Lib.hid ((fun (X : Nat → Nat) (_ : IRow _ g n X) => AlSo.Same.refl X mid b) _ HR2.out); have HP3 := Lib.hid (HCC.out.2 hnc.out); have HOm := HOn
                 clear HR2 HOn HCC)
              try go_wp2_with fail
              go_end0
              exact ⟨rfl, ⟨_, HR3.out, (HMI.out.fin HSA.out (by omega) (by omega) HS2.out HP2.out HS3.out HP3.out).1, (HMI.out.fin HSA.out (by omega) (by omega) HS2.out HP2.out HS3.out HP3.out).2⟩, HOm.out⟩
        · have da1 : decide ((i : Int) < (m : Int)) = false := by simp; omega
          have hskipA : Hid (D = E1) := Lib.hid (by rw [← HE1e.out, show i = m by omega, AlSo.rot_left0])
          rcases tri a i mid with ⟨hb1, hb2⟩ | ⟨hb1, hb2⟩ | hb1
          · have db1 : decide ((a : Int) < (i : Int)) = true := by simp; omega
            have db2 : decide ((i : Int) < (mid : Int)) = true := by simp; omega
            rcases tri mid e b with ⟨hc1, hc2⟩ | ⟨hc1, hc2⟩ | hc1
            · have dc1 : decide ((mid : Int) < (e : Int)) = true := by simp; omega
              have dc2 : decide ((e : Int) < (b : Int)) = true := by simp; omega
              first
              | (have CA := Lib.hid (rotate32 g n i m e D (cmpv bl) hn ha1 ha2 (by omega) _ HE.out)
                 clear HE
                 go_wp2_with fail
                 (with_reducible refine CA.out.mono ?_); rintro ee w1 ⟨rfl, hR1, hW1⟩
                 rw [HE1e.out] at hR1
                 have HE1 := Lib.hid hR1
                 have HO1 := Lib.hid ((HO.out.mono (T := [g]) (by simp)).trans hW1)
                 clear hR1 hW1 HO)
              | (have HE1 := Lib.hid (HE.out.of hskipA.out)
                 have HO1 := Lib.hid (HO.out.mono (T := [g]) (by simp))
                 clear HE HO)
              first
              | (have CB := Lib.hid (ih.out a i mid E1 _ (by omega) hb1 hb2 (by omega) (HSA.out.lt hbn HD.out) (HMI.out.B hb1 hb2) HE1.out (HS.out.keep HO1.out (by simp; exact fun e => hg.1 e.symm) (by simp; exact fun e => hg.2 e.symm)))
                 clear HE1
                 go_wp2_with fail
                 (with_reducible refine CB.out.mono ?_); rintro ee w2 ⟨rfl, ⟨E2, hR2, hS2, hO2⟩, hW2⟩
                 have HR2 := Lib.hid hR2; have HS2 := Lib.hid hS2; have HP2 := Lib.hid hO2; have HOn := Lib.hid (HO1.out.trans hW2)
                 clear hR2 hS2 hO2 hW2 HO1)
              | (have HR2 := HE1; have HS2 := Lib.hid (AlSo.Same.refl E1 a mid); have HP2 := Lib.hid (HMI.out.B0 hnb.out); have HOn := HO1
                 clear HE1 HO1)
              have HCC := Lib.hid (HMI.out.c HS2.out)
              first
              | (have CC := Lib.hid (ih.out mid e b _ _ (by omega) hc1 hc2 hbn (HS2.out.lt (by omega) (HSA.out.lt hbn HD.out)) (HCC.out.1 hc1 hc2) HR2.out (HS.out.keep HOn.out (by simp; exact fun e => hg.1 e.symm) (by simp; exact fun e => hg.2 e.symm)))
                 clear HR2 HCC
                 go_wp2_with fail
                 (with_reducible refine CC.out.mono ?_); rintro ee w3 ⟨rfl, ⟨E3, hR3, hS3, hO3⟩, hW3⟩
                 have HR3 := Lib.hid hR3; have HS3 := Lib.hid hS3; have HP3 := Lib.hid hO3; have HOm := Lib.hid (HOn.out.trans hW3)
                 clear hR3 hS3 hO3 hW3 HOn)
              | (have HR3 := HR2; have HS3 := Lib.hid ((fun (X : Nat → Nat) (_ : IRow _ g n X) => AlSo.Same.refl X mid b) _ HR2.out); have HP3 := Lib.hid (HCC.out.2 hnc.out); have HOm := HOn
                 clear HR2 HOn HCC)
              try go_wp2_with fail
              go_end0
              exact ⟨rfl, ⟨_, HR3.out, (HMI.out.fin HSA.out (by omega) (by omega) HS2.out HP2.out HS3.out HP3.out).1, (HMI.out.fin HSA.out (by omega) (by omega) HS2.out HP2.out HS3.out HP3.out).2⟩, HOm.out⟩
            · have dc1 : decide ((mid : Int) < (e : Int)) = true := by simp; omega
              have dc2 : decide ((e : Int) < (b : Int)) = false := by simp; omega
              have hnc : Hid (¬ (mid < e ∧ e < b)) := Lib.hid (fun h => hc2 h.2)
              first
              | (have CA := Lib.hid (rotate32 g n i m e D (cmpv bl) hn ha1 ha2 (by omega) _ HE.out)
                 clear HE
                 go_wp2_with fail
                 (with_reducible refine CA.out.mono ?_); rintro ee w1 ⟨rfl, hR1, hW1⟩
                 rw [HE1e.out] at hR1
                 have HE1 := Lib.hid hR1
                 have HO1 := Lib.hid ((HO.out.mono (T := [g]) (by simp)).trans hW1)
                 clear hR1 hW1 HO)
              | (have HE1 := Lib.hid (HE.out.of hskipA.out)
                 have HO1 := Lib.hid (HO.out.mono (T := [g]) (by simp))
                 clear HE HO)
              first
              | (have CB := Lib.hid (ih.out a i mid E1 _ (by omega) hb1 hb2 (by omega) (HSA.out.lt hbn HD.out) (HMI.out.B hb1 hb2) HE1.out (HS.out.keep HO1.out (by simp; exact fun e => hg.1 e.symm) (by simp; exact fun e => hg.2 e.symm)))
                 clear HE1
                 go_wp2_with fail
                 (with_reducible refine CB.out.mono ?_); rintro ee w2 ⟨rfl, ⟨E2, hR2, hS2, hO2⟩, hW2⟩
                 have HR2 := Lib.hid hR2; have HS2 := Lib.hid hS2; have HP2 := Lib.hid hO2; have HOn := Lib.hid (HO1.out.trans hW2)
                 clear hR2 hS2 hO2 hW2 HO1)
              | (have HR2 := HE1; have HS2 := Lib.hid (AlSo.Same.refl E1 a mid); have HP2 := Lib.hid (HMI.out.B0 hnb.out); have HOn := HO1
                 clear HE1 HO1)
              have HCC := Lib.hid (HMI.out.c HS2.out)
              first
              | (have CC := Lib.hid (ih.out mid e b _ _ (by omega) hc1 hc2 hbn (HS2.out.lt (by omega) (HSA.out.lt hbn HD.out)) (HCC.out.1 hc1 hc2) HR2.out (HS.out.keep HOn.out (by simp; exact fun e => hg.1 e.symm) (by simp; exact fun e => hg.2 e.symm)))
                 clear HR2 HCC
                 go_wp2_with fail
                 (with_reducible refine CC.out.mono ?_); rintro ee w3 ⟨rfl, ⟨E3, hR3, hS3, hO3⟩, hW3⟩
                 have HR3 := Lib.hid hR3; have HS3 := Lib.hid hS3; have HP3 := Lib.hid hO3; have HOm := Lib.hid (HOn.out.trans hW3)
                 clear hR3 hS3 hO3 hW3 HOn)
              | (have HR3 := HR2; have HS3 := Lib.hid ((fun (X : Nat → Nat) (_ : IRow _ g n X) => AlSo.Same.refl X mid b) _ HR2.out); have HP3 := Lib.hid (HCC.out.2 hnc.out); have HOm := HOn
                 clear HR2 HOn HCC)
              try go_wp2_with fail
              go_end0
              exact ⟨rfl, ⟨_, HR3.out, (HMI.out.fin HSA.out (by omega) (by omega) HS2.out HP2.out HS3.out HP3.out).1, (HMI.out.fin HSA.out (by omega) (by omega) HS2.out HP2.out HS3.out HP3.out).2⟩, HOm.out⟩
            · have dc1 : decide ((mid : Int) < (e : Int)) = false := by simp; omega
              have hnc : Hid (¬ (mid < e ∧ e < b)) := Lib.hid (fun h => hc1 h.1)
              first
              | (have CA := Lib.hid (rotate32 g n i m e D (cmpv bl) hn ha1 ha2 (by omega) _ HE.out)
                 clear HE
                 go_wp2_with fail
                 (with_reducible refine CA.out.mono ?_); rintro ee w1 ⟨rfl, hR1, hW1⟩
                 rw [HE1e.out] at hR1
                 have HE1 := Lib.hid hR1
                 have HO1 := Lib.hid ((HO.out.mono (T := [g]) (by simp)).trans hW1)
                 clear hR1 hW1 HO)
              | (have HE1 := Lib.hid (HE.out.of hskipA.out)
                 have HO1 := Lib.hid (HO.out.mono (T := [g]) (by simp))
                 clear HE HO)
              first
              | (have CB := Lib.hid (ih.out a i mid E1 _ (by omega) hb1 hb2 (by omega) (HSA.out.lt hbn HD.out) (HMI.out.B hb1 hb2) HE1.out (HS.out.keep HO1.out (by simp; exact fun e => hg.1 e.symm) (by simp; exact fun e => hg.2 e.symm)))
                 clear HE1
                 go_wp2_with fail
                 (with_reducible refine CB.out.mono ?_); rintro ee w2 ⟨rfl, ⟨E2, hR2, hS2, hO2⟩, hW2⟩
                 have HR2 := Lib.hid hR2; have HS2 := Lib.hid hS2; have HP2 := Lib.hid hO2; have HOn := Lib.hid (HO1.out.trans hW2)
                 clear hR2 hS2 hO2 hW2 HO1)
              | (have HR2 := HE1; have HS2 := Lib.hid (AlSo.Same.refl E1 a mid); have HP2 := Lib.hid (HMI.out.B0 hnb.out); have HOn := HO1
                 clear HE1 HO1)
              have HCC := Lib.hid (HMI.out.c HS2.out)
              first
              | (have CC := Lib.hid (ih.out mid e b _ _ (by omega) hc1 hc2 hbn (HS2.out.lt (by omega) (HSA.out.lt hbn HD.out)) (HCC.out.1 hc1 hc2) HR2.out (HS.out.keep HOn.out (by simp; exact fun e => hg.1 e.symm) (by simp; exact fun e => hg.2 e.symm)))
                 clear HR2 HCC
                 go_wp2_with fail
                 (with_reducible refine CC.out.mono ?_); rintro ee w3 ⟨rfl, ⟨E3, hR3, hS3, hO3⟩, hW3⟩
                 have HR3 := Lib.hid hR3; have HS3 := Lib.hid hS3; have HP3 := Lib.hid hO3; have HOm := Lib.hid (HOn.out.trans hW3)
                 clear hR3 hS3 hO3 hW3 HOn)
              | (have HR3 := HR2; have HS3 := Lib.hid ((fun (X : Nat → Nat) (_ : IRow _ g n X) => AlSo.Same.refl X mid b) _ HR2.out); have HP3 := Lib.hid (HCC.out.2 hnc.out); have HOm := HOn
                 clear HR2 HOn HCC)
              try go_wp2_with fail
              go_end0
              exact ⟨rfl, ⟨_, HR3.out, (HMI.out.fin HSA.out (by omega) (by omega) HS2.out HP2.out HS3.out HP3.out).1, (HMI.out.fin HSA.out (by omega) (by omega) HS2.out HP2.out HS3.out HP3.out).2⟩, HOm.out⟩
          · have db1 : decide ((a : Int) < (i : Int)) = true := by simp; omega
            have db2 : decide ((i : Int) < (mid : Int)) = false := by simp; omega
            have hnb : Hid (¬ (a < i ∧ i < mid)) := Lib.hid (fun h => hb2 h.2)
            rcases tri mid e b with ⟨hc1, hc2⟩ | ⟨hc1, hc2⟩ | hc1
            · have dc1 : decide ((mid : Int) < (e : Int)) = true := by simp; omega
              have dc2 : decide ((e : Int) < (b : Int)) = true := by simp; omega
              first
              | (have CA := Lib.hid (rotate32 g n i m e D (cmpv bl) hn ha1 ha2 (by omega) _ HE.out)
                 clear HE
                 go_wp2_with fail
                 (with_reducible refine CA.out.mono ?_); rintro ee w1 ⟨rfl, hR1, hW1⟩
                 rw [HE1e.out] at hR1
                 have HE1 := Lib.hid hR1
                 have HO1 := Lib.hid ((HO.out.mono (T := [g]) (by simp)).trans hW1)
                 clear hR1 hW1 HO)
              | (have HE1 := Lib.hid (HE.out.of hskipA.out)
                 have HO1 := Lib.hid (HO.out.mono (T := [g]) (by simp))
                 clear HE HO)
              first
              | (have CB := Lib.hid (ih.out a i mid E1 _ (by omega) hb1 hb2 (by omega) (HSA.out.lt hbn HD.out) (HMI.out.B hb1 hb2) HE1.out (HS.out.keep HO1.out (by simp; exact fun e => hg.1 e.symm) (by simp; exact fun e => hg.2 e.symm)))
                 clear HE1
                 go_wp2_with fail
                 (with_reducible refine CB.out.mono ?_); rintro ee w2 ⟨rfl, ⟨E2, hR2, hS2, hO2⟩, hW2⟩
                 have HR2 := Lib.hid hR2; have HS2 := Lib.hid hS2; have HP2 := Lib.hid hO2; have HOn := Lib.hid (HO1.out.trans hW2)
                 clear hR2 hS2 hO2 hW2 HO1)
              | (have HR2 := HE1; have HS2 := Lib.hid (AlSo.Same.refl E1 a mid); have HP2 := Lib.hid (HMI.out.B0 hnb.out); have HOn := HO1
                 clear HE1 HO1)
              have HCC := Lib.hid (HMI.out.c HS2.out)
              first
              | (have CC := Lib.hid (ih.out mid e b _ _ (by omega) hc1 hc2 hbn (HS2.out.lt (by omega) (HSA.out.lt hbn HD.out)) (HCC.out.1 hc1 hc2) HR2.out (HS.out.keep HOn.out (by simp; exact fun e => hg.1 e.symm) (by simp; exact fun e => hg.2 e.symm)))
                 clear HR2 HCC
                 go_wp2_with fail
                 (with_reducible refine CC.out.mono ?_); rintro ee w3 ⟨rfl, ⟨E3, hR3, hS3, hO3⟩, hW3⟩
                 have HR3 := Lib.hid hR3; have HS3 := Lib.hid hS3; have HP3 := Lib.hid hO3; have HOm := Lib.hid (HOn.out.trans hW3)
                 clear hR3 hS3 hO3 hW3 HOn)
              | (have HR3 := HR2; have HS3 := Lib.hid ((fun (X : Nat → Nat) (_ : IRow _ g n X) => AlSo.Same.refl X mid b) _ HR2.out); have HP3 := Lib.hid (HCC.out.2 hnc.out); have HOm := HOn
                 clear HR2 HOn HCC)
              try go_wp2_with fail
              go_end0
              exact ⟨rfl, ⟨_, HR3.out, (HMI.out.fin HSA.out (by omega) (by omega) HS2.out HP2.out HS3.out HP3.out).1, (HMI.out.fin HSA.out (by omega) (by omega) HS2.out HP2.out HS3.out HP3.out).2⟩, HOm.out⟩
            · have dc1 : decide ((mid : Int) < (e : Int)) = true := by simp; omega
              have dc2 : decide ((e : Int) < (b : Int)) = false := by simp; omega
              have hnc : Hid (¬ (mid < e ∧ e < b)) := Lib.hid (fun h => hc2 h.2)
              first
              | (have CA := Lib.hid (rotate32 g n i m e D (cmpv bl) hn ha1 ha2 (by omega) _ HE.out)
                 clear HE
                 go_wp2_with fail
                 (with_reducible refine CA.out.mono ?_); rintro ee w1 ⟨rfl, hR1, hW1⟩
                 rw [HE1e.out] at hR1
                 have HE1 := Lib.hid hR1
                 have HO1 := Lib.hid ((HO.out.mono (T := [g]) (by simp)).trans hW1)
                 clear hR1 hW1 HO)
              | (have HE1 := Lib.hid (HE.out.of hskipA.out)
                 have HO1 := Lib.hid (HO.out.mono (T := [g]) (by simp))
                 clear HE HO)
              first
              | (have CB := Lib.hid (ih.out a i mid E1 _ (by omega) hb1 hb2 (by omega) (HSA.out.lt hbn HD.out) (HMI.out.B hb1 hb2) HE1.out (HS.out.keep HO1.out (by simp; exact fun e => hg.1 e.symm) (by simp; exact fun e => hg.2 e.symm)))
                 clear HE1
                 go_wp2_with fail
                 (with_reducible refine CB.out.mono ?_); rintro ee w2 ⟨rfl, ⟨E2, hR2, hS2, hO2⟩, hW2⟩
                 have HR2 := Lib.hid hR2; have HS2 := Lib.hid hS2; have HP2 := Lib.hid hO2; have HOn := Lib.hid (HO1.out.trans hW2)
                 clear hR2 hS2 hO2 hW2 HO1)
              | (have HR2 := HE1; have HS2 := Lib.hid (AlSo.Same.refl E1 a mid); have HP2 := Lib.hid (HMI.out.B0 hnb.out); have HOn := HO1
                 clear HE1 HO1)
              have HCC := Lib.hid (HMI.out.c HS2.out)
              first
              | (have CC := Lib.hid (ih.out mid e b _ _ (by omega) hc1 hc2 hbn (HS2.out.lt (by omega) (HSA.out.lt hbn HD.out)) (HCC.out.1 hc1 hc2) HR2.out (HS.out.keep HOn.out (by simp; exact fun e => hg.1 e.symm) (by simp; exact fun e => hg.2 e.symm)))
                 clear HR2 HCC
                 go_wp2_with fail
                 (with_reducible refine CC.out.mono ?_); rintro ee w3 ⟨rfl, ⟨E3, hR3, hS3, hO3⟩, hW3⟩
                 have HR3 := Lib.hid hR3; have HS3 := Lib.hid hS3; have HP3 := Lib.hid hO3; have HOm := Lib.hid (HOn.out.trans hW3)
                 clear hR3 hS3 hO3 hW3 HOn)
              | (have HR3 := HR2; have HS3 := Lib.hid ((fun (X : Nat → Nat) (_ : IRow _ g n X) => AlSo.Same.refl X mid b) _ HR2.out); have HP3 := Lib.hid (HCC.out.2 hnc.out); have HOm := HOn
                 clear HR2 HOn HCC)
              try go_wp2_with fail
              go_end0
              exact ⟨rfl, ⟨_, HR3.out, (HMI.out.fin HSA.out (by omega) (by omega) HS2.out HP2.out HS3.out HP3.out).1, (HMI.out.fin HSA.out (by omega) (by omega) HS2.out HP2.out HS3.out HP3.out).2⟩, HOm.out⟩
            · have dc1 : decide ((mid : Int) < (e : Int)) = false := by simp; omega
              have hnc : Hid (¬ (mid < e ∧ e < b)) := Lib.hid (fun h => hc1 h.1)
              first
              | (have CA := Lib.hid (rotate32 g n i m e D (cmpv bl) hn ha1 ha2 (by omega) _ HE.out)
                 clear HE
                 go_wp2_with fail
                 (with_reducible refine CA.out.mono ?_); rintro ee w1 ⟨rfl, hR1, hW1⟩
                 rw [HE1e.out] at hR1
                 have HE1 := Lib.hid hR1
                 have HO1 := Lib.hid ((HO.out.mono (T := [g]) (by simp)).trans hW1)
                 clear hR1 hW1 HO)
              | (have HE1 := Lib.hid (HE.out.of hskipA.out)
                 have HO1 := Lib.hid (HO.out.mono (T := [g]) (by simp))
                 clear HE HO)
              first
              | (have CB := Lib.hid (ih.out a i mid E1 _ (by omega) hb1 hb2 (by omega) (HSA.out.lt hbn HD.out) (HMI.out.B hb1 hb2) HE1.out (HS.out.keep HO1.out (by simp; exact fun e => hg.1 e.symm) (by simp; exact fun e => hg.2 e.symm)))
                 clear HE1
                 go_wp2_with fail
                 (with_reducible refine CB.out.mono ?_); rintro ee w2 ⟨rfl, ⟨E2, hR2, hS2, hO2⟩, hW2⟩
                 have HR2 := Lib.hid hR2; have HS2 := Lib.hid hS2; have HP2 := Lib.hid hO2; have HOn := Lib.hid (HO1.out.trans hW2)
                 clear hR2 hS2 hO2 hW2 HO1)
              | (have HR2 := HE1; have HS2 := Lib.hid (AlSo.Same.refl E1 a mid); have HP2 := Lib.hid (HMI.out.B0 hnb.out); have HOn := HO1
                 clear HE1 HO1)
              have HCC := Lib.hid (HMI.out.c HS2.out)
              first
              | (have CC := Lib.hid (ih.out mid e b _ _ (by omega) hc1 hc2 hbn (HS2.out.lt (by omega) (HSA.out.lt hbn HD.out)) (HCC.out.1 hc1 hc2) HR2.out (HS.out.keep HOn.out (by simp; exact fun e => hg.1 e.symm) (by simp; exact fun e => hg.2 e.symm)))
                 clear HR2 HCC
                 go_wp2_with fail
                 (with_reducible refine CC.out.mono ?_); rintro ee w3 ⟨rfl, ⟨E3, hR3, hS3, hO3⟩, hW3⟩
                 have HR3 := Lib.hid hR3; have HS3 := Lib.hid hS3; have HP3 := Lib.hid hO3; have HOm := Lib.hid (HOn.out.trans hW3)
                 clear hR3 hS3 hO3 hW3 HOn)
              | (have HR3 := HR2; have HS3 := Lib.hid ((fun (X : Nat → Nat) (_ : IRow _ g n X) => AlSo.Same.refl X mid b) _ HR2.out); have HP3 := Lib.hid (HCC.out.2 hnc.out); have HOm := HOn
                 clear HR2 HOn HCC)
              try go_wp2_with fail
              go_end0
              exact ⟨rfl, ⟨_, HR3.out, (HMI.out.fin HSA.out (by omega) (by omega) HS2.out HP2.out HS3.out HP3.out).1, (HMI.out.fin HSA.out (by omega) (by omega) HS2.out HP2.out HS3.out HP3.out).2⟩, HOm.out⟩
          · have db1 : decide ((a : Int) < (i : Int)) = false := by simp; omega
            have hnb : Hid (¬ (a < i ∧ i < mid)) := Lib.hid (fun h => hb1 h.1)
            rcases tri mid e b with ⟨hc1, hc2⟩ | ⟨hc1, hc2⟩ | hc1
            · have dc1 : decide ((mid : Int) < (e : Int)) = true := by simp; omega
              have dc2 : decide ((e : Int) < (b : Int)) = true := by simp; omega
              first
              | (have CA := Lib.hid (rotate32 g n i m e D (cmpv bl) hn ha1 ha2 (by omega) _ HE.out)
                 clear HE
                 go_wp2_with fail
                 (with_reducible refine CA.out.mono ?_); rintro ee w1 ⟨rfl, hR1, hW1⟩
                 rw [HE1e.out] at hR1
                 have HE1 := Lib.hid hR1
                 have HO1 := Lib.hid ((HO.out.mono (T := [g]) (by simp)).trans hW1)
                 clear hR1 hW1 HO)
              | (have HE1 := Lib.hid (HE.out.of hskipA.out)
                 have HO1 := Lib.hid (HO.out.mono (T := [g]) (by simp))
                 clear HE HO)
              first
              | (have CB := Lib.hid (ih.out a i mid E1 _ (by omega) hb1 hb2 (by omega) (HSA.out.lt hbn HD.out) (HMI.out.B hb1 hb2) HE1.out (HS.out.keep HO1.out (by simp; exact fun e => hg.1 e.symm) (by simp; exact fun e => hg.2 e.symm)))
                 clear HE1
                 go_wp2_with fail
                 (with_reducible refine CB.out.mono ?_); rintro ee w2 ⟨rfl, ⟨E2, hR2, hS2, hO2⟩, hW2⟩
                 have HR2 := Lib.hid hR2; have HS2 := Lib.hid hS2; have HP2 := Lib.hid hO2; have HOn := Lib.hid (HO1.out.trans hW2)
                 clear hR2 hS2 hO2 hW2 HO1)
              | (have HR2 := HE1; have HS2 := Lib.hid (AlSo.Same.refl E1 a mid); have HP2 := Lib.hid (HMI.out.B0 hnb.out); have HOn := HO1
                 clear HE1 HO1)
              have HCC := Lib.hid (HMI.out.c HS2.out)
              first
              | (have CC := Lib.hid (ih.out mid e b _ _ (by omega) hc1 hc2 hbn (HS2.out.lt (by omega) (HSA.out.lt hbn HD.out)) (HCC.out.1 hc1 hc2) HR2.out (HS.out.keep HOn.out (by simp; exact fun e => hg.1 e.symm) (by simp; exact fun e => hg.2 e.symm)))
                 clear HR2 HCC
                 go_wp2_with fail
                 (with_reducible refine CC.out.mono ?_); rintro ee w3 ⟨rfl, ⟨E3, hR3, hS3, hO3⟩, hW3⟩
                 have HR3 := Lib.hid hR3; have HS3 := Lib.hid hS3; have HP3 := Lib.hid hO3; have HOm := Lib.hid (HOn.out.trans hW3)
                 clear hR3 hS3 hO3 hW3 HOn)
              | (have HR3 := HR2; have HS3 := Lib.hid ((fun (X : Nat → Nat) (_ : IRow _ g n X) => AlSo.Same.refl X mid b) _ HR2.out); have HP3 := Lib.hid (HCC.out.2 hnc.out); have HOm := HOn
                 clear HR2 HOn HCC)
              try go_wp2_with fail
              go_end0
              exact ⟨rfl, ⟨_, HR3.out, (HMI.out.fin HSA.out (by omega) (by omega) HS2.out HP2.out HS3.out HP3.out).1, (HMI.out.fin HSA.out (by omega) (by omega) HS2.out HP2.out HS3.out HP3.out).2⟩, HOm.out⟩
            · have dc1 : decide ((mid : Int) < (e : Int)) = true := by simp; omega
              have dc2 : decide ((e : Int) < (b : Int)) = false := by simp; omega
              have hnc : Hid (¬ (mid < e ∧ e < b)) := Lib.hid (fun h => hc2 h.2)
              first
              | (have CA := Lib.hid (rotate32 g n i m e D (cmpv bl) hn ha1 ha2 (by omega) _ HE.out)
                 clear HE
                 go_wp2_with fail
                 (with_reducible refine CA.out.mono ?_); rintro ee w1 ⟨rfl, hR1, hW1⟩
                 rw [HE1e.out] at hR1
                 have HE1 := Lib.hid hR1
                 have HO1 := Lib.hid ((HO.out.mono (T := [g]) (by simp)).trans hW1)
                 clear hR1 hW1 HO)
              | (have HE1 := Lib.hid (HE.out.of hskipA.out)
                 have HO1 := Lib.hid (HO.out.mono (T := [g]) (by simp))
                 clear HE HO)
              first
              | (have CB := Lib.hid (ih.out a i mid E1 _ (by omega) hb1 hb2 (by omega) (HSA.out.lt hbn HD.out) (HMI.out.B hb1 hb2) HE1.out (HS.out.keep HO1.out (by simp; exact fun e => hg.1 e.symm) (by simp; exact fun e => hg.2 e.symm)))
                 clear HE1
                 go_wp2_with fail
                 (with_reducible refine CB.out.mono ?_); rintro ee w2 ⟨rfl, ⟨E2, hR2, hS2, hO2⟩, hW2⟩
                 have HR2 := Lib.hid hR2; have HS2 := Lib.hid hS2; have HP2 := Lib.hid hO2; have HOn := Lib.hid (HO1.out.trans hW2)
                 clear hR2 hS2 hO2 hW2 HO1)
              | (have HR2 := HE1; have HS2 := Lib.hid (AlSo.Same.refl E1 a mid); have HP2 := Lib.hid (HMI.out.B0 hnb.out); have HOn := HO1
                 clear HE1 HO1)
              have HCC := Lib.hid (HMI.out.c HS2.out)
              first
              | (have CC := Lib.hid (ih.out mid e b _ _ (by omega) hc1 hc2 hbn (HS2.out.lt (by omega) (HSA.out.lt hbn HD.out)) (HCC.out.1 hc1 hc2) HR2.out (HS.out.keep HOn.out (by simp; exact fun e => hg.1 e.symm) (by simp; exact fun e => hg.2 e.symm)))
                 clear HR2 HCC
                 go_wp2_with fail
                 (with_reducible refine CC.out.mono ?_); rintro ee w3 ⟨rfl, ⟨E3, hR3, hS3, hO3⟩, hW3⟩
                 have HR3 := Lib.hid hR3; have HS3 := Lib.hid hS3; have HP3 := Lib.hid hO3; have HOm := Lib.hid (HOn.out.trans hW3)
                 clear hR3 hS3 hO3 hW3 HOn)
              | (have HR3 := HR2; have HS3 := Lib.hid ((fun (X : Nat → Nat) (_ : IRow _ g n X) => AlSo.Same.refl X mid b) _ HR2.out); have HP3 := Lib.hid (HCC.out.2 hnc.out); have HOm := HOn
                 clear HR2 HOn HCC)
              try go_wp2_with fail
              go_end0
              exact ⟨rfl, ⟨_, HR3.out, (HMI.out.fin HSA.out (by omega) (by omega) HS2.out HP2.out HS3.out HP3.out).1, (HMI.out.fin HSA.out (by omega) (by omega) HS2.out HP2.out HS3.out HP3.out).2⟩, HOm.out⟩
            · have dc1 : decide ((mid : Int) < (e : Int)) = false := by simp; omega
              have hnc : Hid (¬ (mid < e ∧ e < b)) := Lib.hid (fun h => hc1 h.1)
              first
              | (have CA := Lib.hid (rotate32 g n i m e D (cmpv bl) hn ha1 ha2 (by omega) _ HE.out)
                 clear HE
                 go_wp2_with fail
                 (with_reducible refine CA.out.mono ?_); rintro ee w1 ⟨rfl, hR1, hW1⟩
                 rw [HE1e.out] at hR1
                 have HE1 := Lib.hid hR1
                 have HO1 := Lib.hid ((HO.out.mono (T := [g]) (by simp)).trans hW1)
                 clear hR1 hW1 HO)
              | (have HE1 := Lib.hid (HE.out.of hskipA.out)
                 have HO1 := Lib.hid (HO.out.mono (T := [g]) (by simp))
                 clear HE HO)
              first
              | (have CB := Lib.hid (ih.out a i mid E1 _ (by omega) hb1 hb2 (by omega) (HSA.out.lt hbn HD.out) (HMI.out.B hb1 hb2) HE1.out (HS.out.keep HO1.out (by simp; exact fun e => hg.1 e.symm) (by simp; exact fun e => hg.2 e.symm)))
                 clear HE1
                 go_wp2_with fail
                 (with_reducible refine CB.out.mono ?_); rintro ee w2 ⟨rfl, ⟨E2, hR2, hS2, hO2⟩, hW2⟩
                 have HR2 := Lib.hid hR2; have HS2 := Lib.hid hS2; have HP2 := Lib.hid hO2; have HOn := Lib.hid (HO1.out.trans hW2)
                 clear hR2 hS2 hO2 hW2 HO1)
              | (have HR2 := HE1; have HS2 := Lib.hid (AlSo.Same.refl E1 a mid); have HP2 := Lib.hid (HMI.out.B0 hnb.out); have HOn := HO1
                 clear HE1 HO1)
              have HCC := Lib.hid (HMI.out.c HS2.out)
              first
              | (have CC := Lib.hid (ih.out mid e b _ _ (by omega) hc1 hc2 hbn (HS2.out.lt (by omega) (HSA.out.lt hbn HD.out)) (HCC.out.1 hc1 hc2) HR2.out (HS.out.keep HOn.out (by simp; exact fun e => hg.1 e.symm) (by simp; exact fun e => hg.2 e.symm)))
                 clear HR2 HCC
                 go_wp2_with fail
                 (with_reducible refine CC.out.mono ?_); rintro ee w3 ⟨rfl, ⟨E3, hR3, hS3, hO3⟩, hW3⟩
                 have HR3 := Lib.hid hR3; have HS3 := Lib.hid hS3; have HP3 := Lib.hid hO3; have HOm := Lib.hid (HOn.out.trans hW3)
                 clear hR3 hS3 hO3 hW3 HOn)
              | (have HR3 := HR2; have HS3 := Lib.hid ((fun (X : Nat → Nat) (_ : IRow _ g n X) => AlSo.Same.refl X mid b) _ HR2.out); have HP3 := Lib.hid (HCC.out.2 hnc.out); have HOm := HOn
                 clear HR2 HOn HCC)
              try go_wp2_with fail
              go_end0
              exact ⟨rfl, ⟨_, HR3.out, (HMI.out.fin HSA.out (by omega) (by omega) HS2.out HP2.out HS3.out HP3.out).1, (HMI.out.fin HSA.out (by omega) (by omega) HS2.out HP2.out HS3.out HP3.out).2⟩, HOm.out⟩
  case false =>
    have hs := Lib.hid (hf rfl).1
    have hgt2 : ¬ mid < m := by simpa using hgt
    have hr := Lib.hid (hf rfl).2
    clear ht hf hl hl2 hq hnn hp hmid
    go_enter Try.func31, Try.ntmps31
    go_wp2_with fail
    go_loopw [20, 21] (fun u v wq => ∃ i j : Nat, s0 ≤ i ∧ i ≤ j ∧ j ≤ r0 ∧ u = .int .i64 (i : Int) ∧ v = .int .i64 (j : Int) ∧ Hid (IRow wq g n D ∧ (∀ c, s0 ≤ c → c < i → s.F (D c) ≤ s.F (D (mid + m - 1 - c))) ∧ (∀ c, j ≤ c → c < r0 → s.F (D (mid + m - 1 - c)) < s.F (D c)) ∧ Only [] w wq)) (fun u v _ => (intOf v).toNat - (intOf u).toNat)
    case atStart => exact ⟨s0, r0, Nat.le_refl _, HWI.out.s0r, Nat.le_refl _, (by first | rfl | (rw [hs.out]) | go_num), (by first | rfl | (rw [hr.out]) | go_num), Lib.hid ⟨H.out, fun c h1 h2 => by omega, fun c h1 h2 => by omega, Only.refl _ _⟩⟩
    case round =>
      obtain ⟨i, j, hmi, hij, hjb, rfl, rfl, hM⟩ := hrel
      obtain ⟨hE, hlo, hhi, ho⟩ := hM.out
      have HE := Lib.hid hE; have HL := Lib.hid hlo; have HH := Lib.hid hhi; have HO := Lib.hid ho
      clear hE hlo hhi ho hM
      have k1 := HWI.out.s0a; have k2 := HWI.out.r0m; have k3 := HWI.out.up; have k4 := HWI.out.dn; have k5 := HWI.out.r0d
      by_cases hlt : i < j
      · have hkd : decide ((i : Int) < (j : Int)) = true := by simp; omega
        obtain ⟨k, hk⟩ : ∃ k, (i + j) / 2 = k := ⟨_, rfl⟩
        obtain ⟨q, hq⟩ : ∃ q, i + j = q := ⟨_, rfl⟩
        obtain ⟨x, hx⟩ : ∃ x, mid + m - 1 - k = x := ⟨_, rfl⟩
        have e2 : IntKind.i64.wrap ((i : Int) + (j : Int)) = (q : Int) := by rw [IntKind.wrap_i64]; omega
        have e3 : IntKind.u64.wrap (q : Int) = (q : Int) := by rw [IntKind.wrap_u64]; omega
        have e4 : IntKind.i64.wrap ((q : Int) / 2) = (k : Int) := by rw [IntKind.wrap_i64]; omega
        have e6 : IntKind.i64.wrap ((p : Int) - (k : Int)) = (x : Int) := by rw [IntKind.wrap_i64]; omega
        have c1 := HE.out.cell (i := x) (by omega)
        have c2 := HE.out.cell (i := k) (by omega)
        have b1 : (x : Int) < (n : Int) := by omega
        have b2 : (k : Int) < (n : Int) := by omega
        have hsp := HS.out.keep HO.out (by simp) (by simp)
        have C := fun y : Nat => cmp16 bl bs off N cap s (D x) (D k) (HD.out _ (by omega)) (HD.out _ (by omega)) (wr.drewN y) (hsp.drewN y)
        have e5 : IntKind.i64.wrap ((k : Int) + 1) = ((k + 1 : Nat) : Int) := by rw [IntKind.wrap_i64]; omega
        have hX := Lib.hid hx
        by_cases hc : s.F (D x) < s.F (D k)
        · have hv : cmpI (s.F (D x)) (s.F (D k)) = -1 := if_pos hc
          simp only [hv] at C
          have HC := Lib.hid C; clear C hsp hv hx
          go_wp2_with fail
          go_quiet ((go_at_call 16; refine Calls.quiet_of (HC.out _)))
          go_wp2_with fail
          refine ⟨⟨i, k, hmi, by omega, by omega, rfl, rfl, Lib.hid ⟨HE.out.drewN _, HL.out, fun c h1 h2 => ?_, HO.out.trans (only_drewN _ _ _)⟩⟩, by simp [intOf]; omega⟩
          have := HM.out.mono HWI.out (show s0 ≤ k by omega) h1 h2
          rw [hX.out] at this
          omega
        · obtain ⟨v, hv, hv2⟩ : ∃ v, cmpI (s.F (D x)) (s.F (D k)) = v ∧ decide (v < 0) = false := by
            refine ⟨_, rfl, ?_⟩
            unfold cmpI
            rw [if_neg hc]
            split <;> rfl
          simp only [hv] at C
          have HC := Lib.hid C; clear C hsp hv hx
          go_wp2_with fail
          go_quiet ((go_at_call 16; refine Calls.quiet_of (HC.out _)))
          go_wp2_with fail
          refine ⟨⟨k + 1, j, by omega, by omega, hjb, by go_num, rfl, Lib.hid ⟨HE.out.drewN _, fun c h1 h2 => ?_, HH.out, HO.out.trans (only_drewN _ _ _)⟩⟩, by simp [intOf]; omega⟩
          have := HM.out.mono HWI.out h1 (show c ≤ k by omega) (by omega)
          rw [hX.out] at this
          omega
      · have hkd : decide ((i : Int) < (j : Int)) = false := by simp; omega
        obtain rfl : i = j := by omega
        obtain ⟨e, he⟩ : ∃ e, mid + m - i = e := ⟨_, rfl⟩
        have e2 : IntKind.i64.wrap ((nn : Int) - (i : Int)) = (e : Int) := by rw [IntKind.wrap_i64]; omega
        have hmids := HM.out.mids HWI.out hmi hjb HL.out HH.out
        have k6 := HWI.out.am; have k7 := HWI.out.mb; have k8 := HWI.out.mid1; have k9 := HWI.out.mid2
        rw [he] at hmids
        have he2 : e ≤ b := by omega
        have he3 : mid ≤ e := by omega
        have he4 : m ≤ e := by omega
        clear he
        obtain ⟨E1, hE1⟩ : ∃ E1, AlSo.rot D i m e = E1 := ⟨_, rfl⟩
        rw [hE1] at hmids
        have HMI := Lib.hid hmids.1; have HSA := Lib.hid hmids.2
        have HE1e := Lib.hid hE1
        clear hmids hE1 HL HH
        rcases tri i m e with ⟨ha1, ha2⟩ | ⟨ha1, ha2⟩ | ha1
        · have da1 : decide ((i : Int) < (m : Int)) = true := by simp; omega
          have da2 : decide ((m : Int) < (e : Int)) = true := by simp; omega
          rcases tri a i mid with ⟨hb1, hb2⟩ | ⟨hb1, hb2⟩ | hb1
          · have db1 : decide ((a : Int) < (i : Int)) = true := by simp; omega
            have db2 : decide ((i : Int) < (mid : Int)) = true := by simp; omega
            rcases tri mid e b with ⟨hc1, hc2⟩ | ⟨hc1, hc2⟩ | hc1
            · have dc1 : decide ((mid : Int) < (e : Int)) = true := by simp; omega
              have dc2 : decide ((e : Int) < (b : Int)) = true := by simp; omega
              first
              | (have CA := Lib.hid (rotate32 g n i m e D (cmpv bl) hn ha1 ha2 (by omega) _ HE.out)
                 clear HE
                 go_wp2_with fail
                 (with_reducible refine CA.out.mono ?_); rintro ee w1 ⟨rfl, hR1, hW1⟩
                 rw [HE1e.out] at hR1
                 have HE1 := Lib.hid hR1
                 have HO1 := Lib.hid ((HO.out.mono (T := [g]) (by simp)).trans hW1)
                 clear hR1 hW1 HO)
              | (have HE1 := Lib.hid (HE.out.of hskipA.out)
                 have HO1 := Lib.hid (HO.out.mono (T := [g]) (by simp))
                 clear HE HO)
              first
              | (have CB := Lib.hid (ih.out a i mid E1 _ (by omega) hb1 hb2 (by omega) (HSA.out.lt hbn HD.out) (HMI.out.B hb1 hb2) HE1.out (HS.out.keep HO1.out (by simp; exact fun e => hg.1 e.symm) (by simp; exact fun e => hg.2 e.symm)))
                 clear HE1
                 go_wp2_with fail
                 (with_reducible refine CB.out.mono ?_); rintro ee w2 ⟨rfl, ⟨E2, hR2, hS2, hO2⟩, hW2⟩
                 have HR2 := Lib.hid hR2; have HS2 := Lib.hid hS2; have HP2 := Lib.hid hO2; have HOn := Lib.hid (HO1.out.trans hW2)
                 clear hR2 hS2 hO2 hW2 HO1)
              | (have HR2 := HE1; have HS2 := Lib.hid (AlSo.Same.refl E1 a mid); have HP2 := Lib.hid (HMI.out.B0 hnb.out); have HOn := HO1
                 clear HE1 HO1)
              have HCC := Lib.hid (HMI.out.c HS2.out)
              first
              | (have CC := Lib.hid (ih.out mid e b _ _ (by omega) hc1 hc2 hbn (HS2.out.lt (by omega) (HSA.out.lt hbn HD.out)) (HCC.out.1 hc1 hc2) HR2.out (HS.out.keep HOn.out (by simp; exact fun e => hg.1 e.symm) (by simp; exact fun e => hg.2 e.symm)))
                 clear HR2 HCC
                 go_wp2_with fail
                 (with_reducible refine CC.out.mono ?_); rintro ee w3 ⟨rfl, ⟨E3, hR3, hS3, hO3⟩, hW3⟩
                 have HR3 := Lib.hid hR3; have HS3 := Lib.hid hS3; have HP3 := Lib.hid hO3; have HOm := Lib.hid (HOn.out.trans hW3)
                 clear hR3 hS3 hO3 hW3 HOn)
              | (have HR3 := HR2; have HS3 := Lib.hid ((fun (X : Nat → Nat) (_ : IRow _ g n X) => AlSo.Same.refl X mid b) _ HR2.out); have HP3 := Lib.hid (HCC.out.2 hnc.out); have HOm := HOn
                 clear HR2 HOn HCC)
              try go_wp2_with fail
              go_end0
              exact ⟨rfl, ⟨_, HR3.out, (HMI.out.fin HSA.out (by omega) (by omega) HS2.out HP2.out HS3.out HP3.out).1, (HMI.out.fin HSA.out (by omega) (by omega) HS2.out HP2.out HS3.out HP3.out).2⟩, HOm.out⟩
            · have dc1 : decide ((mid : Int) < (e : Int)) = true := by simp; omega
              have dc2 : decide ((e : Int) < (b : Int)) = false := by simp; omega
              have hnc : Hid (¬ (mid < e ∧ e < b)) := Lib.hid (fun h => hc2 h.2)
              first
              | (have CA := Lib.hid (rotate32 g n i m e D (cmpv bl) hn ha1 ha2 (by omega) _ HE.out)
                 clear HE
                 go_wp2_with fail
                 (with_reducible refine CA.out.mono ?_); rintro ee w1 ⟨rfl, hR1, hW1⟩
                 rw [HE1e.out] at hR1
                 have HE1 := Lib.hid hR1
                 have HO1 := Lib.hid ((HO.out.mono (T := [g]) (by simp)).trans hW1)
                 clear hR1 hW1 HO)
              | (have HE1 := Lib.hid (HE.out.of hskipA.out)
                 have HO1 := Lib.hid (HO.out.mono (T := [g]) (by simp))
                 clear HE HO)
              first
              | (have CB := Lib.hid (ih.out a i mid E1 _ (by omega) hb1 hb2 (by omega) (HSA.out.lt hbn HD.out) (HMI.out.B hb1 hb2) HE1.out (HS.out.keep HO1.out (by simp; exact fun e => hg.1 e.symm) (by simp; exact fun e => hg.2 e.symm)))
                 clear HE1
                 go_wp2_with fail
                 (with_reducible refine CB.out.mono ?_); rintro ee w2 ⟨rfl, ⟨E2, hR2, hS2, hO2⟩, hW2⟩
                 have HR2 := Lib.hid hR2; have HS2 := Lib.hid hS2; have HP2 := Lib.hid hO2; have HOn := Lib.hid (HO1.out.trans hW2)
                 clear hR2 hS2 hO2 hW2 HO1)
              | (have HR2 := HE1; have HS2 := Lib.hid (AlSo.Same.refl E1 a mid); have HP2 := Lib.hid (HMI.out.B0 hnb.out); have HOn := HO1
                 clear HE1 HO1)
              have HCC := Lib.hid (HMI.out.c HS2.out)
              first
              | (have CC := Lib.hid (ih.out mid e b _ _ (by omega) hc1 hc2 hbn (HS2.out.lt (by omega) (HSA.out.lt hbn HD.out)) (HCC.out.1 hc1 hc2) HR2.out (HS.out.keep HOn.out (by simp; exact fun e => hg.1 e.symm) (by simp; exact fun e => hg.2 e.symm)))
                 clear HR2 HCC
                 go_wp2_with fail
                 (with_reducible refine CC.out.mono ?_); rintro ee w3 ⟨rfl, ⟨E3, hR3, hS3, hO3⟩, hW3⟩
                 have HR3 := Lib.hid hR3; have HS3 := Lib.hid hS3; have HP3 := Lib.hid hO3; have HOm := Lib.hid (HOn.out.trans hW3)
                 clear hR3 hS3 hO3 hW3 HOn)
              | (have HR3 := HR2; have HS3 := Lib.hid ((fun (X : Nat → Nat) (_ : IRow _ g n X) => AlSo.Same.refl X mid b) _ HR2.out); have HP3 := Lib.hid (HCC.out.2 hnc.out); have HOm := HOn
                 clear HR2 HOn HCC)
              try go_wp2_with fail
              go_end0
              exact ⟨rfl, ⟨_, HR3.out, (HMI.out.fin HSA.out (by omega) (by omega) HS2.out HP2.out HS3.out HP3.out).1, (HMI.out.fin HSA.out (by omega) (by omega) HS2.out HP2.out HS3.out HP3.out).2⟩, HOm.out⟩
            · have dc1 : decide ((mid : Int) < (e : Int)) = false := by simp; omega
              have hnc : Hid (¬ (mid < e ∧ e < b)) := Lib.hid (fun h => hc1 h.1)
              first
              | (have CA := Lib.hid (rotate32 g n i m e D (cmpv bl) hn ha1 ha2 (by omega) _ HE.out)
                 clear HE
                 go_wp2_with fail
                 (with_reducible refine CA.out.mono ?_); rintro ee w1 ⟨rfl, hR1, hW1⟩
                 rw [HE1e.out] at hR1
                 have HE1 := Lib.hid hR1
                 have HO1 := Lib.hid ((HO.out.mono (T := [g]) (by simp)).trans hW1)
                 clear hR1 hW1 HO)
              | (have HE1 := Lib.hid (HE.out.of hskipA.out)
                 have HO1 := Lib.hid (HO.out.mono (T := [g]) (by simp))
                 clear HE HO)
              first
              | (have CB := Lib.hid (ih.out a i mid E1 _ (by omega) hb1 hb2 (by omega) (HSA.out.lt hbn HD.out) (HMI.out.B hb1 hb2) HE1.out (HS.out.keep HO1.out (by simp; exact fun e => hg.1 e.symm) (by simp; exact fun e => hg.2 e.symm)))
                 clear HE1
                 go_wp2_with fail
                 (with_reducible refine CB.out.mono ?_); rintro ee w2 ⟨rfl, ⟨E2, hR2, hS2, hO2⟩, hW2⟩
                 have HR2 := Lib.hid hR2; have HS2 := Lib.hid hS2; have HP2 := Lib.hid hO2; have HOn := Lib.hid (HO1.out.trans hW2)
                 clear hR2 hS2 hO2 hW2 HO1)
              | (have HR2 := HE1; have HS2 := Lib.hid (AlSo.Same.refl E1 a mid); have HP2 := Lib.hid (HMI.out.B0 hnb.out); have HOn := HO1
                 clear HE1 HO1)
              have HCC := Lib.hid (HMI.out.c HS2.out)
              first
              | (have CC := Lib.hid (ih.out mid e b _ _ (by omega) hc1 hc2 hbn (HS2.out.lt (by omega) (HSA.out.lt hbn HD.out)) (HCC.out.1 hc1 hc2) HR2.out (HS.out.keep HOn.out (by simp; exact fun e => hg.1 e.symm) (by simp; exact fun e => hg.2 e.symm)))
                 clear HR2 HCC
                 go_wp2_with fail
                 (with_reducible refine CC.out.mono ?_); rintro ee w3 ⟨rfl, ⟨E3, hR3, hS3, hO3⟩, hW3⟩
                 have HR3 := Lib.hid hR3; have HS3 := Lib.hid hS3; have HP3 := Lib.hid hO3; have HOm := Lib.hid (HOn.out.trans hW3)
                 clear hR3 hS3 hO3 hW3 HOn)
              | (have HR3 := HR2; have HS3 := Lib.hid ((fun (X : Nat → Nat) (_ : IRow _ g n X) => AlSo.Same.refl X mid b) _ HR2.out); have HP3 := Lib.hid (HCC.out.2 hnc.out); have HOm := HOn
                 clear HR2 HOn HCC)
              try go_wp2_with fail
              go_end0
              exact ⟨rfl, ⟨_, HR3.out, (HMI.out.fin HSA.out (by omega) (by omega) HS2.out HP2.out HS3.out HP3.out).1, (HMI.out.fin HSA.out (by omega) (by omega) HS2.out HP2.out HS3.out HP3.out).2⟩, HOm.out⟩
          · have db1 : decide ((a : Int) < (i : Int)) = true := by simp; omega
            have db2 : decide ((i : Int) < (mid : Int)) = false := by simp; omega
            have hnb : Hid (¬ (a < i ∧ i < mid)) := Lib.hid (fun h => hb2 h.2)
            rcases tri mid e b with ⟨hc1, hc2⟩ | ⟨hc1, hc2⟩ | hc1
            · have dc1 : decide ((mid : Int) < (e : Int)) = true := by simp; omega
              have dc2 : decide ((e : Int) < (b : Int)) = true := by simp; omega
              first
              | (have CA := Lib.hid (rotate32 g n i m e D (cmpv bl) hn ha1 ha2 (by omega) _ HE.out)
                 clear HE
                 go_wp2_with fail
                 (with_reducible refine CA.out.mono ?_); rintro ee w1 ⟨rfl, hR1, hW1⟩
                 rw [HE1e.out] at hR1
                 have HE1 := Lib.hid hR1
                 have HO1 := Lib.hid ((HO.out.mono (T := [g]) (by simp)).trans hW1)
                 clear hR1 hW1 HO)
              | (have HE1 := Lib.hid (HE.out.of hskipA.out)
                 have HO1 := Lib.hid (HO.out.mono (T := [g]) (by simp))
                 clear HE HO)
              first
              | (have CB := Lib.hid (ih.out a i mid E1 _ (by omega) hb1 hb2 (by omega) (HSA.out.lt hbn HD.out) (HMI.out.B hb1 hb2) HE1.out (HS.out.keep HO1.out (by simp; exact fun e => hg.1 e.symm) (by simp; exact fun e => hg.2 e.symm)))
                 clear HE1
                 go_wp2_with fail
                 (with_reducible refine CB.out.mono ?_); rintro ee w2 ⟨rfl, ⟨E2, hR2, hS2, hO2⟩, hW2⟩
                 have HR2 := Lib.hid hR2; have HS2 := Lib.hid hS2; have HP2 := Lib.hid hO2; have HOn := Lib.hid (HO1.out.trans hW2)
                 clear hR2 hS2 hO2 hW2 HO1)
              | (have HR2 := HE1; have HS2 := Lib.hid (AlSo.Same.refl E1 a mid); have HP2 := Lib.hid (HMI.out.B0 hnb.out); have HOn := HO1
                 clear HE1 HO1)
              have HCC := Lib.hid (HMI.out.c HS2.out)
              first
              | (have CC := Lib.hid (ih.out mid e b _ _ (by omega) hc1 hc2 hbn (HS2.out.lt (by omega) (HSA.out.lt hbn HD.out)) (HCC.out.1 hc1 hc2) HR2.out (HS.out.keep HOn.out (by simp; exact fun e => hg.1 e.symm) (by simp; exact fun e => hg.2 e.symm)))
                 clear HR2 HCC
                 go_wp2_with fail
                 (with_reducible refine CC.out.mono ?_); rintro ee w3 ⟨rfl, ⟨E3, hR3, hS3, hO3⟩, hW3⟩
                 have HR3 := Lib.hid hR3; have HS3 := Lib.hid hS3; have HP3 := Lib.hid hO3; have HOm := Lib.hid (HOn.out.trans hW3)
                 clear hR3 hS3 hO3 hW3 HOn)
              | (have HR3 := HR2; have HS3 := Lib.hid ((fun (X : Nat → Nat) (_ : IRow _ g n X) => AlSo.Same.refl X mid b) _ HR2.out); have HP3 := Lib.hid (HCC.out.2 hnc.out); have HOm := HOn
                 clear HR2 HOn HCC)
              try go_wp2_with fail
              go_end0
              exact ⟨rfl, ⟨_, HR3.out, (HMI.out.fin HSA.out (by omega) (by omega) HS2.out HP2.out HS3.out HP3.out).1, (HMI.out.fin HSA.out (by omega) (by omega) HS2.out HP2.out HS3.out HP3.out).2⟩, HOm.out⟩
            · have dc1 : decide ((mid : Int) < (e : Int)) = true := by simp; omega
              have dc2 : decide ((e : Int) < (b : Int)) = false := by simp; omega
              have hnc : Hid (¬ (mid < e ∧ e < b)) := Lib.hid (fun h => hc2 h.2)
              first
              | (have CA := Lib.hid (rotate32 g n i m e D (cmpv bl) hn ha1 ha2 (by omega) _ HE.out)
                 clear HE
                 go_wp2_with fail
                 (with_reducible refine CA.out.mono ?_); rintro ee w1 ⟨rfl, hR1, hW1⟩
                 rw [HE1e.out] at hR1
                 have HE1 := Lib.hid hR1
                 have HO1 := Lib.hid ((HO.out.mono (T := [g]) (by simp)).trans hW1)
                 clear hR1 hW1 HO)
              | (have HE1 := Lib.hid (HE.out.of hskipA.out)
                 have HO1 := Lib.hid (HO.out.mono (T := [g]) (by simp))
                 clear HE HO)
              first
              | (have CB := Lib.hid (ih.out a i mid E1 _ (by omega) hb1 hb2 (by omega) (HSA.out.lt hbn HD.out) (HMI.out.B hb1 hb2) HE1.out (HS.out.keep HO1.out (by simp; exact fun e => hg.1 e.symm) (by simp; exact fun e => hg.2 e.symm)))
                 clear HE1
                 go_wp2_with fail
                 (with_reducible refine CB.out.mono ?_); rintro ee w2 ⟨rfl, ⟨E2, hR2, hS2, hO2⟩, hW2⟩
                 have HR2 := Lib.hid hR2; have HS2 := Lib.hid hS2; have HP2 := Lib.hid hO2; have HOn := Lib.hid (HO1.out.trans hW2)
                 clear hR2 hS2 hO2 hW2 HO1)
              | (have HR2 := HE1; have HS2 := Lib.hid (AlSo.Same.refl E1 a mid); have HP2 := Lib.hid (HMI.out.B0 hnb.out); have HOn := HO1
                 clear HE1 HO1)
              have HCC := Lib.hid (HMI.out.c HS2.out)
              first
              | (have CC := Lib.hid (ih.out mid e b _ _ (by omega) hc1 hc2 hbn (HS2.out.lt (by omega) (HSA.out.lt hbn HD.out)) (HCC.out.1 hc1 hc2) HR2.out (HS.out.keep HOn.out (by simp; exact fun e => hg.1 e.symm) (by simp; exact fun e => hg.2 e.symm)))
                 clear HR2 HCC
                 go_wp2_with fail
                 (with_reducible refine CC.out.mono ?_); rintro ee w3 ⟨rfl, ⟨E3, hR3, hS3, hO3⟩, hW3⟩
                 have HR3 := Lib.hid hR3; have HS3 := Lib.hid hS3; have HP3 := Lib.hid hO3; have HOm := Lib.hid (HOn.out.trans hW3)
                 clear hR3 hS3 hO3 hW3 HOn)
              | (have HR3 := HR2; have HS3 := Lib.hid ((fun (X : Nat → Nat) (_ : IRow _ g n X) => AlSo.Same.refl X mid b) _ HR2.out); have HP3 := Lib.hid (HCC.out.2 hnc.out); have HOm := HOn
                 clear HR2 HOn HCC)
              try go_wp2_with fail
              go_end0
              exact ⟨rfl, ⟨_, HR3.out, (HMI.out.fin HSA.out (by omega) (by omega) HS2.out HP2.out HS3.out HP3.out).1, (HMI.out.fin HSA.out (by omega) (by omega) HS2.out HP2.out HS3.out HP3.out).2⟩, HOm.out⟩
            · have dc1 : decide ((mid : Int) < (e : Int)) = false := by simp; omega
              have hnc : Hid (¬ (mid < e ∧ e < b)) := Lib.hid (fun h => hc1 h.1)
              first
              | (have CA := Lib.hid (rotate32 g n i m e D (cmpv bl) hn ha1 ha2 (by omega) _ HE.out)
                 clear HE
                 go_wp2_with fail
                 (with_reducible refine CA.out.mono ?_); rintro ee w1 ⟨rfl, hR1, hW1⟩
                 rw [HE1e.out] at hR1
                 have HE1 := Lib.hid hR1
                 have HO1 := Lib.hid ((HO.out.mono (T := [g]) (by simp)).trans hW1)
                 clear hR1 hW1 HO)
              | (have HE1 := Lib.hid (HE.out.of hskipA.out)
                 have HO1 := Lib.hid (HO.out.mono (T := [g]) (by simp))
                 clear HE HO)
              first
              | (have CB := Lib.hid (ih.out a i mid E1 _ (by omega) hb1 hb2 (by omega) (HSA.out.lt hbn HD.out) (HMI.out.B hb1 hb2) HE1.out (HS.out.keep HO1.out (by simp; exact fun e => hg.1 e.symm) (by simp; exact fun e => hg.2 e.symm)))
                 clear HE1
                 go_wp2_with fail
                 (with_reducible refine CB.out.mono ?_); rintro ee w2 ⟨rfl, ⟨E2, hR2, hS2, hO2⟩, hW2⟩
                 have HR2 := Lib.hid hR2; have HS2 := Lib.hid hS2; have HP2 := Lib.hid hO2; have HOn := Lib.hid (HO1.out.trans hW2)
                 clear hR2 hS2 hO2 hW2 HO1)
              | (have HR2 := HE1; have HS2 := Lib.hid (AlSo.Same.refl E1 a mid); have HP2 := Lib.hid (HMI.out.B0 hnb.out); have HOn := HO1
                 clear HE1 HO1)
              have HCC := Lib.hid (HMI.out.c HS2.out)
              first
              | (have CC := Lib.hid (ih.out mid e b _ _ (by omega) hc1 hc2 hbn (HS2.out.lt (by omega) (HSA.out.lt hbn HD.out)) (HCC.out.1 hc1 hc2) HR2.out (HS.out.keep HOn.out (by simp; exact fun e => hg.1 e.symm) (by simp; exact fun e => hg.2 e.symm)))
                 clear HR2 HCC
                 go_wp2_with fail
                 (with_reducible refine CC.out.mono ?_); rintro ee w3 ⟨rfl, ⟨E3, hR3, hS3, hO3⟩, hW3⟩
                 have HR3 := Lib.hid hR3; have HS3 := Lib.hid hS3; have HP3 := Lib.hid hO3; have HOm := Lib.hid (HOn.out.trans hW3)
                 clear hR3 hS3 hO3 hW3 HOn)
              | (have HR3 := HR2; have HS3 := Lib.hid ((fun (X : Nat → Nat) (_ : IRow _ g n X) => AlSo.Same.refl X mid b) _ HR2.out); have HP3 := Lib.hid (HCC.out.2 hnc.out); have HOm := HOn
                 clear HR2 HOn HCC)
              try go_wp2_with fail
              go_end0
              exact ⟨rfl, ⟨_, HR3.out, (HMI.out.fin HSA.out (by omega) (by omega) HS2.out HP2.out HS3.out HP3.out).1, (HMI.out.fin HSA.out (by omega) (by omega) HS2.out HP2.out HS3.out HP3.out).2⟩, HOm.out⟩
          · have db1 : decide ((a : Int) < (i : Int)) = false := by simp; omega
            have hnb : Hid (¬ (a < i ∧ i < mid)) := Lib.hid (fun h => hb1 h.1)
            rcases tri mid e b with ⟨hc1, hc2⟩ | ⟨hc1, hc2⟩ | hc1
            · have dc1 : decide ((mid : Int) < (e : Int)) = true := by simp; omega
              have dc2 : decide ((e : Int) < (b : Int)) = true := by simp; omega
              first
              | (have CA := Lib.hid (rotate32 g n i m e D (cmpv bl) hn ha1 ha2 (by omega) _ HE.out)
                 clear HE
                 go_wp2_with fail
                 (with_reducible refine CA.out.mono ?_); rintro ee w1 ⟨rfl, hR1, hW1⟩
                 rw [HE1e.out] at hR1
                 have HE1 := Lib.hid hR1
                 have HO1 := Lib.hid ((HO.out.mono (T := [g]) (by simp)).trans hW1)
                 clear hR1 hW1 HO)
              | (have HE1 := Lib.hid (HE.out.of hskipA.out)
                 have HO1 := Lib.hid (HO.out.mono (T := [g]) (by simp))
                 clear HE HO)
              first
              | (have CB := Lib.hid (ih.out a i mid E1 _ (by omega) hb1 hb2 (by omega) (HSA.out.lt hbn HD.out) (HMI.out.B hb1 hb2) HE1.out (HS.out.keep HO1.out (by simp; exact fun e => hg.1 e.symm) (by simp; exact fun e => hg.2 e.symm)))
                 clear HE1
                 go_wp2_with fail
                 (with_reducible refine CB.out.mono ?_); rintro ee w2 ⟨rfl, ⟨E2, hR2, hS2, hO2⟩, hW2⟩
                 have HR2 := Lib.hid hR2; have HS2 := Lib.hid hS2; have HP2 := Lib.hid hO2; have HOn := Lib.hid (HO1.out.trans hW2)
                 clear hR2 hS2 hO2 hW2 HO1)
              | (have HR2 := HE1; have HS2 := Lib.hid (AlSo.Same.refl E1 a mid); have HP2 := Lib.hid (HMI.out.B0 hnb.out); have HOn := HO1
                 clear HE1 HO1)
              have HCC := Lib.hid (HMI.out.c HS2.out)
              first
              | (have CC := Lib.hid (ih.out mid e b _ _ (by omega) hc1 hc2 hbn (HS2.out.lt (by omega) (HSA.out.lt hbn HD.out)) (HCC.out.1 hc1 hc2) HR2.out (HS.out.keep HOn.out (by simp; exact fun e => hg.1 e.symm) (by simp; exact fun e => hg.2 e.symm)))
                 clear HR2 HCC
                 go_wp2_with fail
                 (with_reducible refine CC.out.mono ?_); rintro ee w3 ⟨rfl, ⟨E3, hR3, hS3, hO3⟩, hW3⟩
                 have HR3 := Lib.hid hR3; have HS3 := Lib.hid hS3; have HP3 := Lib.hid hO3; have HOm := Lib.hid (HOn.out.trans hW3)
                 clear hR3 hS3 hO3 hW3 HOn)
              | (have HR3 := HR2; have HS3 := Lib.hid ((fun (X : Nat → Nat) (_ : IRow _ g n X) => AlSo.Same.refl X mid b) _ HR2.out); have HP3 := Lib.hid (HCC.out.2 hnc.out); have HOm := HOn
                 clear HR2 HOn HCC)
              try go_wp2_with fail
              go_end0
              exact ⟨rfl, ⟨_, HR3.out, (HMI.out.fin HSA.out (by omega) (by omega) HS2.out HP2.out HS3.out HP3.out).1, (HMI.out.fin HSA.out (by omega) (by omega) HS2.out HP2.out HS3.out HP3.out).2⟩, HOm.out⟩
            · have dc1 : decide ((mid : Int) < (e : Int)) = true := by simp; omega
              have dc2 : decide ((e : Int) < (b : Int)) = false := by simp; omega
              have hnc : Hid (¬ (mid < e ∧ e < b)) := Lib.hid (fun h => hc2 h.2)
              first
              | (have CA := Lib.hid (rotate32 g n i m e D (cmpv bl) hn ha1 ha2 (by omega) _ HE.out)
                 clear HE
                 go_wp2_with fail
                 (with_reducible refine CA.out.mono ?_); rintro ee w1 ⟨rfl, hR1, hW1⟩
                 rw [HE1e.out] at hR1
                 have HE1 := Lib.hid hR1
                 have HO1 := Lib.hid ((HO.out.mono (T := [g]) (by simp)).trans hW1)
                 clear hR1 hW1 HO)
              | (have HE1 := Lib.hid (HE.out.of hskipA.out)
                 have HO1 := Lib.hid (HO.out.mono (T := [g]) (by simp))
                 clear HE HO)
              first
              | (have CB := Lib.hid (ih.out a i mid E1 _ (by omega) hb1 hb2 (by omega) (HSA.out.lt hbn HD.out) (HMI.out.B hb1 hb2) HE1.out (HS.out.keep HO1.out (by simp; exact fun e => hg.1 e.symm) (by simp; exact fun e => hg.2 e.symm)))
                 clear HE1
                 go_wp2_with fail
                 (with_reducible refine CB.out.mono ?_); rintro ee w2 ⟨rfl, ⟨E2, hR2, hS2, hO2⟩, hW2⟩
                 have HR2 := Lib.hid hR2; have HS2 := Lib.hid hS2; have HP2 := Lib.hid hO2; have HOn := Lib.hid (HO1.out.trans hW2)
                 clear hR2 hS2 hO2 hW2 HO1)
              | (have HR2 := HE1; have HS2 := Lib.hid (AlSo.Same.refl E1 a mid); have HP2 := Lib.hid (HMI.out.B0 hnb.out); have HOn := HO1
                 clear HE1 HO1)
              have HCC := Lib.hid (HMI.out.c HS2.out)
              first
              | (have CC := Lib.hid (ih.out mid e b _ _ (by omega) hc1 hc2 hbn (HS2.out.lt (by omega) (HSA.out.lt hbn HD.out)) (HCC.out.1 hc1 hc2) HR2.out (HS.out.keep HOn.out (by simp; exact fun e => hg.1 e.symm) (by simp; exact fun e => hg.2 e.symm)))
                 clear HR2 HCC
                 go_wp2_with fail
                 (with_reducible refine CC.out.mono ?_); rintro ee w3 ⟨rfl, ⟨E3, hR3, hS3, hO3⟩, hW3⟩
                 have HR3 := Lib.hid hR3; have HS3 := Lib.hid hS3; have HP3 := Lib.hid hO3; have HOm := Lib.hid (HOn.out.trans hW3)
                 clear hR3 hS3 hO3 hW3 HOn)
              | (have HR3 := HR2; have HS3 := Lib.hid ((fun (X : Nat → Nat) (_ : IRow _ g n X) => AlSo.Same.refl X mid b) _ HR2.out); have HP3 := Lib.hid (HCC.out.2 hnc.out); have HOm := HOn
                 clear HR2 HOn HCC)
              try go_wp2_with fail
              go_end0
              exact ⟨rfl, ⟨_, HR3.out, (HMI.out.fin HSA.out (by omega) (by omega) HS2.out HP2.out HS3.out HP3.out).1, (HMI.out.fin HSA.out (by omega) (by omega) HS2.out HP2.out HS3.out HP3.out).2⟩, HOm.out⟩
            · have dc1 : decide ((mid : Int) < (e : Int)) = false := by simp; omega
              have hnc : Hid (¬ (mid < e ∧ e < b)) := Lib.hid (fun h => hc1 h.1)
              first
              | (have CA := Lib.hid (rotate32 g n i m e D (cmpv bl) hn ha1 ha2 (by omega) _ HE.out)
                 clear HE
                 go_wp2_with fail
                 (with_reducible refine CA.out.mono ?_); rintro ee w1 ⟨rfl, hR1, hW1⟩
                 rw [HE1e.out] at hR1
                 have HE1 := Lib.hid hR1
                 have HO1 := Lib.hid ((HO.out.mono (T := [g]) (by simp)).trans hW1)
                 clear hR1 hW1 HO)
              | (have HE1 := Lib.hid (HE.out.of hskipA.out)
                 have HO1 := Lib.hid (HO.out.mono (T := [g]) (by simp))
                 clear HE HO)
              first
              | (have CB := Lib.hid (ih.out a i mid E1 _ (by omega) hb1 hb2 (by omega) (HSA.out.lt hbn HD.out) (HMI.out.B hb1 hb2) HE1.out (HS.out.keep HO1.out (by simp; exact fun e => hg.1 e.symm) (by simp; exact fun e => hg.2 e.symm)))
                 clear HE1
                 go_wp2_with fail
                 (with_reducible refine CB.out.mono ?_); rintro ee w2 ⟨rfl, ⟨E2, hR2, hS2, hO2⟩, hW2⟩
                 have HR2 := Lib.hid hR2; have HS2 := Lib.hid hS2; have HP2 := Lib.hid hO2; have HOn := Lib.hid (HO1.out.trans hW2)
                 clear hR2 hS2 hO2 hW2 HO1)
              | (have HR2 := HE1; have HS2 := Lib.hid (AlSo.Same.refl E1 a mid); have HP2 := Lib.hid (HMI.out.B0 hnb.out); have HOn := HO1
                 clear HE1 HO1)
              have HCC := Lib.hid (HMI.out.c HS2.out)
              first
              | (have CC := Lib.hid (ih.out mid e b _ _ (by omega) hc1 hc2 hbn (HS2.out.lt (by omega) (HSA.out.lt hbn HD.out)) (HCC.out.1 hc1 hc2) HR2.out (HS.out.keep HOn.out (by simp; exact fun e => hg.1 e.symm) (by simp; exact fun e => hg.2 e.symm)))
                 clear HR2 HCC
                 go_wp2_with fail
                 (with_reducible refine CC.out.mono ?_); rintro ee w3 ⟨rfl, ⟨E3, hR3, hS3, hO3⟩, hW3⟩
                 have HR3 := Lib.hid hR3; have HS3 := Lib.hid hS3; have HP3 := Lib.hid hO3; have HOm := Lib.hid (HOn.out.trans hW3)
                 clear hR3 hS3 hO3 hW3 HOn)
              | (have HR3 := HR2; have HS3 := Lib.hid ((fun (X : Nat → Nat) (_ : IRow _ g n X) => AlSo.Same.refl X mid b) _ HR2.out); have HP3 := Lib.hid (HCC.out.2 hnc.out); have HOm := HOn
                 clear HR2 HOn HCC)
              try go_wp2_with fail
              go_end0
              exact ⟨rfl, ⟨_, HR3.out, (HMI.out.fin HSA.out (by omega) (by omega) HS2.out HP2.out HS3.out HP3.out).1, (HMI.out.fin HSA.out (by omega) (by omega) HS2.out HP2.out HS3.out HP3.out).2⟩, HOm.out⟩
        · have da1 : decide ((i : Int) < (m : Int)) = true := by simp; omega
          have da2 : decide ((m : Int) < (e : Int)) = false := by simp; omega
          have hskipA : Hid (D = E1) := Lib.hid (by rw [← HE1e.out, ← show m = e by omega, AlSo.rot_right0])
          rcases tri a i mid with ⟨hb1, hb2⟩ | ⟨hb1, hb2⟩ | hb1
          · have db1 : decide ((a : Int) < (i : Int)) = true := by simp; omega
            have db2 : decide ((i : Int) < (mid : Int)) = true := by simp; omega
            rcases tri mid e b with ⟨hc1, hc2⟩ | ⟨hc1, hc2⟩ | hc1
            · have dc1 : decide ((mid : Int) < (e : Int)) = true := by simp; omega
              have dc2 : decide ((e : Int) < (b : Int)) = true := by simp; omega
              first
              | (have CA := Lib.hid (rotate32 g n i m e D (cmpv bl) hn ha1 ha2 (by omega) _ HE.out)
                 clear HE
                 go_wp2_with fail
                 (with_reducible refine CA.out.mono ?_); rintro ee w1 ⟨rfl, hR1, hW1⟩
                 rw [HE1e.out] at hR1
                 have HE1 := Lib.hid hR1
                 have HO1 := Lib.hid ((HO.out.mono (T := [g]) (by simp)).trans hW1)
                 clear hR1 hW1 HO)
              | (have HE1 := Lib.hid (HE.out.of hskipA.out)
                 have HO1 := Lib.hid (HO.out.mono (T := [g]) (by simp))
                 clear HE HO)
              first
              | (have CB := Lib.hid (ih.out a i mid E1 _ (by omega) hb1 hb2 (by omega) (HSA.out.lt hbn HD.out) (HMI.out.B hb1 hb2) HE1.out (HS.out.keep HO1.out (by simp; exact fun e => hg.1 e.symm) (by simp; exact fun e => hg.2 e.symm)))
                 clear HE1
                 go_wp2_with fail
                 (with_reducible refine CB.out.mono ?_); rintro ee w2 ⟨rfl, ⟨E2, hR2, hS2, hO2⟩, hW2⟩
                 have HR2 := Lib.hid hR2; have HS2 := Lib.hid hS2; have HP2 := Lib.hid hO2; have HOn := Lib.hid (HO1.out.trans hW2)
                 clear hR2 hS2 hO2 hW2 HO1)
              | (have HR2 := HE1; have HS2 := Lib.hid (AlSo.Same.refl E1 a mid); have HP2 := Lib.hid (HMI.out.B0 hnb.out); have HOn := HO1
                 clear HE1 HO1)
              have HCC := Lib.hid (HMI.out.c HS2.out)
              first
              | (have CC := Lib.hid (ih.out mid e b _ _ (by omega) hc1 hc2 hbn (HS2.out.lt (by omega) (HSA.out.lt hbn HD.out)) (HCC.out.1 hc1 hc2) HR2.out (HS.out.keep HOn.out (by simp; exact fun e => hg.1 e.symm) (by simp; exact fun e => hg.2 e.symm)))
                 clear HR2 HCC
                 go_wp2_with fail
                 (with_reducible refine CC.out.mono ?_); rintro ee w3 ⟨rfl, ⟨E3, hR3, hS3, hO3⟩, hW3⟩
                 have HR3 := Lib.hid hR3; have HS3 := Lib.hid hS3; have HP3 := Lib.hid hO3; have HOm := Lib.hid (HOn.out.trans hW3)
                 clear hR3 hS3 hO3 hW3 HOn)
              | (have HR3 := HR2; have HS3 := Lib.hid ((fun (X : Nat → Nat) (_ : IRow _ g n X) => AlSo.Same.refl X mid b) _ HR2.out); have HP3 := Lib.hid (HCC.out.2 hnc.out); have HOm := HOn
                 clear HR2 HOn HCC)
              try go_wp2_with fail
              go_end0
              exact ⟨rfl, ⟨_, HR3.out, (HMI.out.fin HSA.out (by omega) (by omega) HS2.out HP2.out HS3.out HP3.out).1, (HMI.out.fin HSA.out (by omega) (by omega) HS2.out HP2.out HS3.out HP3.out).2⟩, HOm.out⟩
            · have dc1 : decide ((mid : Int) < (e : Int)) = true := by simp; omega
              have dc2 : decide ((e : Int) < (b : Int)) = false := by simp; omega
              have hnc : Hid (¬ (mid < e ∧ e < b)) := Lib.hid (fun h => hc2 h.2)
              first
              | (have CA := Lib.hid (rotate32 g n i m e D (cmpv bl) hn ha1 ha2 (by omega) _ HE.out)
                 clear HE
                 go_wp2_with fail
                 (with_reducible refine CA.out.mono ?_); rintro ee w1 ⟨rfl, hR1, hW1⟩
                 rw [HE1e.out] at hR1
                 have HE1 := Lib.hid hR1
                 have HO1 := Lib.hid ((HO.out.mono (T := [g]) (by simp)).trans hW1)
                 clear hR1 hW1 HO)
              | (have HE1 := Lib.hid (HE.out.of hskipA.out)
                 have HO1 := Lib.hid (HO.out.mono (T := [g]) (by simp))
                 clear HE HO)
              first
              | (have CB := Lib.hid (ih.out a i mid E1 _ (by omega) hb1 hb2 (by omega) (HSA.out.lt hbn HD.out) (HMI.out.B hb1 hb2) HE1.out (HS.out.keep HO1.out (by simp; exact fun e => hg.1 e.symm) (by simp; exact fun e => hg.2 e.symm)))
                 clear HE1
                 go_wp2_with fail
                 (with_reducible refine CB.out.mono ?_); rintro ee w2 ⟨rfl, ⟨E2, hR2, hS2, hO2⟩, hW2⟩
                 have HR2 := Lib.hid hR2; have HS2 := Lib.hid hS2; have HP2 := Lib.hid hO2; have HOn := Lib.hid (HO1.out.trans hW2)
                 clear hR2 hS2 hO2 hW2 HO1)
              | (have HR2 := HE1; have HS2 := Lib.hid (AlSo.Same.refl E1 a mid); have HP2 := Lib.hid (HMI.out.B0 hnb.out); have HOn := HO1
                 clear HE1 HO1)
              have HCC := Lib.hid (HMI.out.c HS2.out)
              first
              | (have CC := Lib.hid (ih.out mid e b _ _ (by omega) hc1 hc2 hbn (HS2.out.lt (by omega) (HSA.out.lt hbn HD.out)) (HCC.out.1 hc1 hc2) HR2.out (HS.out.keep HOn.out (by simp; exact fun e => hg.1 e.symm) (by simp; exact fun e => hg.2 e.symm)))
                 clear HR2 HCC
                 go_wp2_with fail
                 (with_reducible refine CC.out.mono ?_); rintro ee w3 ⟨rfl, ⟨E3, hR3, hS3, hO3⟩, hW3⟩
                 have HR3 := Lib.hid hR3; have HS3 := Lib.hid hS3; have HP3 := Lib.hid hO3; have HOm := Lib.hid (HOn.out.trans hW3)
                 clear hR3 hS3 hO3 hW3 HOn)
              | (have HR3 := HR2; have HS3 := Lib.hid ((fun (X : Nat → Nat) (_ : IRow _ g n X) => AlSo.Same.refl X mid b) _ HR2.out); have HP3 := Lib.hid (HCC.out.2 hnc.out); have HOm := HOn
                 clear HR2 HOn HCC)
              try go_wp2_with fail
              go_end0
              exact ⟨rfl, ⟨_, HR3.out, (HMI.out.fin HSA.out (by omega) (by omega) HS2.out HP2.out HS3.out HP3.out).1, (HMI.out.fin HSA.out (by omega) (by omega) HS2.out HP2.out HS3.out HP3.out).2⟩, HOm.out⟩
            · have dc1 : decide ((mid : Int) < (e : Int)) = false := by simp; omega
              have hnc : Hid (¬ (mid < e ∧ e < b)) := Lib.hid (fun h => hc1 h.1)
              first
              | (have CA := Lib.hid (rotate32 g n i m e D (cmpv bl) hn ha1 ha2 (by omega) _ HE.out)
                 clear HE
                 go_wp2_with fail
                 (with_reducible refine CA.out.mono ?_); rintro ee w1 ⟨rfl, hR1, hW1⟩
                 rw [HE1e.out] at hR1
                 have HE1 := Lib.hid hR1
                 have HO1 := Lib.hid ((HO.out.mono (T := [g]) (by simp)).trans hW1)
                 clear hR1 hW1 HO)
              | (have HE1 := Lib.hid (HE.out.of hskipA.out)
                 have HO1 := Lib.hid (HO.out.mono (T := [g]) (by simp))
                 clear HE HO)
              first
              | (have CB := Lib.hid (ih.out a i mid E1 _ (by omega) hb1 hb2 (by omega) (HSA.out.lt hbn HD.out) (HMI.out.B hb1 hb2) HE1.out (HS.out.keep HO1.out (by simp; exact fun e => hg.1 e.symm) (by simp; exact fun e => hg.2 e.symm)))
                 clear HE1
                 go_wp2_with fail
                 (with_reducible refine CB.out.mono ?_); rintro ee w2 ⟨rfl, ⟨E2, hR2, hS2, hO2⟩, hW2⟩
                 have HR2 := Lib.hid hR2; have HS2 := Lib.hid hS2; have HP2 := Lib.hid hO2; have HOn := Lib.hid (HO1.out.trans hW2)
                 clear hR2 hS2 hO2 hW2 HO1)
              | (have HR2 := HE1; have HS2 := Lib.hid (AlSo.Same.refl E1 a mid); have HP2 := Lib.hid (HMI.out.B0 hnb.out); have HOn := HO1
                 clear HE1 HO1)
              have HCC := Lib.hid (HMI.out.c HS2.out)
              first
              | (have CC := Lib.hid (ih.out mid e b _ _ (by omega) hc1 hc2 hbn (HS2.out.lt (by omega) (HSA.out.lt hbn HD.out)) (HCC.out.1 hc1 hc2) HR2.out (HS.out.keep HOn.out (by simp; exact fun e => hg.1 e.symm) (by simp; exact fun e => hg.2 e.symm)))
                 clear HR2 HCC
                 go_wp2_with fail
                 (with_reducible refine CC.out.mono ?_); rintro ee w3 ⟨rfl, ⟨E3, hR3, hS3, hO3⟩, hW3⟩
                 have HR3 := Lib.hid hR3; have HS3 := Lib.hid hS3; have HP3 := Lib.hid hO3; have HOm := Lib.hid (HOn.out.trans hW3)
                 clear hR3 hS3 hO3 hW3 HOn)
              | (have HR3 := HR2; have HS3 := Lib.hid ((fun (X : Nat → Nat) (_ : IRow _ g n X) => AlSo.Same.refl X mid b) _ HR2.out); have HP3 := Lib.hid (HCC.out.2 hnc.out); have HOm := HOn
                 clear HR2 HOn HCC)
              try go_wp2_with fail
              go_end0
              exact ⟨rfl, ⟨_, HR3.out, (HMI.out.fin HSA.out (by omega) (by omega) HS2.out HP2.out HS3.out HP3.out).1, (HMI.out.fin HSA.out (by omega) (by omega) HS2.out HP2.out HS3.out HP3.out).2⟩, HOm.out⟩
          · have db1 : decide ((a : Int) < (i : Int)) = true := by simp; omega
            have db2 : decide ((i : Int) < (mid : Int)) = false := by simp; omega
            have hnb : Hid (¬ (a < i ∧ i < mid)) := Lib.hid (fun h => hb2 h.2)
            rcases tri mid e b with ⟨hc1, hc2⟩ | ⟨hc1, hc2⟩ | hc1
            · have dc1 : decide ((mid : Int) < (e : Int)) = true := by simp; omega
              have dc2 : decide ((e : Int) < (b : Int)) = true := by simp; omega
              first
              | (have CA := Lib.hid (rotate32 g n i m e D (cmpv bl) hn ha1 ha2 (by omega) _ HE.out)
                 clear HE
                 go_wp2_with fail
                 (with_reducible refine CA.out.mono ?_); rintro ee w1 ⟨rfl, hR1, hW1⟩
                 rw [HE1e.out] at hR1
                 have HE1 := Lib.hid hR1
                 have HO1 := Lib.hid ((HO.out.mono (T := [g]) (by simp)).trans hW1)
                 clear hR1 hW1 HO)
              | (have HE1 := Lib.hid (HE.out.of hskipA.out)
                 have HO1 := Lib.hid (HO.out.mono (T := [g]) (by simp))
                 clear HE HO)
              first
              | (have CB := Lib.hid (ih.out a i mid E1 _ (by omega) hb1 hb2 (by omega) (HSA.out.lt hbn HD.out) (HMI.out.B hb1 hb2) HE1.out (HS.out.keep HO1.out (by simp; exact fun e => hg.1 e.symm) (by simp; exact fun e => hg.2 e.symm)))
                 clear HE1
                 go_wp2_with fail
                 (with_reducible refine CB.out.mono ?_); rintro ee w2 ⟨rfl, ⟨E2, hR2, hS2, hO2⟩, hW2⟩
                 have HR2 := Lib.hid hR2; have HS2 := Lib.hid hS2; have HP2 := Lib.hid hO2; have HOn := Lib.hid (HO1.out.trans hW2)
                 clear hR2 hS2 hO2 hW2 HO1)
              | (have HR2 := HE1; have HS2 := Lib.hid (AlSo.Same.refl E1 a mid); have HP2 := Lib.hid (HMI.out.B0 hnb.out); have HOn := HO1
                 clear HE1 HO1)
              have HCC := Lib.hid (HMI.out.c HS2.out)
              first
              | (have CC := Lib.hid (ih.out mid e b _ _ (by omega) hc1 hc2 hbn (HS2.out.lt (by omega) (HSA.out.lt hbn HD.out)) (HCC.out.1 hc1 hc2) HR2.out (HS.out.keep HOn.out (by simp; exact fun e => hg.1 e.symm) (by simp; exact fun e => hg.2 e.symm)))
                 clear HR2 HCC
                 go_wp2_with fail
                 (with_reducible refine CC.out.mono ?_); rintro ee w3 ⟨rfl, ⟨E3, hR3, hS3, hO3⟩, hW3⟩
                 have HR3 := Lib.hid hR3; have HS3 := Lib.hid hS3; have HP3 := Lib.hid hO3; have HOm := Lib.hid (HOn.out.trans hW3)
                 clear hR3 hS3 hO3 hW3 HOn)
              | (have HR3 := HR2; have HS3 := Lib.hid ((fun (X : Nat → Nat) (_ : IRow _ g n X) => AlSo.Same.refl X mid b) _ HR2.out); have HP3 := Lib.hid (HCC.out.2 hnc.out); have HOm := HOn
                 clear HR2 HOn HCC)
              try go_wp2_with fail
              go_end0
              exact ⟨rfl, ⟨_, HR3.out, (HMI.out.fin HSA.out (by omega) (by omega) HS2.out HP2.out HS3.out HP3.out).1, (HMI.out.fin HSA.out (by omega) (by omega) HS2.out HP2.out HS3.out HP3.out).2⟩, HOm.out⟩
            · have dc1 : decide ((mid : Int) < (e : Int)) = true := by simp; omega
              have dc2 : decide ((e : Int) < (b : Int)) = false := by simp; omega
              have hnc : Hid (¬ (mid < e ∧ e < b)) := Lib.hid (fun h => hc2 h.2)
              first
              | (have CA := Lib.hid (rotate32 g n i m e D (cmpv bl) hn ha1 ha2 (by omega) _ HE.out)
                 clear HE
                 go_wp2_with fail
                 (with_reducible refine CA.out.mono ?_); rintro ee w1 ⟨rfl, hR1, hW1⟩
                 rw [HE1e.out] at hR1
                 have HE1 := Lib.hid hR1
                 have HO1 := Lib.hid ((HO.out.mono (T := [g]) (by simp)).trans hW1)
                 clear hR1 hW1 HO)
              | (have HE1 := Lib.hid (HE.out.of hskipA.out)
                 have HO1 := Lib.hid (HO.out.mono (T := [g]) (by simp))
                 clear HE HO)
              first
              | (have CB := Lib.hid (ih.out a i mid E1 _ (by omega) hb1 hb2 (by omega) (HSA.out.lt hbn HD.out) (HMI.out.B hb1 hb2) HE1.out (HS.out.keep HO1.out (by simp; exact fun e => hg.1 e.symm) (by simp; exact fun e => hg.2 e.symm)))
                 clear HE1
                 go_wp2_with fail
                 (with_reducible refine CB.out.mono ?_); rintro ee w2 ⟨rfl, ⟨E2, hR2, hS2, hO2⟩, hW2⟩
                 have HR2 := Lib.hid hR2; have HS2 := Lib.hid hS2; have HP2 := Lib.hid hO2; have HOn := Lib.hid (HO1.out.trans hW2)
                 clear hR2 hS2 hO2 hW2 HO1)
              | (have HR2 := HE1; have HS2 := Lib.hid (AlSo.Same.refl E1 a mid); have HP2 := Lib.hid (HMI.out.B0 hnb.out); have HOn := HO1
                 clear HE1 HO1)
              have HCC := Lib.hid (HMI.out.c HS2.out)
              first
              | (have CC := Lib.hid (ih.out mid e b _ _ (by omega) hc1 hc2 hbn (HS2.out.lt (by omega) (HSA.out.lt hbn HD.out)) (HCC.out.1 hc1 hc2) HR2.out (HS.out.keep HOn.out (by simp; exact fun e => hg.1 e.symm) (by simp; exact fun e => hg.2 e.symm)))
                 clear HR2 HCC
                 go_wp2_with fail
                 (with_reducible refine CC.out.mono ?_); rintro ee w3 ⟨rfl, ⟨E3, hR3, hS3, hO3⟩, hW3⟩
                 have HR3 := Lib.hid hR3; have HS3 := Lib.hid hS3; have HP3 := Lib.hid hO3; have HOm := Lib.hid (HOn.out.trans hW3)
                 clear hR3 hS3 hO3 hW3 HOn)
              | (have HR3 := HR2; have HS3 := Lib.hid ((fun (X : Nat → Nat) (_ : IRow _ g n X) => AlSo.Same.refl X mid b) _ HR2.out); have HP3 := Lib.hid (HCC.out.2 hnc.out); have HOm := HOn
                 clear HR2 HOn HCC)
              try go_wp2_with fail
              go_end0
              exact ⟨rfl, ⟨_, HR3.out, (HMI.out.fin HSA.out (by omega) (by omega) HS2.out HP2.out HS3.out HP3.out).1, (HMI.out.fin HSA.out (by omega) (by omega) HS2.out HP2.out HS3.out HP3.out).2⟩, HOm.out⟩
            · have dc1 : decide ((mid : Int) < (e : Int)) = false := by simp; omega
              have hnc : Hid (¬ (mid < e ∧ e < b)) := Lib.hid (fun h => hc1 h.1)
              first
              | (have CA := Lib.hid (rotate32 g n i m e D (cmpv bl) hn ha1 ha2 (by omega) _ HE.out)
                 clear HE
                 go_wp2_with fail
                 (with_reducible refine CA.out.mono ?_); rintro ee w1 ⟨rfl, hR1, hW1⟩
                 rw [HE1e.out] at hR1
                 have HE1 := Lib.hid hR1
                 have HO1 := Lib.hid ((HO.out.mono (T := [g]) (by simp)).trans hW1)
                 clear hR1 hW1 HO)
              | (have HE1 := Lib.hid (HE.out.of hskipA.out)
                 have HO1 := Lib.hid (HO.out.mono (T := [g]) (by simp))
                 clear HE HO)
              first
              | (have CB := Lib.hid (ih.out a i mid E1 _ (by omega) hb1 hb2 (by omega) (HSA.out.lt hbn HD.out) (HMI.out.B hb1 hb2) HE1.out (HS.out.keep HO1.out (by simp; exact fun e => hg.1 e.symm) (by simp; exact fun e => hg.2 e.symm)))
                 clear HE1
                 go_wp2_with fail
                 (with_reducible refine CB.out.mono ?_); rintro ee w2 ⟨rfl, ⟨E2, hR2, hS2, hO2⟩, hW2⟩
                 have HR2 := Lib.hid hR2; have HS2 := Lib.hid hS2; have HP2 := Lib.hid hO2; have HOn := Lib.hid (HO1.out.trans hW2)
                 clear hR2 hS2 hO2 hW2 HO1)
              | (have HR2 := HE1; have HS2 := Lib.hid (AlSo.Same.refl E1 a mid); have HP2 := Lib.hid (HMI.out.B0 hnb.out); have HOn := HO1
                 clear HE1 HO1)
              have HCC := Lib.hid (HMI.out.c HS2.out)
              first
              | (have CC := Lib.hid (ih.out mid e b _ _ (by omega) hc1 hc2 hbn (HS2.out.lt (by omega) (HSA.out.lt hbn HD.out)) (HCC.out.1 hc1 hc2) HR2.out (HS.out.keep HOn.out (by simp; exact fun e => hg.1 e.symm) (by simp; exact fun e => hg.2 e.symm)))
                 clear HR2 HCC
                 go_wp2_with fail
                 (with_reducible refine CC.out.mono ?_); rintro ee w3 ⟨rfl, ⟨E3, hR3, hS3, hO3⟩, hW3⟩
                 have HR3 := Lib.hid hR3; have HS3 := Lib.hid hS3; have HP3 := Lib.hid hO3; have HOm := Lib.hid (HOn.out.trans hW3)
                 clear hR3 hS3 hO3 hW3 HOn)
              | (have HR3 := HR2; have HS3 := Lib.hid ((fun (X : Nat → Nat) (_ : IRow _ g n X) => AlSo.Same.refl X mid b) _ HR2.out); have HP3 := Lib.hid (HCC.out.2 hnc.out); have HOm := HOn
                 clear HR2 HOn HCC)
              try go_wp2_with fail
              go_end0
              exact ⟨rfl, ⟨_, HR3.out, (HMI.out.fin HSA.out (by omega) (by omega) HS2.out HP2.out HS3.out HP3.out).1, (HMI.out.fin HSA.out (by omega) (by omega) HS2.out HP2.out HS3.out HP3.out).2⟩, HOm.out⟩
          · have db1 : decide ((a : Int) < (i : Int)) = false := by simp; omega
            have hnb : Hid (¬ (a < i ∧ i < mid)) := Lib.hid (fun h => hb1 h.1)
            rcases tri mid e b with ⟨hc1, hc2⟩ | ⟨hc1, hc2⟩ | hc1
            · have dc1 : decide ((mid : Int) < (e : Int)) = true := by simp; omega
              have dc2 : decide ((e : Int) < (b : Int)) = true := by simp; omega
              first
              | (have CA := Lib.hid (rotate32 g n i m e D (cmpv bl) hn ha1 ha2 (by omega) _ HE.out)
                 clear HE
                 go_wp2_with fail
                 (with_reducible refine CA.out.mono ?_); rintro ee w1 ⟨rfl, hR1, hW1⟩
                 rw [HE1e.out] at hR1
                 have HE1 := Lib.hid hR1
                 have HO1 := Lib.hid ((HO.out.mono (T := [g]) (by simp)).trans hW1)
                 clear hR1 hW1 HO)
              | (have HE1 := Lib.hid (HE.out.of hskipA.out)
                 have HO1 := Lib.hid (HO.out.mono (T := [g]) (by simp))
                 clear HE HO)
              first
              | (have CB := Lib.hid (ih.out a i mid E1 _ (by omega) hb1 hb2 (by omega) (HSA.out.lt hbn HD.out) (HMI.out.B hb1 hb2) HE1.out (HS.out.keep HO1.out (by simp; exact fun e => hg.1 e.symm) (by simp; exact fun e => hg.2 e.symm)))
                 clear HE1
                 go_wp2_with fail
                 (with_reducible refine CB.out.mono ?_); rintro ee w2 ⟨rfl, ⟨E2, hR2, hS2, hO2⟩, hW2⟩
                 have HR2 := Lib.hid hR2; have HS2 := Lib.hid hS2; have HP2 := Lib.hid hO2; have HOn := Lib.hid (HO1.out.trans hW2)
                 clear hR2 hS2 hO2 hW2 HO1)
              | (have HR2 := HE1; have HS2 := Lib.hid (AlSo.Same.refl E1 a mid); have HP2 := Lib.hid (HMI.out.B0 hnb.out); have HOn := HO1
                 clear HE1 HO1)
              have HCC := Lib.hid (HMI.out.c HS2.out)
              first
              | (have CC := Lib.hid (ih.out mid e b _ _ (by omega) hc1 hc2 hbn (HS2.out.lt (by omega) (HSA.out.lt hbn HD.out)) (HCC.out.1 hc1 hc2) HR2.out (HS.out.keep HOn.out (by simp; exact fun e => hg.1 e.symm) (by simp; exact fun e => hg.2 e.symm)))
                 clear HR2 HCC
                 go_wp2_with fail
                 (with_reducible refine CC.out.mono ?_); rintro ee w3 ⟨rfl, ⟨E3, hR3, hS3, hO3⟩, hW3⟩
                 have HR3 := Lib.hid hR3; have HS3 := Lib.hid hS3; have HP3 := Lib.hid hO3; have HOm := Lib.hid (HOn.out.trans hW3)
                 clear hR3 hS3 hO3 hW3 HOn)
              | (have HR3 := HR2; have HS3 := Lib.hid ((fun (X : Nat → Nat) (_ : IRow _ g n X) => AlSo.Same.refl X mid b) _ HR2.out); have HP3 := Lib.hid (HCC.out.2 hnc.out); have HOm := HOn
                 clear HR2 HOn HCC)
              try go_wp2_with fail
              go_end0
              exact ⟨rfl, ⟨_, HR3.out, (HMI.out.fin HSA.out (by omega) (by omega) HS2.out HP2.out HS3.out HP3.out).1, (HMI.out.fin HSA.out (by omega) (by omega) HS2.out HP2.out HS3.out HP3.out).2⟩, HOm.out⟩
            · have dc1 : decide ((mid : Int) < (e : Int)) = true := by simp; omega
              have dc2 : decide ((e : Int) < (b : Int)) = false := by simp; omega
              have hnc : Hid (¬ (mid < e ∧ e < b)) := Lib.hid (fun h => hc2 h.2)
              first
              | (have CA := Lib.hid (rotate32 g n i m e D (cmpv bl) hn ha1 ha2 (by omega) _ HE.out)
                 clear HE
                 go_wp2_with fail
                 (with_reducible refine CA.out.mono ?_); rintro ee w1 ⟨rfl, hR1, hW1⟩
                 rw [HE1e.out] at hR1
                 have HE1 := Lib.hid hR1
                 have HO1 := Lib.hid ((HO.out.mono (T := [g]) (by simp)).trans hW1)
                 clear hR1 hW1 HO)
              | (have HE1 := Lib.hid (HE.out.of hskipA.out)
                 have HO1 := Lib.hid (HO.out.mono (T := [g]) (by simp))
                 clear HE HO)
              first
              | (have CB := Lib.hid (ih.out a i mid E1 _ (by omega) hb1 hb2 (by omega) (HSA.out.lt hbn HD.out) (HMI.out.B hb1 hb2) HE1.out (HS.out.keep HO1.out (by simp; exact fun e => hg.1 e.symm) (by simp; exact fun e => hg.2 e.symm)))
                 clear HE1
                 go_wp2_with fail
                 (with_reducible refine CB.out.mono ?_); rintro ee w2 ⟨rfl, ⟨E2, hR2, hS2, hO2⟩, hW2⟩
                 have HR2 := Lib.hid hR2; have HS2 := Lib.hid hS2; have HP2 := Lib.hid hO2; have HOn := Lib.hid (HO1.out.trans hW2)
                 clear hR2 hS2 hO2 hW2 HO1)
              | (have HR2 := HE1; have HS2 := Lib.hid (AlSo.Same.refl E1 a mid); have HP2 := Lib.hid (HMI.out.B0 hnb.out); have HOn := HO1
                 clear HE1 HO1)
              have HCC := Lib.hid (HMI.out.c HS2.out)
              first
              | (have CC := Lib.hid (ih.out mid e b _ _ (by omega) hc1 hc2 hbn (HS2.out.lt (by omega) (HSA.out.lt hbn HD.out)) (HCC.out.1 hc1 hc2) HR2.out (HS.out.keep HOn.out (by simp; exact fun e => hg.1 e.symm) (by simp; exact fun e => hg.2 e.symm)))
                 clear HR2 HCC
                 go_wp2_with fail
                 (with_reducible refine CC.out.mono ?_); rintro ee w3 ⟨rfl, ⟨E3, hR3, hS3, hO3⟩, hW3⟩
                 have HR3 := Lib.hid hR3; have HS3 := Lib.hid hS3; have HP3 := Lib.hid hO3; have HOm := Lib.hid (HOn.out.trans hW3)
                 clear hR3 hS3 hO3 hW3 HOn)
              | (have HR3 := HR2; have HS3 := Lib.hid ((fun (X : Nat → Nat) (_ : IRow _ g n X) => AlSo.Same.refl X mid b) _ HR2.out); have HP3 := Lib.hid (HCC.out.2 hnc.out); have HOm := HOn
                 clear HR2 HOn HCC)
              try go_wp2_with fail
              go_end0
              exact ⟨rfl, ⟨_, HR3.out, (HMI.out.fin HSA.out (by omega) (by omega) HS2.out HP2.out HS3.out HP3.out).1, (HMI.out.fin HSA.out (by omega) (by omega) HS2.out HP2.out HS3.out HP3.out).2⟩, HOm.out⟩
            · have dc1 : decide ((mid : Int) < (e : Int)) = false := by simp; omega
              have hnc : Hid (¬ (mid < e ∧ e < b)) := Lib.hid (fun h => hc1 h.1)
              first
              | (have CA := Lib.hid (rotate32 g n i m e D (cmpv bl) hn ha1 ha2 (by omega) _ HE.out)
                 clear HE
                 go_wp2_with fail
                 (with_reducible refine CA.out.mono ?_); rintro ee w1 ⟨rfl, hR1, hW1⟩
                 rw [HE1e.out] at hR1
                 have HE1 := Lib.hid hR1
                 have HO1 := Lib.hid ((HO.out.mono (T := [g]) (by simp)).trans hW1)
                 clear hR1 hW1 HO)
              | (have HE1 := Lib.hid (HE.out.of hskipA.out)
                 have HO1 := Lib.hid (HO.out.mono (T := [g]) (by simp))
                 clear HE HO)
              first
              | (have CB := Lib.hid (ih.out a i mid E1 _ (by omega) hb1 hb2 (by omega) (HSA.out.lt hbn HD.out) (HMI.out.B hb1 hb2) HE1.out (HS.out.keep HO1.out (by simp; exact fun e => hg.1 e.symm) (by simp; exact fun e => hg.2 e.symm)))
                 clear HE1
                 go_wp2_with fail
                 (with_reducible refine CB.out.mono ?_); rintro ee w2 ⟨rfl, ⟨E2, hR2, hS2, hO2⟩, hW2⟩
                 have HR2 := Lib.hid hR2; have HS2 := Lib.hid hS2; have HP2 := Lib.hid hO2; have HOn := Lib.hid (HO1.out.trans hW2)
                 clear hR2 hS2 hO2 hW2 HO1)
              | (have HR2 := HE1; have HS2 := Lib.hid (AlSo.Same.refl E1 a mid); have HP2 := Lib.hid (HMI.out.B0 hnb.out); have HOn := HO1
                 clear HE1 HO1)
              have HCC := Lib.hid (HMI.out.c HS2.out)
              first
              | (have CC := Lib.hid (ih.out mid e b _ _ (by omega) hc1 hc2 hbn (HS2.out.lt (by omega) (HSA.out.lt hbn HD.out)) (HCC.out.1 hc1 hc2) HR2.out (HS.out.keep HOn.out (by simp; exact fun e => hg.1 e.symm) (by simp; exact fun e => hg.2 e.symm)))
                 clear HR2 HCC
                 go_wp2_with fail
                 (with_reducible refine CC.out.mono ?_); rintro ee w3 ⟨rfl, ⟨E3, hR3, hS3, hO3⟩, hW3⟩
                 have HR3 := Lib.hid hR3; have HS3 := Lib.hid hS3; have HP3 := Lib.hid hO3; have HOm := Lib.hid (HOn.out.trans hW3)
                 clear hR3 hS3 hO3 hW3 HOn)
              | (have HR3 := HR2; have HS3 := Lib.hid ((fun (X : Nat → Nat) (_ : IRow _ g n X) => AlSo.Same.refl X mid b) _ HR2.out); have HP3 := Lib.hid (HCC.out.2 hnc.out); have HOm := HOn
                 clear HR2 HOn HCC)
              try go_wp2_with fail
              go_end0
              exact ⟨rfl, ⟨_, HR3.out, (HMI.out.fin HSA.out (by omega) (by omega) HS2.out HP2.out HS3.out HP3.out).1, (HMI.out.fin HSA.out (by omega) (by omega) HS2.out HP2.out HS3.out HP3.out).2⟩, HOm.out⟩
        · have da1 : decide ((i : Int) < (m : Int)) = false := by simp; omega
          have hskipA : Hid (D = E1) := Lib.hid (by rw [← HE1e.out, show i = m by omega, AlSo.rot_left0])
          rcases tri a i mid with ⟨hb1, hb2⟩ | ⟨hb1, hb2⟩ | hb1
          · have db1 : decide ((a : Int) < (i : Int)) = true := by simp; omega
            have db2 : decide ((i : Int) < (mid : Int)) = true := by simp; omega
            rcases tri mid e b with ⟨hc1, hc2⟩ | ⟨hc1, hc2⟩ | hc1
            · have dc1 : decide ((mid : Int) < (e : Int)) = true := by simp; omega
              have dc2 : decide ((e : Int) < (b : Int)) = true := by simp; omega
              first
              | (have CA := Lib.hid (rotate32 g n i m e D (cmpv bl) hn ha1 ha2 (by omega) _ HE.out)
                 clear HE
                 go_wp2_with fail
                 (with_reducible refine CA.out.mono ?_); rintro ee w1 ⟨rfl, hR1, hW1⟩
                 rw [HE1e.out] at hR1
                 have HE1 := Lib.hid hR1
                 have HO1 := Lib.hid ((HO.out.mono (T := [g]) (by simp)).trans hW1)
                 clear hR1 hW1 HO)
              | (have HE1 := Lib.hid (HE.out.of hskipA.out)
                 have HO1 := Lib.hid (HO.out.mono (T := [g]) (by simp))
                 clear HE HO)
              first
              | (have CB := Lib.hid (ih.out a i mid E1 _ (by omega) hb1 hb2 (by omega) (HSA.out.lt hbn HD.out) (HMI.out.B hb1 hb2) HE1.out (HS.out.keep HO1.out (by simp; exact fun e => hg.1 e.symm) (by simp; exact fun e => hg.2 e.symm)))
                 clear HE1
                 go_wp2_with fail
                 (with_reducible refine CB.out.mono ?_); rintro ee w2 ⟨rfl, ⟨E2, hR2, hS2, hO2⟩, hW2⟩
                 have HR2 := Lib.hid hR2; have HS2 := Lib.hid hS2; have HP2 := Lib.hid hO2; have HOn := Lib.hid (HO1.out.trans hW2)
                 clear hR2 hS2 hO2 hW2 HO1)
              | (have HR2 := HE1; have HS2 := Lib.hid (AlSo.Same.refl E1 a mid); have HP2 := Lib.hid (HMI.out.B0 hnb.out); have HOn := HO1
                 clear HE1 HO1)
              have HCC := Lib.hid (HMI.out.c HS2.out)
              first
              | (have CC := Lib.hid (ih.out mid e b _ _ (by omega) hc1 hc2 hbn (HS2.out.lt (by omega) (HSA.out.lt hbn HD.out)) (HCC.out.1 hc1 hc2) HR2.out (HS.out.keep HOn.out (by simp; exact fun e => hg.1 e.symm) (by simp; exact fun e => hg.2 e.symm)))
                 clear HR2 HCC
                 go_wp2_with fail
                 (with_reducible refine CC.out.mono ?_); rintro ee w3 ⟨rfl, ⟨E3, hR3, hS3, hO3⟩, hW3⟩
                 have HR3 := Lib.hid hR3; have HS3 := Lib.hid hS3; have HP3 := Lib.hid hO3; have HOm := Lib.hid (HOn.out.trans hW3)
                 clear hR3 hS3 hO3 hW3 HOn)
              | (have HR3 := HR2; have HS3 := Lib.hid ((fun (X : Nat → Nat) (_ : IRow _ g n X) => AlSo.Same.refl X mid b) _ HR2.out); have HP3 := Lib.hid (HCC.out.2 hnc.out); have HOm := HOn
                 clear HR2 HOn HCC)
              try go_wp2_with fail
              go_end0
              exact ⟨rfl, ⟨_, HR3.out, (HMI.out.fin HSA.out (by omega) (by omega) HS2.out HP2.out HS3.out HP3.out).1, (HMI.out.fin HSA.out (by omega) (by omega) HS2.out HP2.out HS3.out HP3.out).2⟩, HOm.out⟩
            · have dc1 : decide ((mid : Int) < (e : Int)) = true := by simp; omega
              have dc2 : decide ((e : Int) < (b : Int)) = false := by simp; omega
              have hnc : Hid (¬ (mid < e ∧ e < b)) := Lib.hid (fun h => hc2 h.2)
              first
              | (have CA := Lib.hid (rotate32 g n i m e D (cmpv bl) hn ha1 ha2 (by omega) _ HE.out)
                 clear HE
                 go_wp2_with fail
                 (with_reducible refine CA.out.mono ?_); rintro ee w1 ⟨rfl, hR1, hW1⟩
                 rw [HE1e.out] at hR1
                 have HE1 := Lib.hid hR1
                 have HO1 := Lib.hid ((HO.out.mono (T := [g]) (by simp)).trans hW1)
                 clear hR1 hW1 HO)
              | (have HE1 := Lib.hid (HE.out.of hskipA.out)
                 have HO1 := Lib.hid (HO.out.mono (T := [g]) (by simp))
                 clear HE HO)
              first
              | (have CB := Lib.hid (ih.out a i mid E1 _ (by omega) hb1 hb2 (by omega) (HSA.out.lt hbn HD.out) (HMI.out.B hb1 hb2) HE1.out (HS.out.keep HO1.out (by simp; exact fun e => hg.1 e.symm) (by simp; exact fun e => hg.2 e.symm)))
                 clear HE1
                 go_wp2_with fail
                 (with_reducible refine CB.out.mono ?_); rintro ee w2 ⟨rfl, ⟨E2, hR2, hS2, hO2⟩, hW2⟩
                 have HR2 := Lib.hid hR2; have HS2 := Lib.hid hS2; have HP2 := Lib.hid hO2; have HOn := Lib.hid (HO1.out.trans hW2)
                 clear hR2 hS2 hO2 hW2 HO1)
              | (have HR2 := HE1; have HS2 := Lib.hid (AlSo.Same.refl E1 a mid); have HP2 := Lib.hid (HMI.out.B0 hnb.out); have HOn := HO1
                 clear HE1 HO1)
              have HCC := Lib.hid (HMI.out.c HS2.out)
              first
              | (have CC := Lib.hid (ih.out mid e b _ _ (by omega) hc1 hc2 hbn (HS2.out.lt (by omega) (HSA.out.lt hbn HD.out)) (HCC.out.1 hc1 hc2) HR2.out (HS.out.keep HOn.out (by simp; exact fun e => hg.1 e.symm) (by simp; exact fun e => hg.2 e.symm)))
                 clear HR2 HCC
                 go_wp2_with fail
                 (with_reducible refine CC.out.mono ?_); rintro ee w3 ⟨rfl, ⟨E3, hR3, hS3, hO3⟩, hW3⟩
                 have HR3 := Lib.hid hR3; have HS3 := Lib.hid hS3; have HP3 := Lib.hid hO3; have HOm := Lib.hid (HOn.out.trans hW3)
                 clear hR3 hS3 hO3 hW3 HOn)
              | (have HR3 := HR2; have HS3 := Lib.hid ((fun (X : Nat → Nat) (_ : IRow _ g n X) => AlSo.Same.refl X mid b) _ HR2.out); have HP3 := Lib.hid (HCC.out.2 hnc.out); have HOm := HOn
                 clear HR2 HOn HCC)
              try go_wp2_with fail
              go_end0
              exact ⟨rfl, ⟨_, HR3.out, (HMI.out.fin HSA.out (by omega) (by omega) HS2.out HP2.out HS3.out HP3.out).1, (HMI.out.fin HSA.out (by omega) (by omega) HS2.out HP2.out HS3.out HP3.out).2⟩, HOm.out⟩
            · have dc1 : decide ((mid : Int) < (e : Int)) = false := by simp; omega
              have hnc : Hid (¬ (mid < e ∧ e < b)) := Lib.hid (fun h => hc1 h.1)
              first
              | (have CA := Lib.hid (rotate32 g n i m e D (cmpv bl) hn ha1 ha2 (by omega) _ HE.out)
                 clear HE
                 go_wp2_with fail
                 (with_reducible refine CA.out.mono ?_); rintro ee w1 ⟨rfl, hR1, hW1⟩
                 rw [HE1e.out] at hR1
                 have HE1 := Lib.hid hR1
                 have HO1 := Lib.hid ((HO.out.mono (T := [g]) (by simp)).trans hW1)
                 clear hR1 hW1 HO)
              | (have HE1 := Lib.hid (HE.out.of hskipA.out)
                 have HO1 := Lib.hid (HO.out.mono (T := [g]) (by simp))
                 clear HE HO)
              first
              | (have CB := Lib.hid (ih.out a i mid E1 _ (by omega) hb1 hb2 (by omega) (HSA.out.lt hbn HD.out) (HMI.out.B hb1 hb2) HE1.out (HS.out.keep HO1.out (by simp; exact fun e => hg.1 e.symm) (by simp; exact fun e => hg.2 e.symm)))
                 clear HE1
                 go_wp2_with fail
                 (with_reducible refine CB.out.mono ?_); rintro ee w2 ⟨rfl, ⟨E2, hR2, hS2, hO2⟩, hW2⟩
                 have HR2 := Lib.hid hR2; have HS2 := Lib.hid hS2; have HP2 := Lib.hid hO2; have HOn := Lib.hid (HO1.out.trans hW2)
                 clear hR2 hS2 hO2 hW2 HO1)
              | (have HR2 := HE1; have HS2 := Lib.hid (AlSo.Same.refl E1 a mid); have HP2 := Lib.hid (HMI.out.B0 hnb.out); have HOn := HO1
                 clear HE1 HO1)
              have HCC := Lib.hid (HMI.out.c HS2.out)
              first
              | (have CC := Lib.hid (ih.out mid e b _ _ (by omega) hc1 hc2 hbn (HS2.out.lt (by omega) (HSA.out.lt hbn HD.out)) (HCC.out.1 hc1 hc2) HR2.out (HS.out.keep HOn.out (by simp; exact fun e => hg.1 e.symm) (by simp; exact fun e => hg.2 e.symm)))
                 clear HR2 HCC
                 go_wp2_with fail
                 (with_reducible refine CC.out.mono ?_); rintro ee w3 ⟨rfl, ⟨E3, hR3, hS3, hO3⟩, hW3⟩
                 have HR3 := Lib.hid hR3; have HS3 := Lib.hid hS3; have HP3 := Lib.hid hO3; have HOm := Lib.hid (HOn.out.trans hW3)
                 clear hR3 hS3 hO3 hW3 HOn)
              | (have HR3 := HR2; have HS3 := Lib.hid ((fun (X : Nat → Nat) (_ : IRow _ g n X) => AlSo.Same.refl X mid b) _ HR2.out); have HP3 := Lib.hid (HCC.out.2 hnc.out); have HOm := HOn
                 clear HR2 HOn HCC)
              try go_wp2_with fail
              go_end0
              exact ⟨rfl, ⟨_, HR3.out, (HMI.out.fin HSA.out (by omega) (by omega) HS2.out HP2.out HS3.out HP3.out).1, (HMI.out.fin HSA.out (by omega) (by omega) HS2.out HP2.out HS3.out HP3.out).2⟩, HOm.out⟩
          · have db1 : decide ((a : Int) < (i : Int)) = true := by simp; omega
            have db2 : decide ((i : Int) < (mid : Int)) = false := by simp; omega
            have hnb : Hid (¬ (a < i ∧ i < mid)) := Lib.hid (fun h => hb2 h.2)
            rcases tri mid e b with ⟨hc1, hc2⟩ | ⟨hc1, hc2⟩ | hc1
            · have dc1 : decide ((mid : Int) < (e : Int)) = true := by simp; omega
              have dc2 : decide ((e : Int) < (b : Int)) = true := by simp; omega
              first
              | (have CA := Lib.hid (rotate32 g n i m e D (cmpv bl) hn ha1 ha2 (by omega) _ HE.out)
                 clear HE
                 go_wp2_with fail
                 (with_reducible refine CA.out.mono ?_); rintro ee w1 ⟨rfl, hR1, hW1⟩
                 rw [HE1e.out] at hR1
                 have HE1 := Lib.hid hR1
                 have HO1 := Lib.hid ((HO.out.mono (T := [g]) (by simp)).trans hW1)
                 clear hR1 hW1 HO)
              | (have HE1 := Lib.hid (HE.out.of hskipA.out)
                 have HO1 := Lib.hid (HO.out.mono (T := [g]) (by simp))
                 clear HE HO)
              first
              | (have CB := Lib.hid (ih.out a i mid E1 _ (by omega) hb1 hb2 (by omega) (HSA.out.lt hbn HD.out) (HMI.out.B hb1 hb2) HE1.out (HS.out.keep HO1.out (by simp; exact fun e => hg.1 e.symm) (by simp; exact fun e => hg.2 e.symm)))
                 clear HE1
                 go_wp2_with fail
                 (with_reducible refine CB.out.mono ?_); rintro ee w2 ⟨rfl, ⟨E2, hR2, hS2, hO2⟩, hW2⟩
                 have HR2 := Lib.hid hR2; have HS2 := Lib.hid hS2; have HP2 := Lib.hid hO2; have HOn := Lib.hid (HO1.out.trans hW2)
                 clear hR2 hS2 hO2 hW2 HO1)
              | (have HR2 := HE1; have HS2 := Lib.hid (AlSo.Same.refl E1 a mid); have HP2 := Lib.hid (HMI.out.B0 hnb.out); have HOn := HO1
                 clear HE1 HO1)
              have HCC := Lib.hid (HMI.out.c HS2.out)
              first
              | (have CC := Lib.hid (ih.out mid e b _ _ (by omega) hc1 hc2 hbn (HS2.out.lt (by omega) (HSA.out.lt hbn HD.out)) (HCC.out.1 hc1 hc2) HR2.out (HS.out.keep HOn.out (by simp; exact fun e => hg.1 e.symm) (by simp; exact fun e => hg.2 e.symm)))
                 clear HR2 HCC
                 go_wp2_with fail
                 (with_reducible refine CC.out.mono ?_); rintro ee w3 ⟨rfl, ⟨E3, hR3, hS3, hO3⟩, hW3⟩
                 have HR3 := Lib.hid hR3; have HS3 := Lib.hid hS3; have HP3 := Lib.hid hO3; have HOm := Lib.hid (HOn.out.trans hW3)
                 clear hR3 hS3 hO3 hW3 HOn)
              | (have HR3 := HR2; have HS3 := Lib.hid ((fun (X : Nat → Nat) (_ : IRow _ g n X) => AlSo.Same.refl X mid b) _ HR2.out); have HP3 := Lib.hid (HCC.out.2 hnc.out); have HOm := HOn
                 clear HR2 HOn HCC)
              try go_wp2_with fail
              go_end0
              exact ⟨rfl, ⟨_, HR3.out, (HMI.out.fin HSA.out (by omega) (by omega) HS2.out HP2.out HS3.out HP3.out).1, (HMI.out.fin HSA.out (by omega) (by omega) HS2.out HP2.out HS3.out HP3.out).2⟩, HOm.out⟩
            · have dc1 : decide ((mid : Int) < (e : Int)) = true := by simp; omega
              have dc2 : decide ((e : Int) < (b : Int)) = false := by simp; omega
              have hnc : Hid (¬ (mid < e ∧ e < b)) := Lib.hid (fun h => hc2 h.2)
              first
              | (have CA := Lib.hid (rotate32 g n i m e D (cmpv bl) hn ha1 ha2 (by omega) _ HE.out)
                 clear HE
                 go_wp2_with fail
                 (with_reducible refine CA.out.mono ?_); rintro ee w1 ⟨rfl, hR1, hW1⟩
                 rw [HE1e.out] at hR1
                 have HE1 := Lib.hid hR1
                 have HO1 := Lib.hid ((HO.out.mono (T := [g]) (by simp)).trans hW1)
                 clear hR1 hW1 HO)
              | (have HE1 := Lib.hid (HE.out.of hskipA.out)
                 have HO1 := Lib.hid (HO.out.mono (T := [g]) (by simp))
                 clear HE HO)
              first
              | (have CB := Lib.hid (ih.out a i mid E1 _ (by omega) hb1 hb2 (by omega) (HSA.out.lt hbn HD.out) (HMI.out.B hb1 hb2) HE1.out (HS.out.keep HO1.out (by simp; exact fun e => hg.1 e.symm) (by simp; exact fun e => hg.2 e.symm)))
                 clear HE1
                 go_wp2_with fail
                 (with_reducible refine CB.out.mono ?_); rintro ee w2 ⟨rfl, ⟨E2, hR2, hS2, hO2⟩, hW2⟩
                 have HR2 := Lib.hid hR2; have HS2 := Lib.hid hS2; have HP2 := Lib.hid hO2; have HOn := Lib.hid (HO1.out.trans hW2)
                 clear hR2 hS2 hO2 hW2 HO1)
              | (have HR2 := HE1; have HS2 := Lib.hid (AlSo.Same.refl E1 a mid); have HP2 := Lib.hid (HMI.out.B0 hnb.out); have HOn := HO1
                 clear HE1 HO1)
              have HCC := Lib.hid (HMI.out.c HS2.out)
              first
              | (have CC := Lib.hid (ih.out mid e b _ _ (by omega) hc1 hc2 hbn (HS2.out.lt (by omega) (HSA.out.lt hbn HD.out)) (HCC.out.1 hc1 hc2) HR2.out (HS.out.keep HOn.out (by simp; exact fun e => hg.1 e.symm) (by simp; exact fun e => hg.2 e.symm)))
                 clear HR2 HCC
                 go_wp2_with fail
                 (with_reducible refine CC.out.mono ?_); rintro ee w3 ⟨rfl, ⟨E3, hR3, hS3, hO3⟩, hW3⟩
                 have HR3 := Lib.hid hR3; have HS3 := Lib.hid hS3; have HP3 := Lib.hid hO3; have HOm := Lib.hid (HOn.out.trans hW3)
                 clear hR3 hS3 hO3 hW3 HOn)
              | (have HR3 := HR2; have HS3 := Lib.hid ((fun (X : Nat → Nat) (_ : IRow _ g n X) => AlSo.Same.refl X mid b) _ HR2.out); have HP3 := Lib.hid (HCC.out.2 hnc.out); have HOm := HOn
                 clear HR2 HOn HCC)
              try go_wp2_with fail
              go_end0
              exact ⟨rfl, ⟨_, HR3.out, (HMI.out.fin HSA.out (by omega) (by omega) HS2.out HP2.out HS3.out HP3.out).1, (HMI.out.fin HSA.out (by omega) (by omega) HS2.out HP2.out HS3.out HP3.out).2⟩, HOm.out⟩
            · have dc1 : decide ((mid : Int) < (e : Int)) = false := by simp; omega
              have hnc : Hid (¬ (mid < e ∧ e < b)) := Lib.hid (fun h => hc1 h.1)
              first
              | (have CA := Lib.hid (rotate32 g n i m e D (cmpv bl) hn ha1 ha2 (by omega) _ HE.out)
                 clear HE
                 go_wp2_with fail
                 (with_reducible refine CA.out.mono ?_); rintro ee w1 ⟨rfl, hR1, hW1⟩
                 rw [HE1e.out] at hR1
                 have HE1 := Lib.hid hR1
                 have HO1 := Lib.hid ((HO.out.mono (T := [g]) (by simp)).trans hW1)
                 clear hR1 hW1 HO)
              | (have HE1 := Lib.hid (HE.out.of hskipA.out)
                 have HO1 := Lib.hid (HO.out.mono (T := [g]) (by simp))
                 clear HE HO)
              first
              | (have CB := Lib.hid (ih.out a i mid E1 _ (by omega) hb1 hb2 (by omega) (HSA.out.lt hbn HD.out) (HMI.out.B hb1 hb2) HE1.out (HS.out.keep HO1.out (by simp; exact fun e => hg.1 e.symm) (by simp; exact fun e => hg.2 e.symm)))
                 clear HE1
                 go_wp2_with fail
                 (with_reducible refine CB.out.mono ?_); rintro ee w2 ⟨rfl, ⟨E2, hR2, hS2, hO2⟩, hW2⟩
                 have HR2 := Lib.hid hR2; have HS2 := Lib.hid hS2; have HP2 := Lib.hid hO2; have HOn := Lib.hid (HO1.out.trans hW2)
                 clear hR2 hS2 hO2 hW2 HO1)
              | (have HR2 := HE1; have HS2 := Lib.hid (AlSo.Same.refl E1 a mid); have HP2 := Lib.hid (HMI.out.B0 hnb.out); have HOn := HO1
                 clear HE1 HO1)
              have HCC := Lib.hid (HMI.out.c HS2.out)
              first
              | (have CC := Lib.hid (ih.out mid e b _ _ (by omega) hc1 hc2 hbn (HS2.out.lt (by omega) (HSA.out.lt hbn HD.out)) (HCC.out.1 hc1 hc2) HR2.out (HS.out.keep HOn.out (by simp; exact fun e => hg.1 e.symm) (by simp; exact fun e => hg.2 e.symm)))
                 clear HR2 HCC
                 go_wp2_with fail
                 (with_reducible refine CC.out.mono ?_); rintro ee w3 ⟨rfl, ⟨E3, hR3, hS3, hO3⟩, hW3⟩
                 have HR3 := Lib.hid hR3; have HS3 := Lib.hid hS3; have HP3 := Lib.hid hO3; have HOm := Lib.hid (HOn.out.trans hW3)
                 clear hR3 hS3 hO3 hW3 HOn)
              | (have HR3 := HR2; have HS3 := Lib.hid ((fun (X : Nat → Nat) (_ : IRow _ g n X) => AlSo.Same.refl X mid b) _ HR2.out); have HP3 := Lib.hid (HCC.out.2 hnc.out); have HOm := HOn
                 clear HR2 HOn HCC)
              try go_wp2_with fail
              go_end0
              exact ⟨rfl, ⟨_, HR3.out, (HMI.out.fin HSA.out (by omega) (by omega) HS2.out HP2.out HS3.out HP3.out).1, (HMI.out.fin HSA.out (by omega) (by omega) HS2.out HP2.out HS3.out HP3.out).2⟩, HOm.out⟩
          · have db1 : decide ((a : Int) < (i : Int)) = false := by simp; omega
            have hnb : Hid (¬ (a < i ∧ i < mid)) := Lib.hid (fun h => hb1 h.1)
            rcases tri mid e b with ⟨hc1, hc2⟩ | ⟨hc1, hc2⟩ | hc1
            · have dc1 : decide ((mid : Int) < (e : Int)) = true := by simp; omega
              have dc2 : decide ((e : Int) < (b : Int)) = true := by simp; omega
              first
              | (have CA := Lib.hid (rotate32 g n i m e D (cmpv bl) hn ha1 ha2 (by omega) _ HE.out)
                 clear HE
                 go_wp2_with fail
                 (with_reducible refine CA.out.mono ?_); rintro ee w1 ⟨rfl, hR1, hW1⟩
                 rw [HE1e.out] at hR1
                 have HE1 := Lib.hid hR1
                 have HO1 := Lib.hid ((HO.out.mono (T := [g]) (by simp)).trans hW1)
                 clear hR1 hW1 HO)
              | (have HE1 := Lib.hid (HE.out.of hskipA.out)
                 have HO1 := Lib.hid (HO.out.mono (T := [g]) (by simp))
                 clear HE HO)
              first
              | (have CB := Lib.hid (ih.out a i mid E1 _ (by omega) hb1 hb2 (by omega) (HSA.out.lt hbn HD.out) (HMI.out.B hb1 hb2) HE1.out (HS.out.keep HO1.out (by simp; exact fun e => hg.1 e.symm) (by simp; exact fun e => hg.2 e.symm)))
                 clear HE1
                 go_wp2_with fail
                 (with_reducible refine CB.out.mono ?_); rintro ee w2 ⟨rfl, ⟨E2, hR2, hS2, hO2⟩, hW2⟩
                 have HR2 := Lib.hid hR2; have HS2 := Lib.hid hS2; have HP2 := Lib.hid hO2; have HOn := Lib.hid (HO1.out.trans hW2)
                 clear hR2 hS2 hO2 hW2 HO1)
              | (have HR2 := HE1; have HS2 := Lib.hid (AlSo.Same.refl E1 a mid); have HP2 := Lib.hid (HMI.out.B0 hnb.out); have HOn := HO1
                 clear HE1 HO1)
              have HCC := Lib.hid (HMI.out.c HS2.out)
              first
              | (have CC := Lib.hid (ih.out mid e b _ _ (by omega) hc1 hc2 hbn (HS2.out.lt (by omega) (HSA.out.lt hbn HD.out)) (HCC.out.1 hc1 hc2) HR2.out (HS.out.keep HOn.out (by simp; exact fun e => hg.1 e.symm) (by simp; exact fun e => hg.2 e.symm)))
                 clear HR2 HCC
                 go_wp2_with fail
                 (with_reducible refine CC.out.mono ?_); rintro ee w3 ⟨rfl, ⟨E3, hR3, hS3, hO3⟩, hW3⟩
                 have HR3 := Lib.hid hR3; have HS3 := Lib.hid hS3; have HP3 := Lib.hid hO3; have HOm := Lib.hid (HOn.out.trans hW3)
                 clear hR3 hS3 hO3 hW3 HOn)
              | (have HR3 := HR2; have HS3 := Lib.hid ((fun (X : Nat → Nat) (_ : IRow _ g n X) => AlSo.Same.refl X mid b) _ HR2.out); have HP3 := Lib.hid (HCC.out.2 hnc.out); have HOm := HOn
                 clear HR2 HOn HCC)
              try go_wp2_with fail
              go_end0
              exact ⟨rfl, ⟨_, HR3.out, (HMI.out.fin HSA.out (by omega) (by omega) HS2.out HP2.out HS3.out HP3.out).1, (HMI.out.fin HSA.out (by omega) (by omega) HS2.out HP2.out HS3.out HP3.out).2⟩, HOm.out⟩
            · have dc1 : decide ((mid : Int) < (e : Int)) = true := by simp; omega
              have dc2 : decide ((e : Int) < (b : Int)) = false := by simp; omega
              have hnc : Hid (¬ (mid < e ∧ e < b)) := Lib.hid (fun h => hc2 h.2)
              first
              | (have CA := Lib.hid (rotate32 g n i m e D (cmpv bl) hn ha1 ha2 (by omega) _ HE.out)
                 clear HE
                 go_wp2_with fail
                 (with_reducible refine CA.out.mono ?_); rintro ee w1 ⟨rfl, hR1, hW1⟩
                 rw [HE1e.out] at hR1
                 have HE1 := Lib.hid hR1
                 have HO1 := Lib.hid ((HO.out.mono (T := [g]) (by simp)).trans hW1)
                 clear hR1 hW1 HO)
              | (have HE1 := Lib.hid (HE.out.of hskipA.out)
                 have HO1 := Lib.hid (HO.out.mono (T := [g]) (by simp))
                 clear HE HO)
              first
              | (have CB := Lib.hid (ih.out a i mid E1 _ (by omega) hb1 hb2 (by omega) (HSA.out.lt hbn HD.out) (HMI.out.B hb1 hb2) HE1.out (HS.out.keep HO1.out (by simp; exact fun e => hg.1 e.symm) (by simp; exact fun e => hg.2 e.symm)))
                 clear HE1
                 go_wp2_with fail
                 (with_reducible refine CB.out.mono ?_); rintro ee w2 ⟨rfl, ⟨E2, hR2, hS2, hO2⟩, hW2⟩
                 have HR2 := Lib.hid hR2; have HS2 := Lib.hid hS2; have HP2 := Lib.hid hO2; have HOn := Lib.hid (HO1.out.trans hW2)
                 clear hR2 hS2 hO2 hW2 HO1)
              | (have HR2 := HE1; have HS2 := Lib.hid (AlSo.Same.refl E1 a mid); have HP2 := Lib.hid (HMI.out.B0 hnb.out); have HOn := HO1
                 clear HE1 HO1)
              have HCC := Lib.hid (HMI.out.c HS2.out)
              first
              | (have CC := Lib.hid (ih.out mid e b _ _ (by omega) hc1 hc2 hbn (HS2.out.lt (by omega) (HSA.out.lt hbn HD.out)) (HCC.out.1 hc1 hc2) HR2.out (HS.out.keep HOn.out (by simp; exact fun e => hg.1 e.symm) (by simp; exact fun e => hg.2 e.symm)))
                 clear HR2 HCC
                 go_wp2_with fail
                 (with_reducible refine CC.out.mono ?_); rintro ee w3 ⟨rfl, ⟨E3, hR3, hS3, hO3⟩, hW3⟩
                 have HR3 := Lib.hid hR3; have HS3 := Lib.hid hS3; have HP3 := Lib.hid hO3; have HOm := Lib.hid (HOn.out.trans hW3)
                 clear hR3 hS3 hO3 hW3 HOn)
              | (have HR3 := HR2; have HS3 := Lib.hid ((fun (X : Nat → Nat) (_ : IRow _ g n X) => AlSo.Same.refl X mid b) _ HR2.out); have HP3 := Lib.hid (HCC.out.2 hnc.out); have HOm := HOn
                 clear HR2 HOn HCC)
              try go_wp2_with fail
              go_end0
              exact ⟨rfl, ⟨_, HR3.out, (HMI.out.fin HSA.out (by omega) (by omega) HS2.out HP2.out HS3.out HP3.out).1, (HMI.out.fin HSA.out (by omega) (by omega) HS2.out HP2.out HS3.out HP3.out).2⟩, HOm.out⟩
            · have dc1 : decide ((mid : Int) < (e : Int)) = false := by simp; omega
              have hnc : Hid (¬ (mid < e ∧ e < b)) := Lib.hid (fun h => hc1 h.1)
              first
              | (have CA := Lib.hid (rotate32 g n i m e D (cmpv bl) hn ha1 ha2 (by omega) _ HE.out)
                 clear HE
                 go_wp2_with fail
                 (with_reducible refine CA.out.mono ?_); rintro ee w1 ⟨rfl, hR1, hW1⟩
                 rw [HE1e.out] at hR1
                 have HE1 := Lib.hid hR1
                 have HO1 := Lib.hid ((HO.out.mono (T := [g]) (by simp)).trans hW1)
                 clear hR1 hW1 HO)
              | (have HE1 := Lib.hid (HE.out.of hskipA.out)
                 have HO1 := Lib.hid (HO.out.mono (T := [g]) (by simp))
                 clear HE HO)
              first
              | (have CB := Lib.hid (ih.out a i mid E1 _ (by omega) hb1 hb2 (by omega) (HSA.out.lt hbn HD.out) (HMI.out.B hb1 hb2) HE1.out (HS.out.keep HO1.out (by simp; exact fun e => hg.1 e.symm) (by simp; exact fun e => hg.2 e.symm)))
                 clear HE1
                 go_wp2_with fail
                 (with_reducible refine CB.out.mono ?_); rintro ee w2 ⟨rfl, ⟨E2, hR2, hS2, hO2⟩, hW2⟩
                 have HR2 := Lib.hid hR2; have HS2 := Lib.hid hS2; have HP2 := Lib.hid hO2; have HOn := Lib.hid (HO1.out.trans hW2)
                 clear hR2 hS2 hO2 hW2 HO1)
              | (have HR2 := HE1; have HS2 := Lib.hid (AlSo.Same.refl E1 a mid); have HP2 := Lib.hid (HMI.out.B0 hnb.out); have HOn := HO1
                 clear HE1 HO1)
              have HCC := Lib.hid (HMI.out.c HS2.out)
              first
              | (have CC := Lib.hid (ih.out mid e b _ _ (by omega) hc1 hc2 hbn (HS2.out.lt (by omega) (HSA.out.lt hbn HD.out)) (HCC.out.1 hc1 hc2) HR2.out (HS.out.keep HOn.out (by simp; exact fun e => hg.1 e.symm) (by simp; exact fun e => hg.2 e.symm)))
                 clear HR2 HCC
                 go_wp2_with fail
                 (with_reducible refine CC.out.mono ?_); rintro ee w3 ⟨rfl, ⟨E3, hR3, hS3, hO3⟩, hW3⟩
                 have HR3 := Lib.hid hR3; have HS3 := Lib.hid hS3; have HP3 := Lib.hid hO3; have HOm := Lib.hid (HOn.out.trans hW3)
                 clear hR3 hS3 hO3 hW3 HOn)
              | (have HR3 := HR2; have HS3 := Lib.hid ((fun (X : Nat → Nat) (_ : IRow _ g n X) => AlSo.Same.refl X mid b) _ HR2.out); have HP3 := Lib.hid (HCC.out.2 hnc.out); have HOm := HOn
                 clear HR2 HOn HCC)
              try go_wp2_with fail
              go_end0
              exact ⟨rfl, ⟨_, HR3.out, (HMI.out.fin HSA.out (by omega) (by omega) HS2.out HP2.out HS3.out HP3.out).1, (HMI.out.fin HSA.out (by omega) (by omega) HS2.out HP2.out HS3.out HP3.out).2⟩, HOm.out⟩
end Go.Proofs.Ytkejnhmhbmbhcaa.al
