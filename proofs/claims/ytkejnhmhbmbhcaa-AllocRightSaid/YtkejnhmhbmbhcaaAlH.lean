/-
  slices: the stable sort.
-/
import Derived.Test.YtkejnhmhbmbhcaaAlD
import Derived.Test.YtkejnhmhbmbhcaaAlG
import Derived.Test.YtkejnhmhbmbhcaaAlRuns
set_option maxHeartbeats 64000000
set_option maxRecDepth 1000000
set_option linter.unusedVariables false
set_option linter.unusedSimpArgs false
namespace Go.Proofs.Ytkejnhmhbmbhcaa.al
open Go Go.RowKit Go.BigFrame
open Go.Proofs.Ytkejnhmhbmbhcaa
theorem sym31 (g n bl bs off N cap : Nat) (s : AlScan.Sps) (hn : n ≤ 100000) (hg : g ≠ bl ∧ g ≠ bs) : ∀ k, MergeOk g n bl bs off N cap s k := by
  intro k
  induction k with
  | zero => intro a m b D w hk h1 h2; omega
  | succ k ih =>
    intro a m b D w hk h1 h2 h3 hD hm h hs
    by_cases c1 : a + 1 = m
    · subst c1
      exact symL31 g n a b bl bs off N cap s D hn h2 h3 hg hD hm w h hs
    · by_cases c2 : m + 1 = b
      · subst c2
        exact symR31 g n a m bl bs off N cap s D hn (by omega) h3 hg hD hm w h hs
      · exact symM31 g n bl bs off N cap s hn hg k ih a m b D w hk (by omega) (by omega) h3 hD hm h hs
theorem stable24 (g n bl bs off N cap : Nat) (s : AlScan.Sps) (D : Nat → Nat) (hn : n ≤ 100000) (hg : g ≠ bl ∧ g ≠ bs) (hD : ∀ i, i < n → D i < N) (hup : ∀ i j, i < j → j < n → D i < D j) (w : World) (h : IRow w g n D) (hs : SpM w bl bs off N cap s) :
    Calls Try.prog 24 #[isl g n, .int .i64 (n : Int), cmpv bl] w fun e w' => e = .returned (.tuple #[]) ∧ (∃ E, IRow w' g n E ∧ AlSo.Same D E 0 n ∧ AlSo.SortedOn (AlSo.ord s.F) E 0 n) ∧ Only [g] w w' := by
  have H := Lib.hid h; clear h
  have HS := Lib.hid hs; clear hs
  have HD := Lib.hid hD; clear hD
  have HU := Lib.hid hup; clear hup
  have HK : Hid (∀ w1, Only [g] w w1 → SpM w1 bl bs off N cap s) := Lib.hid (fun w1 ho => HS.out.keep ho (by simp; exact fun e => hg.1 e.symm) (by simp; exact fun e => hg.2 e.symm))
  have HMG := Lib.hid (sym31 g n bl bs off N cap s hn hg n)
  go_enter Try.func24, Try.ntmps24
  go_wp2_with fail
  go_loopw [7, 8] (fun u v wq => ∃ q A B : Nat, A ≤ n ∧ B ≤ A + 20 ∧ A + 20 ≤ B ∧ u = .int .i64 (A : Int) ∧ v = .int .i64 (B : Int) ∧ Hid (A = q * 20 ∧ ∃ E, IRow wq g n E ∧ AlSo.Same D E 0 n ∧ AlSo.Ph s.F E n 1 20 q ∧ Only [g] w wq)) (fun u v _ => n - (intOf u).toNat)
  case atStart => exact ⟨0, 0, 20, by omega, by omega, by omega, rfl, rfl, Lib.hid ⟨rfl, D, H.out, AlSo.Same.refl _ _ _, AlSo.Ph.start (AlSo.Runs.one HU.out), Only.refl _ _⟩⟩
  case round =>
    obtain ⟨q, A, B, hAn, hB1, hB2, rfl, rfl, hM⟩ := hrel
    obtain ⟨hA, E, hE, hsa, hph, ho⟩ := hM.out
    have hEN := hsa.lt (Nat.le_refl _) HD.out
    have hupE : ∀ i j, A ≤ i → i < j → j < n → E i < E j := fun i j h1 h2 h3 => hph.up i j (by omega) h2 h3
    by_cases hb : B ≤ n
    · have hkd : decide ((B : Int) ≤ (n : Int)) = true := by simp; omega
      obtain ⟨B2, hB3⟩ : ∃ B2, B + 20 = B2 := ⟨_, rfl⟩
      have e1 : IntKind.i64.wrap ((B : Int) + 20) = (B2 : Int) := by rw [IntKind.wrap_i64]; omega
      have C := Lib.hid (insert30 g n A B bl bs off N cap s E hn (by omega) hb hg hEN (fun i j h1 h2 h3 => hupE i j h1 h2 (by omega)) wr hE (HK.out _ ho))
      have HP := Lib.hid (And.intro hA (And.intro hsa (And.intro hph ho)))
      clear hA hE hsa hph ho hEN hupE hM
      go_wp2_with (go_at_call 30; (with_reducible refine C.out.mono ?_); rintro ee w1 ⟨rfl, ⟨E2, hR2, hS2, hO2⟩, hW2⟩)
      obtain ⟨hA, hsa, hph, ho⟩ := HP.out
      have hBA : B = q * 20 + 20 := by omega
      rw [hA, hBA] at hS2 hO2
      exact ⟨⟨q + 1, B, B2, hb, by omega, by omega, rfl, rfl, Lib.hid ⟨by omega, E2, hR2, hsa.trans (hS2.wide (Nat.zero_le _) (by omega)), hph.step (c := 20) rfl (by omega) hS2 hO2, ho.trans hW2⟩⟩, by simp [intOf]; omega⟩
    · have hkd : decide ((B : Int) ≤ (n : Int)) = false := by simp; omega
      have C := Lib.hid (insert30 g n A n bl bs off N cap s E hn hAn (Nat.le_refl _) hg hEN (fun i j h1 h2 h3 => hupE i j h1 h2 h3) wr hE (HK.out _ ho))
      have HP := Lib.hid (And.intro hA (And.intro hsa (And.intro hph ho)))
      clear hA hE hsa hph ho hEN hupE hM
      go_wp2_with (go_at_call 30; (with_reducible refine C.out.mono ?_); rintro ee w1 ⟨rfl, ⟨E2, hR2, hS2, hO2⟩, hW2⟩)
      obtain ⟨hA, hsa, hph, ho⟩ := HP.out
      rw [hA] at hS2 hO2
      have HR := Lib.hid (And.intro hR2 (And.intro (hsa.trans (hS2.wide (Nat.zero_le _) (Nat.le_refl _))) (And.intro (hph.last (by omega) (by omega) hS2 hO2) (ho.trans hW2))))
      clear HP hA hsa hph ho hR2 hS2 hO2 hW2 C H
      go_loopw [6] (fun u wq => ∃ z : Nat, 20 ≤ z ∧ z ≤ 200000 ∧ u = .int .i64 (z : Int) ∧ Hid (∃ E, IRow wq g n E ∧ AlSo.Same D E 0 n ∧ AlSo.Runs s.F E n z ∧ Only [g] w wq)) (fun u _ => n - (intOf u).toNat)
      case atStart => exact ⟨20, by omega, by omega, rfl, Lib.hid ⟨_, HR.out⟩⟩
      case round =>
        clear HR
        obtain ⟨z, hz1, hz2, rfl, hM⟩ := hrel
        by_cases hzn : z < n
        · have hzd : decide ((z : Int) < (n : Int)) = true := by simp; omega
          obtain ⟨Y, hY⟩ : ∃ Y, 2 * z = Y := ⟨_, rfl⟩
          have e1 : IntKind.i64.wrap (2 * (z : Int)) = (Y : Int) := by rw [IntKind.wrap_i64]; omega
          have e2 : IntKind.i64.wrap ((z : Int) * 2) = (Y : Int) := by rw [IntKind.wrap_i64]; omega
          have hY1 : Y ≤ z + z := by omega
          have hY2 : z + z ≤ Y := by omega
          have HY := Lib.hid hY
          clear hY
          go_wp2_with fail
          go_loopw [7, 8] (fun u v wq => ∃ q A B : Nat, A ≤ n ∧ B ≤ A + Y ∧ A + Y ≤ B ∧ u = .int .i64 (A : Int) ∧ v = .int .i64 (B : Int) ∧ Hid (A = q * (2 * z) ∧ ∃ E, IRow wq g n E ∧ AlSo.Same D E 0 n ∧ AlSo.Ph s.F E n z (2 * z) q ∧ Only [g] w wq)) (fun u v _ => n - (intOf u).toNat)
          case atStart =>
            obtain ⟨E, hE, hsa, hru, ho⟩ := hM.out
            exact ⟨0, 0, Y, by omega, by omega, by omega, rfl, rfl, Lib.hid ⟨by simp, E, hE, hsa, AlSo.Ph.start hru, ho⟩⟩
          case round =>
            clear hM
            obtain ⟨q, A, B, hAn, hB1, hB2, rfl, rfl, hM⟩ := hrel
            obtain ⟨hA, E, hE, hsa, hph, ho⟩ := hM.out
            have hEN := hsa.lt (Nat.le_refl _) HD.out
            obtain ⟨M, hMe⟩ : ∃ M, A + z = M := ⟨_, rfl⟩
            have e3 : IntKind.i64.wrap ((A : Int) + (z : Int)) = (M : Int) := by rw [IntKind.wrap_i64]; omega
            have hM1 : M ≤ A + z := by omega
            have hM2 : A + z ≤ M := by omega
            by_cases hb : B ≤ n
            · have hkd : decide ((B : Int) ≤ (n : Int)) = true := by simp; omega
              obtain ⟨B2, hB3⟩ : ∃ B2, B + Y = B2 := ⟨_, rfl⟩
              have e4 : IntKind.i64.wrap ((B : Int) + (Y : Int)) = (B2 : Int) := by rw [IntKind.wrap_i64]; omega
              have hB4 : B2 ≤ B + Y := by omega
              have hB5 : B + Y ≤ B2 := by omega
              have hmg : AlSo.Mrg s.F E A M B := by
                have := hph.mrg (b := B) (by rw [← hA]; omega) (by rw [← hA, HY.out]; omega) hb
                rw [← hA, hMe] at this; exact this
              have C := Lib.hid (HMG.out A M B E wr (by omega) (by omega) (by omega) hb hEN hmg hE (HK.out _ ho))
              have HP := Lib.hid (And.intro hA (And.intro hsa (And.intro hph ho)))
              clear hA hE hsa hph ho hEN hM hmg hMe hB3
              go_wp2_with (go_at_call 31; (with_reducible refine C.out.mono ?_); rintro ee w1 ⟨rfl, ⟨E2, hR2, hS2, hO2⟩, hW2⟩)
              obtain ⟨hA, hsa, hph, ho⟩ := HP.out
              have hBA : B = q * (2 * z) + 2 * z := by rw [← hA, HY.out]; omega
              rw [hA, hBA] at hS2 hO2
              exact ⟨⟨q + 1, B, B2, hb, by omega, by omega, rfl, rfl, Lib.hid ⟨by rw [hBA]; exact (Nat.succ_mul q (2 * z)).symm, E2, hR2, hsa.trans (hS2.wide (Nat.zero_le _) (by omega)), hph.step (c := 2) rfl (by omega) hS2 hO2, ho.trans hW2⟩⟩, by simp [intOf]; omega⟩
            · have hkd : decide ((B : Int) ≤ (n : Int)) = false := by simp; omega
              by_cases hm : M < n
              · have hmd : decide ((M : Int) < (n : Int)) = true := by simp; omega
                have hmg : AlSo.Mrg s.F E A M n := by
                  have := hph.mrg (b := n) (by rw [← hA]; omega) (by rw [← hA, HY.out]; omega) (Nat.le_refl _)
                  rw [← hA, hMe] at this; exact this
                have C := Lib.hid (HMG.out A M n E wr (by omega) (by omega) hm (Nat.le_refl _) hEN hmg hE (HK.out _ ho))
                have HP := Lib.hid (And.intro hA (And.intro hsa (And.intro hph ho)))
                clear hA hE hsa hph ho hEN hM hmg hMe
                go_wp2_with (go_at_call 31; (with_reducible refine C.out.mono ?_); rintro ee w1 ⟨rfl, ⟨E2, hR2, hS2, hO2⟩, hW2⟩)
                obtain ⟨hA, hsa, hph, ho⟩ := HP.out
                rw [hA] at hS2 hO2
                have hla := hph.last (by omega) (by rw [← hA, HY.out]; omega) hS2 hO2
                rw [HY.out] at hla
                exact ⟨⟨Y, by omega, by omega, rfl, Lib.hid ⟨E2, hR2, hsa.trans (hS2.wide (Nat.zero_le _) (Nat.le_refl _)), hla, ho.trans hW2⟩⟩, by simp [intOf]; omega⟩
              · have hmd : decide ((M : Int) < (n : Int)) = false := by simp; omega
                have hla := hph.last (by omega) (by rw [← hA, HY.out]; omega) (AlSo.Same.refl E _ _) (hph.short (by rw [← hA]; omega))
                rw [HY.out] at hla
                have HP := Lib.hid (And.intro hE (And.intro hsa (And.intro hla ho)))
                clear hA hE hsa hph ho hEN hM hMe hla
                go_wp2_with fail
                exact ⟨⟨Y, by omega, by omega, rfl, Lib.hid ⟨E, HP.out⟩⟩, by simp [intOf]; omega⟩
        · have hzd : decide ((z : Int) < (n : Int)) = false := by simp; omega
          go_wp2_with fail
          go_end0
          obtain ⟨E, hE, hsa, hru, ho⟩ := hM.out
          exact ⟨rfl, ⟨E, hE, hsa, hru.all (by omega)⟩, ho⟩
theorem sort15 (g n bl bs off N cap : Nat) (s : AlScan.Sps) (D : Nat → Nat) (hn : n ≤ 100000) (hg : g ≠ bl ∧ g ≠ bs) (hD : ∀ i, i < n → D i < N) (hup : ∀ i j, i < j → j < n → D i < D j) (w : World) (h : IRow w g n D) (hs : SpM w bl bs off N cap s) :
    Calls Try.prog 15 #[isl g n, cmpv bl] w fun e w' => e = .returned (.tuple #[]) ∧ (∃ E, IRow w' g n E ∧ AlSo.Same D E 0 n ∧ AlSo.SortedOn (AlSo.ord s.F) E 0 n) ∧ Only [g] w w' := by
  have C := Lib.hid (stable24 g n bl bs off N cap s D hn hg hD hup w h hs)
  clear h hs hD hup
  go_enter Try.func15, Try.ntmps15
  go_wp2_with (go_at_call 24; (with_reducible refine C.out.mono ?_); rintro ee w1 ⟨rfl, hX, hW⟩)
  go_end0
  exact ⟨rfl, hX, hW⟩
end Go.Proofs.Ytkejnhmhbmbhcaa.al
