/-
  slices: a merge of two rows where one of them is of one thing.
-/
import Derived.Test.YtkejnhmhbmbhcaaAlD
import Derived.Test.YtkejnhmhbmbhcaaAlRuns
set_option maxHeartbeats 64000000
set_option maxRecDepth 1000000
set_option linter.unusedVariables false
set_option linter.unusedSimpArgs false
namespace Go.Proofs.Ytkejnhmhbmbhcaa.al
open Go Go.RowKit Go.BigFrame
open Go.Proofs.Ytkejnhmhbmbhcaa
theorem symL31 (g n a b bl bs off N cap : Nat) (s : AlScan.Sps) (D : Nat → Nat) (hn : n ≤ 100000) (hab : a + 1 < b) (hbn : b ≤ n) (hg : g ≠ bl ∧ g ≠ bs) (hD : ∀ i, i < n → D i < N) (hm : AlSo.Mrg s.F D a (a + 1) b) (w : World) (h : IRow w g n D) (hs : SpM w bl bs off N cap s) :
    Calls Try.prog 31 #[isl g n, .int .i64 (a : Int), .int .i64 ((a + 1 : Nat) : Int), .int .i64 (b : Int), cmpv bl] w fun e w' => e = .returned (.tuple #[]) ∧ (∃ E, IRow w' g n E ∧ AlSo.Same D E a b ∧ AlSo.SortedOn (AlSo.ord s.F) E a b) ∧ Only [g] w w' := by
  have H := Lib.hid h; clear h
  have HS := Lib.hid hs; clear hs
  have HD := Lib.hid hD; clear hD
  have HM := Lib.hid hm; clear hm
  obtain ⟨m, hma⟩ : ∃ m, a + 1 = m := ⟨_, rfl⟩
  rw [hma]
  have e1 : IntKind.i64.wrap ((m : Int) - (a : Int)) = 1 := by rw [IntKind.wrap_i64]; omega
  go_enter Try.func31, Try.ntmps31
  go_wp2_with fail
  go_loopw [10, 11] (fun u v wq => ∃ i j : Nat, m ≤ i ∧ i ≤ j ∧ j ≤ b ∧ u = .int .i64 (i : Int) ∧ v = .int .i64 (j : Int) ∧ Hid (IRow wq g n D ∧ (∀ c, m ≤ c → c < i → s.F (D c) < s.F (D a)) ∧ (∀ c, j ≤ c → c < b → s.F (D a) ≤ s.F (D c)) ∧ Only [] w wq)) (fun u v _ => (intOf v).toNat - (intOf u).toNat)
  case atStart => exact ⟨m, b, Nat.le_refl _, by omega, Nat.le_refl _, rfl, rfl, Lib.hid ⟨H.out, fun c h1 h2 => by omega, fun c h1 h2 => by omega, Only.refl _ _⟩⟩
  case round =>
    obtain ⟨i, j, hmi, hij, hjb, rfl, rfl, hM⟩ := hrel
    obtain ⟨hE, hlo, hhi, ho⟩ := hM.out
    have HE := Lib.hid hE; have HL := Lib.hid hlo; have HH := Lib.hid hhi; have HO := Lib.hid ho
    clear hE hlo hhi ho hM
    by_cases hlt : i < j
    · have hkd : decide ((i : Int) < (j : Int)) = true := by simp; omega
      obtain ⟨k, hk⟩ : ∃ k, (i + j) / 2 = k := ⟨_, rfl⟩
      obtain ⟨q, hq⟩ : ∃ q, i + j = q := ⟨_, rfl⟩
      have e2 : IntKind.i64.wrap ((i : Int) + (j : Int)) = (q : Int) := by rw [IntKind.wrap_i64]; omega
      have e3 : IntKind.u64.wrap (q : Int) = (q : Int) := by rw [IntKind.wrap_u64]; omega
      have e4 : IntKind.i64.wrap ((q : Int) / 2) = (k : Int) := by rw [IntKind.wrap_i64]; omega
      have c1 := HE.out.cell (i := k) (by omega)
      have c2 := HE.out.cell (i := a) (by omega)
      have b1 : (k : Int) < (n : Int) := by omega
      have b2 : (a : Int) < (n : Int) := by omega
      have hsp := HS.out.keep HO.out (by simp) (by simp)
      have C := fun m : Nat => cmp16 bl bs off N cap s (D k) (D a) (HD.out _ (by omega)) (HD.out _ (by omega)) (wr.drewN m) (hsp.drewN m)
      have e5 : IntKind.i64.wrap ((k : Int) + 1) = ((k + 1 : Nat) : Int) := by rw [IntKind.wrap_i64]; omega
      by_cases hc : s.F (D k) < s.F (D a)
      · have hv : cmpI (s.F (D k)) (s.F (D a)) = -1 := if_pos hc
        simp only [hv] at C
        have HC := Lib.hid C; clear C hsp hv
        go_wp2_with fail
        go_quiet ((go_at_call 16; refine Calls.quiet_of (HC.out _)))
        go_wp2_with fail
        refine ⟨⟨k + 1, j, by omega, by omega, hjb, by go_num, rfl, Lib.hid ⟨HE.out.drewN _, fun c h1 h2 => ?_, HH.out, HO.out.trans (only_drewN _ _ _)⟩⟩, by simp [intOf]; omega⟩
        have := AlSo.sorted_le (hma ▸ HM.out).R h1 (show c ≤ k by omega) (by omega)
        omega
      · obtain ⟨v, hv, hv2⟩ : ∃ v, cmpI (s.F (D k)) (s.F (D a)) = v ∧ decide (v < 0) = false := by
          refine ⟨_, rfl, ?_⟩
          unfold cmpI
          rw [if_neg hc]
          split <;> rfl
        simp only [hv] at C
        have HC := Lib.hid C; clear C hsp hv
        go_wp2_with fail
        go_quiet ((go_at_call 16; refine Calls.quiet_of (HC.out _)))
        go_wp2_with fail
        refine ⟨⟨i, k, hmi, by omega, by omega, rfl, rfl, Lib.hid ⟨HE.out.drewN _, HL.out, fun c h1 h2 => ?_, HO.out.trans (only_drewN _ _ _)⟩⟩, by simp [intOf]; omega⟩
        have := AlSo.sorted_le (hma ▸ HM.out).R (show m ≤ k by omega) h1 h2
        omega
    · have hkd : decide ((i : Int) < (j : Int)) = false := by simp; omega
      obtain rfl : i = j := by omega
      have e2 : IntKind.i64.wrap ((i : Int) - 1) = ((i - 1 : Nat) : Int) := by rw [IntKind.wrap_i64]; omega
      go_wp2_with fail
      go_loopw [13] (fun u wq => ∃ k : Nat, a ≤ k ∧ k + 1 ≤ i ∧ u = .int .i64 (k : Int) ∧ Hid (IRow wq g n (AlSo.rot D a (a + 1) (k + 1)) ∧ Only [g] w wq)) (fun u _ => i - (intOf u).toNat)
      case atStart => exact ⟨a, Nat.le_refl _, by omega, rfl, Lib.hid ⟨HE.out.of (AlSo.rot_up_zero D a).symm, HO.out.mono (by simp)⟩⟩
      case round =>
        clear HE HO
        obtain ⟨k, hak, hki, rfl, hM⟩ := hrel
        obtain ⟨hE, ho⟩ := hM.out
        have HE := Lib.hid hE; have HO := Lib.hid ho
        clear hE ho hM
        by_cases hk1 : k < i - 1
        · have hkd2 : decide ((k : Int) < ((i - 1 : Nat) : Int)) = true := by simp; omega
          obtain ⟨E, hEe⟩ : ∃ E, AlSo.rot D a (a + 1) (k + 1) = E := ⟨_, rfl⟩
          have hstep := AlSo.rot_up_succ D hak
          rw [hEe] at HE hstep
          have c1 := HE.out.cell (i := k) (by omega)
          have c2 := HE.out.cell (i := k + 1) (by omega)
          have f1 := HE.out.froz k
          have f2 := HE.out.froz (k + 1)
          have e3 : IntKind.i64.wrap ((k : Int) + 1) = ((k + 1 : Nat) : Int) := by rw [IntKind.wrap_i64]; omega
          have b1 : (k : Int) < (n : Int) := by omega
          have b2 : ((k + 1 : Nat) : Int) < (n : Int) := by omega
          go_wp2_with fail
          go_region
          have hr : IRow (((wr.setCell ⟨g, k, none⟩ (.int .i64 (E (k + 1) : Int))).setCell ⟨g, k + 1, none⟩ (.int .i64 (E k : Int))).drew) g n (AlSo.rot D a (a + 1) (k + 1 + 1)) :=
            (((HE.out.set k (E (k + 1))).set (k + 1) (E k)).drewN 1).of hstep
          have ho : Only [g] w (((wr.setCell ⟨g, k, none⟩ (.int .i64 (E (k + 1) : Int))).setCell ⟨g, k + 1, none⟩ (.int .i64 (E k : Int))).drew) := ((HO.out.set _ (by simp)).set _ (by simp)).drew
          have HR := Lib.hid (And.intro hr ho); clear hr ho
          generalize ((wr.setCell ⟨g, k, none⟩ (.int .i64 (E (k + 1) : Int))).setCell ⟨g, k + 1, none⟩ (.int .i64 (E k : Int))).drew = w2 at *
          go_wp2_with fail
          exact ⟨⟨k + 1, by omega, by omega, by go_num, HR⟩, by simp [intOf]; omega⟩
        · have hkd2 : decide ((k : Int) < ((i - 1 : Nat) : Int)) = false := by simp; omega
          obtain ⟨K, hK⟩ : ∃ K, k + 1 = K := ⟨_, rfl⟩
          go_wp2_with fail
          (try simp only [Exit.inBlock, Exit.then]); refine bodyPost_ret (results_none rfl _ _ _) rfl ?_
          have hki2 : k + 1 = i := by omega
          rw [hki2] at HE
          have := AlSo.Mrg.left (i := i) HM.out (by omega) (by omega) (by omega) (by rw [hma]; exact HL.out) HH.out
          exact ⟨rfl, ⟨_, HE.out, this.1, this.2⟩, HO.out⟩
end Go.Proofs.Ytkejnhmhbmbhcaa.al
namespace Go.Proofs.Ytkejnhmhbmbhcaa.al
open Go Go.RowKit Go.BigFrame
open Go.Proofs.Ytkejnhmhbmbhcaa
theorem symR31 (g n a m bl bs off N cap : Nat) (s : AlScan.Sps) (D : Nat → Nat) (hn : n ≤ 100000) (hab : a + 1 < m) (hbn : m + 1 ≤ n) (hg : g ≠ bl ∧ g ≠ bs) (hD : ∀ i, i < n → D i < N) (hm : AlSo.Mrg s.F D a m (m + 1)) (w : World) (h : IRow w g n D) (hs : SpM w bl bs off N cap s) :
    Calls Try.prog 31 #[isl g n, .int .i64 (a : Int), .int .i64 (m : Int), .int .i64 ((m + 1 : Nat) : Int), cmpv bl] w fun e w' => e = .returned (.tuple #[]) ∧ (∃ E, IRow w' g n E ∧ AlSo.Same D E a (m + 1) ∧ AlSo.SortedOn (AlSo.ord s.F) E a (m + 1)) ∧ Only [g] w w' := by
  have H := Lib.hid h; clear h
  have HS := Lib.hid hs; clear hs
  have HD := Lib.hid hD; clear hD
  have HM := Lib.hid hm; clear hm
  obtain ⟨b, hmb⟩ : ∃ b, m + 1 = b := ⟨_, rfl⟩
  rw [hmb]
  obtain ⟨l, hl⟩ : ∃ l, m - a = l := ⟨_, rfl⟩
  have e0 : IntKind.i64.wrap ((m : Int) - (a : Int)) = (l : Int) := by rw [IntKind.wrap_i64]; omega
  have d0 : ((l : Int) == 1) = false := by simp; omega
  have e1 : IntKind.i64.wrap ((b : Int) - (m : Int)) = 1 := by rw [IntKind.wrap_i64]; omega
  go_enter Try.func31, Try.ntmps31
  go_wp2_with fail
  go_loopw [14, 15] (fun u v wq => ∃ i j : Nat, a ≤ i ∧ i ≤ j ∧ j ≤ m ∧ u = .int .i64 (i : Int) ∧ v = .int .i64 (j : Int) ∧ Hid (IRow wq g n D ∧ (∀ c, a ≤ c → c < i → s.F (D c) ≤ s.F (D m)) ∧ (∀ c, j ≤ c → c < m → s.F (D m) < s.F (D c)) ∧ Only [] w wq)) (fun u v _ => (intOf v).toNat - (intOf u).toNat)
  case atStart => exact ⟨a, m, Nat.le_refl _, by omega, Nat.le_refl _, rfl, rfl, Lib.hid ⟨H.out, fun c h1 h2 => by omega, fun c h1 h2 => by omega, Only.refl _ _⟩⟩
  case round =>
    obtain ⟨i, j, hmi, hij, hjb, rfl, rfl, hM⟩ := hrel
    obtain ⟨hE, hlo, hhi, ho⟩ := hM.out
    have HE := Lib.hid hE; have HL := Lib.hid hlo; have HH := Lib.hid hhi; have HO := Lib.hid ho
    clear hE hlo hhi ho hM
    by_cases hlt : i < j
    · have hkd : decide ((i : Int) < (j : Int)) = true := by simp; omega
      obtain ⟨k, hk⟩ : ∃ k, (i + j) / 2 = k := ⟨_, rfl⟩
      obtain ⟨q, hq⟩ : ∃ q, i + j = q := ⟨_, rfl⟩
      have e2 : IntKind.i64.wrap ((i : Int) + (j : Int)) = (q : Int) := by rw [IntKind.wrap_i64]; omega
      have e3 : IntKind.u64.wrap (q : Int) = (q : Int) := by rw [IntKind.wrap_u64]; omega
      have e4 : IntKind.i64.wrap ((q : Int) / 2) = (k : Int) := by rw [IntKind.wrap_i64]; omega
      have c1 := HE.out.cell (i := m) (by omega)
      have c2 := HE.out.cell (i := k) (by omega)
      have b1 : (m : Int) < (n : Int) := by omega
      have b2 : (k : Int) < (n : Int) := by omega
      have hsp := HS.out.keep HO.out (by simp) (by simp)
      have C := fun x : Nat => cmp16 bl bs off N cap s (D m) (D k) (HD.out _ (by omega)) (HD.out _ (by omega)) (wr.drewN x) (hsp.drewN x)
      have e5 : IntKind.i64.wrap ((k : Int) + 1) = ((k + 1 : Nat) : Int) := by rw [IntKind.wrap_i64]; omega
      by_cases hc : s.F (D m) < s.F (D k)
      · have hv : cmpI (s.F (D m)) (s.F (D k)) = -1 := if_pos hc
        simp only [hv] at C
        have HC := Lib.hid C; clear C hsp hv
        go_wp2_with fail
        go_quiet ((go_at_call 16; refine Calls.quiet_of (HC.out _)))
        go_wp2_with fail
        refine ⟨⟨i, k, hmi, by omega, by omega, rfl, rfl, Lib.hid ⟨HE.out.drewN _, HL.out, fun c h1 h2 => ?_, HO.out.trans (only_drewN _ _ _)⟩⟩, by simp [intOf]; omega⟩
        have := AlSo.sorted_le HM.out.L (show a ≤ k by omega) h1 h2
        omega
      · obtain ⟨v, hv, hv2⟩ : ∃ v, cmpI (s.F (D m)) (s.F (D k)) = v ∧ decide (v < 0) = false := by
          refine ⟨_, rfl, ?_⟩
          unfold cmpI
          rw [if_neg hc]
          split <;> rfl
        simp only [hv] at C
        have HC := Lib.hid C; clear C hsp hv
        go_wp2_with fail
        go_quiet ((go_at_call 16; refine Calls.quiet_of (HC.out _)))
        go_wp2_with fail
        refine ⟨⟨k + 1, j, by omega, by omega, hjb, by go_num, rfl, Lib.hid ⟨HE.out.drewN _, fun c h1 h2 => ?_, HH.out, HO.out.trans (only_drewN _ _ _)⟩⟩, by simp [intOf]; omega⟩
        have := AlSo.sorted_le HM.out.L h1 (show c ≤ k by omega) (by omega)
        omega
    · have hkd : decide ((i : Int) < (j : Int)) = false := by simp; omega
      obtain rfl : i = j := by omega
      go_wp2_with fail
      go_loopw [17] (fun u wq => ∃ k : Nat, i ≤ k ∧ k ≤ m ∧ u = .int .i64 (k : Int) ∧ Hid (IRow wq g n (AlSo.rot D k m (m + 1)) ∧ Only [g] w wq)) (fun u _ => (intOf u).toNat)
      case atStart => exact ⟨m, hjb, Nat.le_refl _, rfl, Lib.hid ⟨HE.out.of (AlSo.rot_dn_zero D m).symm, HO.out.mono (by simp)⟩⟩
      case round =>
        clear HE HO
        obtain ⟨k, hik, hkm, rfl, hM⟩ := hrel
        obtain ⟨hE, ho⟩ := hM.out
        have HE := Lib.hid hE; have HO := Lib.hid ho
        clear hE ho hM
        by_cases hk1 : i < k
        · have hkd2 : decide ((i : Int) < (k : Int)) = true := by simp; omega
          obtain ⟨p, hp⟩ : ∃ p, k = p + 1 := ⟨k - 1, by omega⟩
          obtain ⟨E, hEe⟩ : ∃ E, AlSo.rot D k m (m + 1) = E := ⟨_, rfl⟩
          have hstep := AlSo.rot_dn_succ D (m := m) (k := p) (by omega)
          rw [← hp, hEe] at hstep
          rw [hEe] at HE
          have hp1 : k ≤ p + 1 := by omega
          have hp2 : p + 1 ≤ k := by omega
          clear hp
          have c1 := HE.out.cell (i := k) (by omega)
          have c2 := HE.out.cell (i := p) (by omega)
          have f1 := HE.out.froz k
          have f2 := HE.out.froz p
          have e3 : IntKind.i64.wrap ((k : Int) - 1) = (p : Int) := by rw [IntKind.wrap_i64]; omega
          have b1 : (k : Int) < (n : Int) := by omega
          have b2 : (p : Int) < (n : Int) := by omega
          go_wp2_with fail
          go_region
          have hr : IRow (((wr.setCell ⟨g, k, none⟩ (.int .i64 (E p : Int))).setCell ⟨g, p, none⟩ (.int .i64 (E k : Int))).drew) g n (AlSo.rot D p m (m + 1)) :=
            (((HE.out.set k (E p)).set p (E k)).drewN 1).of hstep
          have ho : Only [g] w (((wr.setCell ⟨g, k, none⟩ (.int .i64 (E p : Int))).setCell ⟨g, p, none⟩ (.int .i64 (E k : Int))).drew) := ((HO.out.set _ (by simp)).set _ (by simp)).drew
          have HR := Lib.hid (And.intro hr ho); clear hr ho
          generalize ((wr.setCell ⟨g, k, none⟩ (.int .i64 (E p : Int))).setCell ⟨g, p, none⟩ (.int .i64 (E k : Int))).drew = w2 at *
          go_wp2_with fail
          exact ⟨⟨p, by omega, by omega, rfl, HR⟩, by simp [intOf]; omega⟩
        · have hkd2 : decide ((i : Int) < (k : Int)) = false := by simp; omega
          go_wp2_with fail
          (try simp only [Exit.inBlock, Exit.then]); refine bodyPost_ret (results_none rfl _ _ _) rfl ?_
          have hki2 : k = i := by omega
          rw [hki2] at HE
          have := AlSo.Mrg.right (i := i) (by first | exact HM.out | (rw [hmb]; exact HM.out)) (by omega) (by omega) HL.out HH.out
          rw [hmb] at this
          try rw [hmb] at HE
          exact ⟨rfl, ⟨_, HE.out, this.1, this.2⟩, HO.out⟩
end Go.Proofs.Ytkejnhmhbmbhcaa.al
