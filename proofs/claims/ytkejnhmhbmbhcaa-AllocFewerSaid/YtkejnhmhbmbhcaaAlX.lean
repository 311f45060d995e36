/-
  AllocFewer: the walk.
-/
import Derived.Test.YtkejnhmhbmbhcaaAlW
import Derived.Test.YtkejnhmhbmbhcaaAlK0
import Derived.Test.YtkejnhmhbmbhcaaAlRuns
set_option maxHeartbeats 64000000
set_option maxRecDepth 1000000
set_option linter.unusedVariables false
set_option linter.unusedSimpArgs false
namespace Go.Proofs.Ytkejnhmhbmbhcaa.al
open Go Go.RowKit Go.BigFrame
open Go.Proofs.Ytkejnhmhbmbhcaa
theorem Srt.uniq {s : AlScan.Sps} {N : Nat} {E E' : Nat → Nat} (h : Srt s N E) (h' : Srt s N E') : E = E' := by
  -- both are the sorted row of the same things
  have hs : AlSo.Same E E' 0 N := by
    refine ⟨fun i hi => ?_, fun i h1 h2 => ?_, fun j h1 h2 => ?_⟩
    · rw [h.same.out i hi, h'.same.out i hi]
    · obtain ⟨i', _, hi', e⟩ := h.same.fro i h1 h2
      obtain ⟨j, j1, j2, e'⟩ := h'.same.to i' (by omega) hi'
      exact ⟨j, j1, j2, by rw [e', e]⟩
    · obtain ⟨i', _, hi', e⟩ := h'.same.fro j h1 h2
      obtain ⟨i, i1, i2, e'⟩ := h.same.to i' (by omega) hi'
      exact ⟨i, i1, i2, by rw [e, e']⟩
  funext i
  exact (AlSo.sorted_unique (AlSo.ord_ok s.F) hs h.sorted h'.sorted i).symm
theorem scanF {lv : Value} {N R : Nat} {s : AlScan.Sps} {w : World} (h : SpV w lv N s) (hf : Fine s N) (hN : N ≤ 40) (hR : R ≤ 16) : Calls Try.prog 7 #[lv, .int .i64 (R : Int)] w fun e w' => Below w.heap.size w w' ∧ ScanG w R N s e w' :=
  (scan7_ok lv N R s w h (by omega) hR).mono fun e w' ⟨h1, h2⟩ => ⟨h1, (h2.resolve_left (fun h => h.1 hf.good)).2⟩
theorem PlM.below {w w' : World} {ob N : Nat} {V reg spill : Nat → Int} (h : PlM w ob N V reg spill) (hl : ob < w.heap.size) (ho : Below w.heap.size w w') : PlM w' ob N V reg spill :=
  h.keep hl (S := []) ⟨ho.os, ho.tape, ho.output, ho.size, fun c hc _ => ho.block c hc⟩ (by simp)
theorem cs_le (f : Nat → Int) : ∀ n, AlScan.cs f n ≤ n
  | 0 => Nat.le_refl _
  | n + 1 => by have := cs_le f n; simp only [AlScan.cs]; split <;> omega
theorem law4 (o : Option Addr) (N0 cap0 : Nat) (X : Nat → Int) (z : Int) (w : World) (h : 0 < N0 → ∃ g off, o = some ⟨g, off, none⟩ ∧ ∀ i, i < N0 → w.cell? ⟨g, off + i, none⟩ = some (.int .i64 (X i))) :
    Calls Try.prog 4 #[.slice o N0 cap0, .int .i64 z] w fun e w' => e = .returned (.bool true) ∧ Below w.heap.size w w' := by
  have C11 := Lib.hid (fine11 o N0 cap0 X w h)
  clear h
  go_enter Try.func4, Try.ntmps4
  go_wp2_with fail
  (with_reducible refine C11.out.mono ?_)
  rintro ee w1 ⟨hb1, lv, n, s, hn, hsv, hf, rfl⟩
  go_wp2_with fail
  (with_reducible refine (w15 _ _).mono ?_)
  rintro ee w1' ⟨⟨R, hR, rfl⟩, rfl⟩
  go_wp2_with fail
  (with_reducible refine (scanF (R := R) hsv hf hn (by omega)).mono ?_)
  rintro ee w2 ⟨hb2, ob, E, a, hE, hA, hP, ho1, ho2, rfl⟩
  go_wp2_with fail
  have hsv2 := hsv.below hb2
  have cp : Calls Try.prog 7 #[lv, .int .i64 ((R : Int) + 1)] w2 fun e w' => Below w2.heap.size w2 w' ∧ ScanG w2 (R + 1) n s e w' := scanF (R := R + 1) hsv2 hf hn (by omega)
  (with_reducible refine cp.mono ?_)
  clear cp
  rintro ee w3 ⟨hb3, ob', E', b, hE', hA', hP', ho1', ho2', rfl⟩
  have hEE := hE'.uniq hE
  subst hEE
  have ho := hE.ordr
  have hF : ∀ g, g < n → s.F g ≤ s.T g := fun g hg => (hf.t g hg).1
  have h0 : ∀ g, g < n → 0 ≤ s.F g := fun g hg => (hf.f g hg).1
  have hcnt : b.cnt ≤ a.cnt := (AlScan.dom_all ho hF h0 n (Nat.le_refl _) a b hA.st hA'.st).cnt
  have hcs := AlScan.cs_all ho hF h0 n (Nat.le_refl _) a hA.st
  have heach := hA.each ho
  obtain ⟨ca, hca⟩ : ∃ ca, a.cnt = ca := ⟨_, rfl⟩
  obtain ⟨cb, hcb⟩ : ∃ cb, b.cnt = cb := ⟨_, rfl⟩
  rw [hca, hcb] at hcnt
  rw [hca] at hcs
  simp only [hca, hcb]
  have HP := Lib.hid (hP.below ho2 hb3)
  have HS := Lib.hid (hsv2.below hb3)
  have hbel : Below w.heap.size w w3 := (hb1.trans (hb2.mono hb1.size)).trans (hb3.mono (by have := hb1.size; have := hb2.size; omega))
  have HB := Lib.hid hbel
  have HE := Lib.hid heach
  have HC := Lib.hid hcs
  have d1 : decide (ca < cb) = false := by simp; omega
  have d1' : decide ((ca : Int) < (cb : Int)) = false := by simp; omega
  obtain ⟨o', cap', rfl, _⟩ := HS.out
  clear hb1 hb2 hb3 hsv hsv2 hf hP hP' hA hA' hE hE' ho hF h0 hcs heach hca hcb hbel
  go_wp2_with fail
  go_loopw [12, 13] (fun v u wq => ∃ i : Nat, i ≤ n ∧ u = .int .i64 (i : Int) ∧ v = .int .i64 (AlScan.cs a.spill i : Int) ∧ Hid (∃ m, wq = w3.drewN m)) (fun _ u _ => n - (intOf u).toNat)
  case atStart => exact ⟨0, by omega, rfl, rfl, Lib.hid ⟨0, rfl⟩⟩
  case round =>
    obtain ⟨i, hi, rfl, rfl, hM⟩ := hrel
    obtain ⟨m, rfl⟩ := hM.out
    obtain ⟨kc, hkc⟩ : ∃ kc, AlScan.cs a.spill i = kc := ⟨_, rfl⟩
    simp only [hkc]
    have hkn : kc ≤ 40 := by have := cs_le a.spill i; omega
    by_cases hin : i < n
    · have b1 : (i : Int) < (n : Int) := by omega
      obtain ⟨o2, cap2, he, hsp⟩ := HS.out
      simp only [Value.slice.injEq, true_and] at he
      obtain ⟨rfl, rfl⟩ := he
      obtain ⟨bs, off, rfl, hsw⟩ := hsp (by omega)
      have cv := hsw.v i hin
      have p0 := HP.out.v i hin
      have p1 := HP.out.r i hin
      have p2 := HP.out.s i hin
      have HK := Lib.hid hkc
      rcases HE.out i hin with ⟨e1, e2, e3⟩ | ⟨r, hr, e1, e2⟩
      · obtain ⟨q, hq⟩ : ∃ q : Nat, a.spill i = (q : Int) := ⟨(a.spill i).toNat, by omega⟩
        have HQ := Lib.hid hq
        rw [e1] at p1
        rw [hq] at p2
        have d2 : decide ((R : Int) ≤ -1) = false := by simp; omega
        have d3 : decide ((0 : Int) ≤ (q : Int)) = true := by simp
        have d4 : decide ((0 : Int) ≤ -1) = false := by decide
        clear hM hkc hsw hsp e1 e2 e3 hq
        go_wp2_with fail
        go_quiet (fail)
        go_wp2_with fail
        refine ⟨⟨i + 1, hin, by first | rfl | simp, ?_, Lib.hid ⟨_, rfl⟩⟩, by simp [intOf]; omega⟩
        simp only [AlScan.cs, HK.out, HQ.out]
        rw [if_pos (by omega)]
        simp
      · rw [e1] at p1
        rw [e2] at p2
        have HQ := Lib.hid e2
        have d2 : decide ((R : Int) ≤ (r : Int)) = false := by simp; omega
        have d2' : decide (R ≤ r) = false := by simp; omega
        have d3 : decide ((0 : Int) ≤ (r : Int)) = true := by simp
        have d4 : decide ((0 : Int) ≤ -1) = false := by decide
        clear hM hkc hsw hsp e1 e2
        go_wp2_with fail
        go_quiet (fail)
        go_wp2_with fail
        refine ⟨⟨i + 1, hin, by first | rfl | simp, ?_, Lib.hid ⟨_, rfl⟩⟩, by simp [intOf]; omega⟩
        simp only [AlScan.cs, HK.out, HQ.out]
        rw [if_neg (by omega)]
        simp
    · have b1 : ¬ (i : Int) < (n : Int) := by omega
      obtain rfl : n = i := by omega
      have hkk : kc = ca := by rw [← hkc]; exact HC.out
      subst hkk
      clear hM hkc
      go_wp2_with (go_at_call 10; (with_reducible refine (known10 _).mono ?_); rintro ee w4 ⟨rfl, hb4⟩)
      go_ret
      refine ⟨rfl, HB.out.trans ?_⟩
      have := (bel_drewN (Below.refl w3.heap.size w3) m).trans hb4
      exact this.mono HB.out.size
end Go.Proofs.Ytkejnhmhbmbhcaa.al
