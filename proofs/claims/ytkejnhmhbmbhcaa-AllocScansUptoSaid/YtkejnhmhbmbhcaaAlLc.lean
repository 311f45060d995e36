/-
  AllocScans: the walk.
-/
import Derived.Test.YtkejnhmhbmbhcaaAlZ
import Derived.Test.YtkejnhmhbmbhcaaAlPl
import Derived.Test.YtkejnhmhbmbhcaaAlX
set_option maxHeartbeats 64000000
set_option maxRecDepth 1000000
set_option linter.unusedVariables false
set_option linter.unusedSimpArgs false
namespace Go.Proofs.Ytkejnhmhbmbhcaa.al
open Go Go.RowKit Go.BigFrame
open Go.Proofs.Ytkejnhmhbmbhcaa
theorem ref8_arg (lv : Value) (z : Int) (hz : z < 0 ∨ 16 < z) (w : World) :
    Calls Try.prog 8 #[lv, .int .i64 z] w fun e w' => e = refusal 1 ∧ Below w.heap.size w w' := by
  by_cases h1 : z < 0
  · have d1 : decide (z < 0) = true := decide_eq_true h1
    clear hz
    go_enter Try.func8, Try.ntmps8
    go_wp2_with fail
    all_goals (go_ret3; exact ⟨rfl, Below.refl _ _⟩)
  · have d1 : decide (z < 0) = false := decide_eq_false h1
    have d2 : decide (16 < z) = true := decide_eq_true (by omega)
    go_enter Try.func8, Try.ntmps8
    go_wp2_with fail
    all_goals (go_ret3; exact ⟨rfl, Below.refl _ _⟩)
theorem ref8_many (o : Option Addr) (N cap R : Nat) (hN : 256 < N) (hR : R ≤ 16) (w : World) :
    Calls Try.prog 8 #[.slice o N cap, .int .i64 (R : Int)] w fun e w' => e = refusal 4 ∧ Below w.heap.size w w' := by
  have d1 : decide ((16 : Int) < (R : Int)) = false := by simp; omega
  have d2 : decide ((256 : Int) < (N : Int)) = true := by simp; omega
  go_enter Try.func8, Try.ntmps8
  go_wp2_with fail
  go_ret3
  exact ⟨rfl, Below.refl _ _⟩
theorem ref8_ok (lv : Value) (N R : Nat) (s : AlScan.Sps) (w : World) (h : SpV w lv N s) (hN : N ≤ 256) (hR : R ≤ 16) : Calls Try.prog 8 #[lv, .int .i64 (R : Int)] w (ScanO w R N s) := by
  obtain ⟨o, cap, rfl, h⟩ := h
  exact ref8 o N cap R s hN hR w h
theorem law3_no (o : Option Addr) (N cap : Nat) (s : AlScan.Sps) (hN : N ≤ 1048576) (z : Int) (n : Int) (w : World) (h : 0 < N → ∃ bs off, o = some ⟨bs, off, none⟩ ∧ SpW w bs off N s)
    (c7 : Calls Try.prog 7 #[.slice o N cap, .int .i64 z] w fun e w' => e = refusal n ∧ Below w.heap.size w w')
    (c8 : ∀ lv w1, SpV w1 lv N s → Calls Try.prog 8 #[lv, .int .i64 z] w1 fun e w' => e = refusal n ∧ Below w1.heap.size w1 w') :
    Calls Try.prog 3 #[.slice o N cap, .int .i64 z] w fun e w' => e = .returned (.bool true) ∧ Below w.heap.size w w' := by
  have C7 := Lib.hid c7
  have C8 := Lib.hid c8
  have H := Lib.hid h
  clear c7 c8 h
  go_enter Try.func3, Try.ntmps3
  go_wp2_with fail
  (with_reducible refine C7.out.mono ?_)
  rintro ee w1 ⟨he, hb1⟩
  unfold refusal at he
  subst he
  go_wp2_with fail
  have cp := plain9 o N cap s hN w1 (fun h0 => by obtain ⟨bs, off, e, hs⟩ := H.out h0; exact ⟨bs, off, e, hs.below (World.block_lt_of_cell? w ⟨bs, off + 0 * 3, none⟩ (hs.v 0 h0)) hb1⟩)
  (with_reducible refine cp.mono ?_)
  clear cp
  rintro ee w2 ⟨hb2, lv, hsv, rfl⟩
  go_wp2_with fail
  (with_reducible refine (C8.out lv w2 hsv).mono ?_)
  rintro ee w3 ⟨he, hb3⟩
  unfold refusal at he
  subst he
  have hbel : Below w.heap.size w w3 := (hb1.trans (hb2.mono hb1.size)).trans (hb3.mono (by have := hb1.size; have := hb2.size; omega))
  have HB := Lib.hid hbel
  clear hb1 hb2 hb3 hsv hbel
  go_wp2_with fail
  go_loopw [11] (fun u wq => u = .int .i64 0 ∧ wq = w3) (fun _ _ => 0)
  case atStart => exact ⟨rfl, rfl⟩
  case round =>
    obtain ⟨rfl, rfl⟩ := hrel
    go_wp2_with (go_at_call 10; (with_reducible refine (known10 _).mono ?_); rintro ee w4 ⟨rfl, hb4⟩)
    go_ret
    exact ⟨rfl, HB.out.trans (hb4.mono HB.out.size)⟩
theorem law3_yes (o : Option Addr) (N cap R : Nat) (s : AlScan.Sps) (hN : N ≤ 256) (hR : R ≤ 16) (hg : ∀ i, i < N → Good s i) (w : World) (h : 0 < N → ∃ bs off, o = some ⟨bs, off, none⟩ ∧ SpW w bs off N s) :
    Calls Try.prog 3 #[.slice o N cap, .int .i64 (R : Int)] w fun e w' => e = .returned (.bool true) ∧ Below w.heap.size w w' := by
  have C7 := Lib.hid (scan7_ok (.slice o N cap) N R s w ⟨o, cap, rfl, h⟩ hN hR)
  have H := Lib.hid h
  have HG := Lib.hid hg
  clear h hg
  go_enter Try.func3, Try.ntmps3
  go_wp2_with fail
  (with_reducible refine C7.out.mono ?_)
  rintro ee w1 ⟨hb1, hO⟩
  obtain ⟨_, ob, E, a, hE, hA, hP, ho1, ho2, rfl⟩ := hO.resolve_left (fun h => h.1 HG.out)
  go_wp2_with fail
  have cp := plain9 o N cap s (by omega) w1 (fun h0 => by obtain ⟨bs, off, e, hs⟩ := H.out h0; exact ⟨bs, off, e, hs.below (World.block_lt_of_cell? w ⟨bs, off + 0 * 3, none⟩ (hs.v 0 h0)) hb1⟩)
  (with_reducible refine cp.mono ?_)
  clear cp
  rintro ee w2 ⟨hb2, lv, hsv, rfl⟩
  go_wp2_with fail
  (with_reducible refine (ref8_ok lv N R s w2 hsv hN hR).mono ?_)
  rintro ee w3 ⟨hb3, hO'⟩
  obtain ⟨_, ob', E', b, hE', hA', hP', ho1', ho2', rfl⟩ := hO'.resolve_left (fun h => h.1 HG.out)
  have hEE := hE'.uniq hE
  subst hEE
  have hab : b = a := hA'.st.unique hA.st
  subst hab
  have HP := Lib.hid ((hP.below ho2 hb2).below (by have := hb2.size; omega) hb3)
  have HP' := Lib.hid hP'
  have hbel : Below w.heap.size w w3 := (hb1.trans (hb2.mono hb1.size)).trans (hb3.mono (by have := hb1.size; have := hb2.size; omega))
  have HB := Lib.hid hbel
  clear hb1 hb2 hb3 hsv hbel hO hO' hP hP' hA hA' hE hE'
  go_wp2_with fail
  go_loopw [11] (fun u wq => ∃ i : Nat, i ≤ N ∧ u = .int .i64 (i : Int) ∧ Hid (∃ m, wq = w3.drewN m)) (fun u _ => N - (intOf u).toNat)
  case atStart => exact ⟨0, by omega, rfl, Lib.hid ⟨0, rfl⟩⟩
  case round =>
    obtain ⟨i, hi, rfl, hM⟩ := hrel
    obtain ⟨m, rfl⟩ := hM.out
    by_cases hiN : i < N
    · have b1 : (i : Int) < (N : Int) := by omega
      have p0 := HP.out.v i hiN
      have p1 := HP.out.r i hiN
      have p2 := HP.out.s i hiN
      have q0 := HP'.out.v i hiN
      have q1 := HP'.out.r i hiN
      have q2 := HP'.out.s i hiN
      clear hM
      go_wp2_with fail
      go_quiet (fail)
      go_wp2_with fail
      exact ⟨⟨i + 1, hiN, by first | rfl | simp, Lib.hid ⟨_, rfl⟩⟩, by simp [intOf] <;> omega⟩
    · have b1 : ¬ (i : Int) < (N : Int) := by omega
      clear hM
      go_wp2_with (go_at_call 10; (with_reducible refine (known10 _).mono ?_); rintro ee w4 ⟨rfl, hb4⟩)
      go_ret
      refine ⟨rfl, HB.out.trans ?_⟩
      have := (bel_drewN (Below.refl w3.heap.size w3) m).trans hb4
      exact this.mono HB.out.size
theorem law3 (o : Option Addr) (N cap : Nat) (s : AlScan.Sps) (hN : N ≤ 1048576) (z : Int) (w : World) (h : 0 < N → ∃ bs off, o = some ⟨bs, off, none⟩ ∧ SpW w bs off N s) :
    Calls Try.prog 3 #[.slice o N cap, .int .i64 z] w fun e w' => e = .returned (.bool true) ∧ Below w.heap.size w w' := by
  by_cases hz : z < 0 ∨ 16 < z
  · exact law3_no o N cap s hN z 1 w h (scan7_arg _ z hz w) (fun lv w1 _ => ref8_arg lv z hz w1)
  · obtain ⟨R, rfl⟩ : ∃ R : Nat, z = (R : Int) := ⟨z.toNat, by omega⟩
    have hR : R ≤ 16 := by omega
    by_cases hN2 : 256 < N
    · exact law3_no o N cap s hN R 4 w h (scan7_many o N cap R hN2 hR w) (fun lv w1 hs => by obtain ⟨o', cap', rfl, _⟩ := hs; exact ref8_many o' N cap' R hN2 hR w1)
    · by_cases hg : ∀ i, i < N → Good s i
      · exact law3_yes o N cap R s (by omega) hR hg w h
      · exact law3_no o N cap s hN R 12 w h ((scan7_ok _ N R s w ⟨o, cap, rfl, h⟩ (by omega) hR).mono fun e w' ⟨h1, h2⟩ => ⟨(h2.resolve_right (fun h => hg h.1)).2, h1⟩)
          (fun lv w1 hs => (ref8_ok lv N R s w1 hs (by omega) hR).mono fun e w' ⟨h1, h2⟩ => ⟨(h2.resolve_right (fun h => hg h.1)).2, h1⟩)
end Go.Proofs.Ytkejnhmhbmbhcaa.al
