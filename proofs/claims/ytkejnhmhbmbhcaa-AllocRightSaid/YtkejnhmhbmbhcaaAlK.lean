/-
  container/heap: down.
-/
import Derived.Test.YtkejnhmhbmbhcaaAlJ
set_option maxHeartbeats 64000000
set_option maxRecDepth 1000000
set_option linter.unusedVariables false
set_option linter.unusedSimpArgs false
namespace Go.Proofs.Ytkejnhmhbmbhcaa.al
open Go Go.RowKit Go.BigFrame
open Go.Proofs.Ytkejnhmhbmbhcaa
structure DnS (lt : Nat → Nat → Prop) (B p L cap g : Nat) (lf : Value) (D : Nat → Nat) (n i0 : Nat) (w wq : World) (E : Nat → Nat) (i : Nat) : Prop where
  hp : Hp wq B p L cap g lf E
  dn : AlHp.Dn lt E n i0 i
  ex : Ex D E n
  on : Only [g] w wq
  sm : i = i0 → E = D
theorem DnS.drewN {lt : Nat → Nat → Prop} {B p L cap g : Nat} {lf : Value} {D : Nat → Nat} {n i0 : Nat} {w wq : World} {E : Nat → Nat} {i : Nat} (h : DnS lt B p L cap g lf D n i0 w wq E i) (m : Nat) : DnS lt B p L cap g lf D n i0 w (wq.drewN m) E i :=
  ⟨h.hp.drewN m, h.dn, h.ex, h.on.trans (only_drewN _ _ _), h.sm⟩
def DnO (lt : Nat → Nat → Prop) (B p L cap g : Nat) (lf : Value) (D : Nat → Nat) (n i0 : Nat) (w : World) (e : Ending) (w' : World) : Prop :=
  ∃ (E : Nat → Nat) (i : Nat), e = .returned (.bool (decide (i0 < i))) ∧ i0 ≤ i ∧ Hp w' B p L cap g lf E ∧ (∀ k, 0 < k → k < n → k ≠ i0 → AlHp.Ok lt E k) ∧ (i ≠ i0 → AlHp.Hok lt E n) ∧ Ex D E n ∧ (i = i0 → E = D) ∧ Only [g] w w'
theorem DnS.fin {lt : Nat → Nat → Prop} {B p L cap g : Nat} {lf : Value} {D : Nat → Nat} {n i0 : Nat} {w wq : World} {E : Nat → Nat} {i : Nat} (h : DnS lt B p L cap g lf D n i0 w wq E i) (e : ∀ k, 0 < k → k < n → (k - 1) / 2 = i → ¬ lt (E k) (E i)) (m : Nat) :
    DnO lt B p L cap g lf D n i0 w (.returned (.bool (decide (i0 < i)))) (wq.drewN m) :=
  ⟨E, i, rfl, h.dn.i, h.hp.drewN m, (h.dn.fin e).1, (h.dn.fin e).2, h.ex, h.sm, h.on.trans (only_drewN _ _ _)⟩
theorem down26 (cl : Nat) (lt : Nat → Nat → Prop) (o : AlHp.Wk lt) (B bl bs off N cp : Nat) (s : AlScan.Sps) (hls : LsC cl lt B bl bs off N cp s) (hbl : bl < B ∧ bs < B) (p L cap g n : Nat) (D : Nat → Nat) (i0 : Nat) (hi0 : i0 ≤ L) (hnL : n ≤ L) (hL : L ≤ 1000) (hD : ∀ k, k < L → D k < N) (hdn : AlHp.Dn lt D n i0 i0) (w : World) (h : Hp w B p L cap g (lsf cl bl) D) (hs : SpM w bl bs off N cp s) :
    Calls Try.prog 26 #[.iface 48 (ptr p), .int .i64 (i0 : Int), .int .i64 (n : Int)] w (DnO lt B p L cap g (lsf cl bl) D n i0 w) := by
  have hgB := h.gB.1
  have HK : Hid (∀ w1, Only [g] w w1 → SpM w1 bl bs off N cp s) := Lib.hid (fun w1 ho => hs.keep ho (by simp; omega) (by simp; omega))
  have H := Lib.hid h
  have HD := Lib.hid hD
  have HU := Lib.hid hdn
  have HL := Lib.hid hls
  have hm1 := mLess p
  have hm2 := mSwap p
  clear h hs hD hdn hls
  go_enter Try.func26, Try.ntmps26
  go_wp2_with fail
  go_loopw [7] (fun u wq => ∃ i : Nat, i ≤ L ∧ u = .int .i64 (i : Int) ∧ Hid (∃ E, DnS lt B p L cap g (lsf cl bl) D n i0 w wq E i)) (fun u _ => 2000 - (intOf u).toNat)
  case atStart => exact ⟨i0, hi0, rfl, Lib.hid ⟨D, H.out, HU.out, Ex.refl _ _, Only.refl _ _, fun _ => rfl⟩⟩
  case round =>
    clear H HU hi0
    obtain ⟨i, hi, rfl, hM⟩ := hrel
    obtain ⟨j1, hj1⟩ : ∃ j1, 2 * i + 1 = j1 := ⟨_, rfl⟩
    have e1 : 2 * (i : Int) + 1 = (j1 : Int) := by omega
    by_cases hA : n ≤ j1
    · have HJ := Lib.hid hj1
      clear hj1
      go_wp2_with fail
      go_ret
      obtain ⟨E, hE⟩ := hM.out
      have := HJ.out
      have hf := hE.fin (fun k h1 h2 h3 => by omega) 0
      exact hf
    · have hi1 : i < L := by omega
      obtain ⟨E, hS⟩ := hM.out
      have hDE := hS.ex.lt hnL HD.out
      have hB0 := Nat.lt_of_not_le hA
      clear hM
      by_cases hB : j1 + 1 < n
      · obtain ⟨j2, hj2⟩ : ∃ j2, j1 + 1 = j2 := ⟨_, rfl⟩
        have e2 : (j1 : Int) + 1 = (j2 : Int) := by omega
        have hn2 : j2 < n := by omega
        obtain ⟨b2, hb2, hc2⟩ := HL.out p L cap g E j2 j1 wr (by omega) (by omega) hDE hS.hp (HK.out _ hS.on)
        have C2 : Calls Try.prog 52 #[ptr p, .int .i64 (j2 : Int), .int .i64 (j1 : Int)] wr fun e w' => e = .returned (.bool b2) ∧ ∃ m', w' = wr.drewN m' := hc2 0
        have CH2 := Lib.hid C2; clear C2 hc2
        cases b2
        case false =>
          have hmin : ∀ k, 0 < k → k < n → (k - 1) / 2 = i → ¬ lt (E k) (E j1) := fun k h1 h2 h3 => by
            rcases (show k = j1 ∨ k = j2 by omega) with e | e
            · rw [e]; exact o.irr _
            · rw [e]; exact fun hc => by have := hb2.2 hc; cases this
          have hpj : (j1 - 1) / 2 = i := by omega
          have HM := Lib.hid hmin
          have HP := Lib.hid hpj
          have hJ1 : j1 < L := by omega
          have hJ2 : 0 < j1 := by omega
          have hJ3 : j1 < n := by omega
          obtain ⟨b, hb, hc⟩ := HL.out p L cap g E j1 i wr hJ1 hi1 hDE hS.hp (HK.out _ hS.on)
          have C := Lib.hid hc
          have C0 : Calls Try.prog 52 #[ptr p, .int .i64 (j1 : Int), .int .i64 (i : Int)] wr fun e w' => e = .returned (.bool b) ∧ ∃ m', w' = wr.drewN m' := hc 0
          have C0 := Lib.hid C0
          have HB := Lib.hid hb
          have CS := Lib.hid (fun m : Nat => swap55 B p L cap g (lsf cl bl) E i j1 hi1 hJ1 (wr.drewN m) (hS.hp.drewN m))
          have HS := Lib.hid hS
          clear hmin hpj hb hc hS hDE hj1 hb2
          cases b
          case false =>
            go_wp2_with (first
              | (go_at_call 52; (with_reducible refine C0.out.mono ?_); rintro ee w1 ⟨rfl, m', rfl⟩)
              | (go_at_call 52; (with_reducible refine CH2.out.mono ?_); rintro ee w1 ⟨rfl, m', rfl⟩)
              | (go_at_call 52; (with_reducible refine (C.out _).mono ?_); rintro ee w1 ⟨rfl, m', rfl⟩))
            go_ret
            exact HS.out.fin (fun k h1 h2 h3 => o.neg _ _ _ (HM.out k h1 h2 h3) (fun hc => by have := HB.out.2 hc; cases this)) _
          case true =>
            go_wp2_with (first
              | (go_at_call 52; (with_reducible refine C0.out.mono ?_); rintro ee w1 ⟨rfl, m', rfl⟩)
              | (go_at_call 52; (with_reducible refine CH2.out.mono ?_); rintro ee w1 ⟨rfl, m', rfl⟩)
              | (go_at_call 52; (with_reducible refine (C.out _).mono ?_); rintro ee w1 ⟨rfl, m', rfl⟩)
              | (go_at_call 55; (with_reducible refine (CS.out _).mono ?_); rintro ee w2 ⟨rfl, hQ, hW⟩))
            have hij : i < j1 := by have := HP.out; omega
            have hii := HS.out.dn.i
            refine ⟨⟨j1, by omega, rfl, Lib.hid ⟨_, hQ, HS.out.dn.step o hJ2 hJ3 HP.out HM.out (HB.out.1 (by first | exact trivial | rfl)), HS.out.ex.trans (Ex.sw E (by omega) hJ3), (HS.out.on.trans (only_drewN _ _ _)).trans hW, fun hc => by omega⟩⟩, by simp [intOf]; omega⟩
        case true =>
          have hmin : ∀ k, 0 < k → k < n → (k - 1) / 2 = i → ¬ lt (E k) (E j2) := fun k h1 h2 h3 => by
            rcases (show k = j1 ∨ k = j2 by omega) with e | e
            · rw [e]; exact o.asym (hb2.1 rfl)
            · rw [e]; exact o.irr _
          have hpj : (j2 - 1) / 2 = i := by omega
          have HM := Lib.hid hmin
          have HP := Lib.hid hpj
          have hJ1 : j2 < L := by omega
          have hJ2 : 0 < j2 := by omega
          have hJ3 : j2 < n := by omega
          obtain ⟨b, hb, hc⟩ := HL.out p L cap g E j2 i wr hJ1 hi1 hDE hS.hp (HK.out _ hS.on)
          have C := Lib.hid hc
          have C0 : Calls Try.prog 52 #[ptr p, .int .i64 (j2 : Int), .int .i64 (i : Int)] wr fun e w' => e = .returned (.bool b) ∧ ∃ m', w' = wr.drewN m' := hc 0
          have C0 := Lib.hid C0
          have HB := Lib.hid hb
          have CS := Lib.hid (fun m : Nat => swap55 B p L cap g (lsf cl bl) E i j2 hi1 hJ1 (wr.drewN m) (hS.hp.drewN m))
          have HS := Lib.hid hS
          clear hmin hpj hb hc hS hDE hj1 hb2
          cases b
          case false =>
            go_wp2_with (first
              | (go_at_call 52; (with_reducible refine C0.out.mono ?_); rintro ee w1 ⟨rfl, m', rfl⟩)
              | (go_at_call 52; (with_reducible refine CH2.out.mono ?_); rintro ee w1 ⟨rfl, m', rfl⟩)
              | (go_at_call 52; (with_reducible refine (C.out _).mono ?_); rintro ee w1 ⟨rfl, m', rfl⟩))
            go_ret
            exact HS.out.fin (fun k h1 h2 h3 => o.neg _ _ _ (HM.out k h1 h2 h3) (fun hc => by have := HB.out.2 hc; cases this)) _
          case true =>
            go_wp2_with (first
              | (go_at_call 52; (with_reducible refine C0.out.mono ?_); rintro ee w1 ⟨rfl, m', rfl⟩)
              | (go_at_call 52; (with_reducible refine CH2.out.mono ?_); rintro ee w1 ⟨rfl, m', rfl⟩)
              | (go_at_call 52; (with_reducible refine (C.out _).mono ?_); rintro ee w1 ⟨rfl, m', rfl⟩)
              | (go_at_call 55; (with_reducible refine (CS.out _).mono ?_); rintro ee w2 ⟨rfl, hQ, hW⟩))
            have hij : i < j2 := by have := HP.out; omega
            have hii := HS.out.dn.i
            refine ⟨⟨j2, by omega, rfl, Lib.hid ⟨_, hQ, HS.out.dn.step o hJ2 hJ3 HP.out HM.out (HB.out.1 (by first | exact trivial | rfl)), HS.out.ex.trans (Ex.sw E (by omega) hJ3), (HS.out.on.trans (only_drewN _ _ _)).trans hW, fun hc => by omega⟩⟩, by simp [intOf]; omega⟩
      · have hmin : ∀ k, 0 < k → k < n → (k - 1) / 2 = i → ¬ lt (E k) (E j1) := fun k h1 h2 h3 => by
          rw [show k = j1 by omega]; exact o.irr _
        have hpj : (j1 - 1) / 2 = i := by omega
        have HM := Lib.hid hmin
        have HP := Lib.hid hpj
        have hJ1 : j1 < L := by omega
        have hJ2 : 0 < j1 := by omega
        have hJ3 : j1 < n := by omega
        obtain ⟨b, hb, hc⟩ := HL.out p L cap g E j1 i wr hJ1 hi1 hDE hS.hp (HK.out _ hS.on)
        have C := Lib.hid hc
        have C0 : Calls Try.prog 52 #[ptr p, .int .i64 (j1 : Int), .int .i64 (i : Int)] wr fun e w' => e = .returned (.bool b) ∧ ∃ m', w' = wr.drewN m' := hc 0
        have C0 := Lib.hid C0
        have HB := Lib.hid hb
        have CS := Lib.hid (fun m : Nat => swap55 B p L cap g (lsf cl bl) E i j1 hi1 hJ1 (wr.drewN m) (hS.hp.drewN m))
        have HS := Lib.hid hS
        clear hmin hpj hb hc hS hDE hj1
        cases b
        case false =>
          go_wp2_with (first
            | (go_at_call 52; (with_reducible refine C0.out.mono ?_); rintro ee w1 ⟨rfl, m', rfl⟩)
            | (go_at_call 52; (with_reducible refine CH2.out.mono ?_); rintro ee w1 ⟨rfl, m', rfl⟩)
            | (go_at_call 52; (with_reducible refine (C.out _).mono ?_); rintro ee w1 ⟨rfl, m', rfl⟩))
          go_ret
          exact HS.out.fin (fun k h1 h2 h3 => o.neg _ _ _ (HM.out k h1 h2 h3) (fun hc => by have := HB.out.2 hc; cases this)) _
        case true =>
          go_wp2_with (first
            | (go_at_call 52; (with_reducible refine C0.out.mono ?_); rintro ee w1 ⟨rfl, m', rfl⟩)
            | (go_at_call 52; (with_reducible refine CH2.out.mono ?_); rintro ee w1 ⟨rfl, m', rfl⟩)
            | (go_at_call 52; (with_reducible refine (C.out _).mono ?_); rintro ee w1 ⟨rfl, m', rfl⟩)
            | (go_at_call 55; (with_reducible refine (CS.out _).mono ?_); rintro ee w2 ⟨rfl, hQ, hW⟩))
          have hij : i < j1 := by have := HP.out; omega
          have hii := HS.out.dn.i
          refine ⟨⟨j1, by omega, rfl, Lib.hid ⟨_, hQ, HS.out.dn.step o hJ2 hJ3 HP.out HM.out (HB.out.1 (by first | exact trivial | rfl)), HS.out.ex.trans (Ex.sw E (by omega) hJ3), (HS.out.on.trans (only_drewN _ _ _)).trans hW, fun hc => by omega⟩⟩, by simp [intOf]; omega⟩
end Go.Proofs.Ytkejnhmhbmbhcaa.al
