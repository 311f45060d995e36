/-
  caraferef20.Machine.Step, whatever stands there
-/
import Derived.Test.YtpcocfdgcihpdaaRmG
set_option maxHeartbeats 64000000
set_option maxRecDepth 1000000
set_option linter.unusedVariables false
set_option linter.unusedSimpArgs false
namespace Go.Proofs.Ytpcocfdgcihpdaa.rdw
open Go Go.RowKit Go.BigFrame
open Go.Proofs.Ytpcocfdgcihpdaa Go.Proofs.Ytpcocfdgcihpdaa.wr Go.Proofs.Ytpcocfdgcihpdaa.x86enc
set_option linter.unusedVariables false
set_option linter.unusedSimpArgs false
theorem step25_done (g gk gw gb cb k : Nat) (bs : List Int) (m : Mach) (l : Int) (op a b : Nat) (n : Int) (len : Nat) (c : Array Value) (w : World) (h : RefW w g gk gw gb cb bs m l) (hov : ¬ (l = 2 ∨ l = 4 ∨ l = 5)) (hlo : LOk m l) (hwo : WOk m) (hwl : m.W.length ≤ 1000) (hk : m.at_ = (k : Int)) (hkl : k < bs.length)
    (hdat : DecAt bs m.at_ (.ok op a b n len)) (ho1 : 1 ≤ op) (ho2 : op ≤ 26) (ha : a < 16) (hb : b < 16) (hn : I32 n) (hlen : len ≤ 7) (hc : EMem w gk bs c) (he : ∀ j u, (ecell ⟨true, op, a, b, n, len⟩)[j]? = some u → c[k * 6 + j]? = some u) :
    Calls Try.prog 25 #[ptr g] w (RPost g gk gw gb cb bs m (.ok op a b n len) w) := by
  have hover : m.over = 0 := by unfold LOk at hlo; rw [if_neg hov] at hlo; exact hlo
  obtain ⟨hm, _, hrow, hwm, hdis, hcap, hbyt, hregs⟩ := h
  have c23 := hm.cell 23 rfl
  have f23 := hm.froz 23
  have c0 := hm.cell 0 rfl
  have c18 := hm.cell 18 rfl
  have c24 := hm.cell 24 rfl
  rw [hk] at c18
  have x1 : (l == 2) = false := by simp; exact fun e => hov (.inl e)
  have x2 : (l == 4) = false := by simp; exact fun e => hov (.inr (.inl e))
  have x3 : (l == 5) = false := by simp; exact fun e => hov (.inr (.inr e))
  have d2 : decide ((bs.length : Int) ≤ (k : Int)) = false := decide_eq_false (by omega)
  have d3 : decide (bs.length ≤ k) = false := decide_eq_false (by omega)
  have hkb : (k : Int) < (bs.length : Int) := by omega
  have y1 : IntKind.i64.wrap ((k : Int) + (len : Int)) = (k : Int) + (len : Int) := by have := hbyt.2; rw [IntKind.wrap_i64]; omega
  have HM := Lib.hid hm; clear hm
  have HW := Lib.hid hrow; clear hrow
  have HWM := Lib.hid hwm; clear hwm
  have HDI := Lib.hid hdis; clear hdis
  have HCAP := Lib.hid hcap; clear hcap
  have HBY := Lib.hid hbyt; clear hbyt
  have HRG := Lib.hid hregs; clear hregs
  have HWO := Lib.hid hwo; clear hwo
  have HDA := Lib.hid hdat; clear hdat
  have HLO := Lib.hid hlo; clear hlo
  have k0 : w.cell? ⟨gk, k * 6, none⟩ = some (.bool true) := hc.cell (he 0 _ rfl)
  have HC := Lib.hid hc; clear hc
  have HE2 := Lib.hid he; clear he
  go_enter Try.func25, Try.ntmps25
  go_wp2_with fail
  go_quiet (fail)
  generalize nq = n1 at *
  go_wp2_with fail
  go_quiet (fail)
  generalize nq = n2 at *
  go_upto_region 14 with fail
  have HM2 : Hid (NMem (w.drewN (n1 + n2)) g (csl gb bs.length cb) (wsl gw m.W.length) (csl gk bs.length bs.length) m l) := Lib.hid ⟨HM.out.h⟩
  have HWM2 : Hid (WMem (w.drewN (n1 + n2)) gw m.W) := Lib.hid ⟨HWM.out.h⟩
  have HC2 : Hid (EMem (w.drewN (n1 + n2)) gk bs c) := Lib.hid ⟨HC.out.h, HC.out.size, HC.out.each⟩
  have HO2 : Hid (Only [g, gk, gw] w (w.drewN (n1 + n2))) := Lib.hid (only_drewN _ _ _)
  clear c23 f23 c0 c18 c24 k0
  generalize w.drewN (n1 + n2) = w2 at *
  have c18 := HM2.out.cell 18 rfl
  have f18 := HM2.out.froz 18
  rw [hk] at c18
  have k5 := HC2.out.cell (HE2.out 5 _ rfl)
  go_region
  have hm3 : NMem ((w2.setCell ⟨g, 18, none⟩ (.int .i64 ((k : Int) + (len : Int)))).drew) g (csl gb bs.length cb) (wsl gw m.W.length) (csl gk bs.length bs.length) { m with at_ := m.at_ + len } l := (HM2.out.set 18 _ (by rw [hk]; rfl)).drew
  have ho3 : Only [g] w2 ((w2.setCell ⟨g, 18, none⟩ (.int .i64 ((k : Int) + (len : Int)))).drew) := ((Only.refl _ _).set _ (by simp)).drew
  have hc3 := HC2.out.keep ho3 (by simp; exact fun e => HDI.out.1 e.symm)
  have hw3 := HWM2.out.keep ho3 (by simp; exact fun e => HDI.out.2.1 e.symm)
  have HO3 := Lib.hid (HO2.out.trans (ho3.mono (T := [g, gk, gw]) (by simp)))
  clear c18 f18 k5 ho3
  generalize (w2.setCell ⟨g, 18, none⟩ (.int .i64 ((k : Int) + (len : Int)))).drew = w3 at *
  have k1 := hc3.cell (HE2.out 1 _ rfl)
  have k2 := hc3.cell (HE2.out 2 _ rfl)
  have k3 := hc3.cell (HE2.out 3 _ rfl)
  have k4 := hc3.cell (HE2.out 4 _ rfl)
  have DO := do33 g gw _ _ { m with at_ := m.at_ + len } l op a b n ho1 ho2 HRG.out ha hb hn (by show 0 ≤ m.at_ + (len : Int) ∧ m.at_ + (len : Int) ≤ 1000000; have := HBY.out.2; omega) hwl (fun e => HDI.out.2.1 e.symm) w3 hm3 hw3
  have XO := exA_ok { m with at_ := m.at_ + len } op a b n HRG.out HWO.out ho1 ho2 ha hb hn
  have XV := exA_over { m with at_ := m.at_ + len } op a b n ho1 ho2
  have XS := exA_s { m with at_ := m.at_ + len } op a b n ho1 ho2
  have hst : ∀ s, (exA { m with at_ := m.at_ + len } op a b n).2 = s → stepP m (.ok op a b n len) = if s = 5 ∨ s = 4 then ({ (exA { m with at_ := m.at_ + len } op a b n).1 with at_ := m.at_, over := s }, s) else if s = 2 then ({ (exA { m with at_ := m.at_ + len } op a b n).1 with over := 2 }, 2) else exA { m with at_ := m.at_ + len } op a b n := fun s hs => by
    simp only [stepP, Int.toNat_natCast, hs]
  obtain ⟨s, hs⟩ : ∃ s, (exA { m with at_ := m.at_ + len } op a b n).2 = s := ⟨_, rfl⟩
  obtain ⟨M2, hM2⟩ : ∃ M2, (exA { m with at_ := m.at_ + len } op a b n).1 = M2 := ⟨_, rfl⟩
  have hst := hst s hs
  have hex : exA { m with at_ := m.at_ + len } op a b n = (M2, s) := by rw [← hM2, ← hs]
  rw [hM2] at DO XO XV
  rw [hs] at DO XS
  rw [hex] at hst
  have HC3 := Lib.hid hc3; clear hc3
  have HD := Lib.hid DO; clear DO
  have fin : ∀ (w4 w5 : World) (m' : Mach) (l' : Int), stepP m (.ok op a b n len) = (m', l') → m'.W = M2.W → m'.R = M2.R → LOk m' l' → M2.W.length = m.W.length → Only [g, gw] w3 w4 → WMem w4 gw M2.W → Only [g] w4 w5 → NMem w5 g (csl gb bs.length cb) (wsl gw m.W.length) (csl gk bs.length bs.length) m' l' → RPost g gk gw gb cb bs m (.ok op a b n len) w (.returned (.int .i64 l')) w5 := by
    intro w4 w5 m' l' he hW hRR hl hWl ho4 hw4 ho5 hm5
    have hdis := HDI.out
    have ho35 : Only [g, gw] w3 w5 := ho4.trans (ho5.mono (by simp))
    have ho : Only [g, gk, gw] w w5 := HO3.out.trans (ho35.mono (by simp))
    unfold RPost
    rw [he]
    refine ⟨rfl, ⟨by rw [hW, hWl]; exact hm5, ⟨_, HC3.out.keep ho35 (by simp; exact ⟨fun e => hdis.1 e.symm, hdis.2.2.2.1⟩)⟩, HW.out.keep ho (by simp; exact ⟨fun e => hdis.2.2.1 e.symm, fun e => hdis.2.2.2.2.1 e.symm, fun e => hdis.2.2.2.2.2 e.symm⟩), by rw [hW]; exact hw4.keep ho5 (by simp; exact fun e => hdis.2.1 e.symm), hdis, HCAP.out, HBY.out, fun r hr => by rw [hRR]; exact XO.1 r hr⟩, hl, fun i hi => by rw [hW] at hi ⊢; exact XO.2 i hi, by rw [hW]; exact hWl, ho⟩
  have FIN := Lib.hid fin; clear fin
  have HST := Lib.hid hst; clear hst
  have HXV := Lib.hid XV
  clear XO hM2 hex hm3 hw3 XV hs
  have hs45 : s = 5 ∨ s = 4 ∨ (s = 1 ∨ s = 2 ∨ s = 3) := by omega
  rcases hs45 with rfl | rfl | hs3
  · clear XS
    go_wp2_with (go_at_call 33; (with_reducible refine HD.out.mono ?_); unfold DoP; rintro e w4 ⟨rfl, hm4, hw4, hl4, ho4⟩; have c23 := hm4.cell 23 rfl; have f23 := hm4.froz 23; have f18 := hm4.froz 18; have c18 := hm4.cell 18 rfl; have HM4 := Lib.hid hm4; have HW4 := Lib.hid hw4; have HO4 := Lib.hid ho4; clear hm4 hw4 ho4)
    go_ret
    exact FIN.out _ _ { M2 with at_ := m.at_, over := 5 } 5 (by rw [HST.out, if_pos (by simp)]) rfl rfl (by unfold LOk; simp) hl4 HO4.out HW4.out (((Only.refl _ _).set _ (by simp)).set _ (by simp)) ((HM4.out.set 23 (.int .i64 5) (m' := M2) (l' := 5) rfl).set 18 (.int .i64 (k : Int)) (by rw [hk]; rfl))
  · clear XS
    go_wp2_with (go_at_call 33; (with_reducible refine HD.out.mono ?_); unfold DoP; rintro e w4 ⟨rfl, hm4, hw4, hl4, ho4⟩; have c23 := hm4.cell 23 rfl; have f23 := hm4.froz 23; have f18 := hm4.froz 18; have c18 := hm4.cell 18 rfl; have HM4 := Lib.hid hm4; have HW4 := Lib.hid hw4; have HO4 := Lib.hid ho4; clear hm4 hw4 ho4)
    go_ret
    exact FIN.out _ _ { M2 with at_ := m.at_, over := 4 } 4 (by rw [HST.out, if_pos (by simp)]) rfl rfl (by unfold LOk; simp) hl4 HO4.out HW4.out (((Only.refl _ _).set _ (by simp)).set _ (by simp)) ((HM4.out.set 23 (.int .i64 4) (m' := M2) (l' := 4) rfl).set 18 (.int .i64 (k : Int)) (by rw [hk]; rfl))
  · have z1 : (s == 5) = false := by simp; omega
    have z2 : (s == 4) = false := by simp; omega
    have HS3 := Lib.hid hs3; clear hs3 XS
    go_wp2_with (go_at_call 33; (with_reducible refine HD.out.mono ?_); unfold DoP; rintro e w4 ⟨rfl, hm4, hw4, hl4, ho4⟩; have c23 := hm4.cell 23 rfl; have f23 := hm4.froz 23; have f18 := hm4.froz 18; have c18 := hm4.cell 18 rfl; have HM4 := Lib.hid hm4; have HW4 := Lib.hid hw4; have HO4 := Lib.hid ho4; clear hm4 hw4 ho4)
    go_ret
    have hs := HS3.out
    have hxv : M2.over = 0 := HXV.out.trans hover
    by_cases h2 : s = 2
    · subst h2
      exact FIN.out _ _ { M2 with over := 2 } 2 (by rw [HST.out, if_neg (by simp), if_pos rfl]) rfl rfl (by unfold LOk; simp) hl4 HO4.out HW4.out ((Only.refl _ _).set _ (by simp)) (HM4.out.set 23 (.int .i64 2) (m' := { M2 with over := 2 }) (l' := 2) rfl)
    · exact FIN.out _ _ M2 s (by rw [HST.out, if_neg (by omega), if_neg h2]) rfl rfl (by unfold LOk; rw [if_neg (by omega)]; exact hxv) hl4 HO4.out HW4.out ((Only.refl _ _).set _ (by simp)) (HM4.out.set 23 (.int .i64 s) (m' := M2) (l' := s) rfl)
theorem ent_only (w : World) (gk o : Nat) (v0 v1 v2 v3 v4 v5 : Value) : Only [gk] w ((((((w.setCell ⟨gk, o, none⟩ v0).setCell ⟨gk, o + 1, none⟩ v1).setCell ⟨gk, o + 2, none⟩ v2).setCell ⟨gk, o + 3, none⟩ v3).setCell ⟨gk, o + 4, none⟩ v4).setCell ⟨gk, o + 5, none⟩ v5) :=
  ((((((Only.refl _ _).set _ (by simp)).set _ (by simp)).set _ (by simp)).set _ (by simp)).set _ (by simp)).set _ (by simp)
theorem EMem.put {w : World} {gk : Nat} {bs : List Int} {c : Array Value} (h : EMem w gk bs c) {k : Nat} (hk : k < bs.length) (op a b : Nat) (n : Int) (len : Nat) (hd : DecAt bs k (.ok op a b n len)) :
    ∃ c', EMem ((((((w.setCell ⟨gk, k * 6, none⟩ (.bool true)).setCell ⟨gk, k * 6 + 1, none⟩ (.int .i64 (op : Int))).setCell ⟨gk, k * 6 + 2, none⟩ (.int .i64 (a : Int))).setCell ⟨gk, k * 6 + 3, none⟩ (.int .i64 (b : Int))).setCell ⟨gk, k * 6 + 4, none⟩ (.int .i32 n)).setCell ⟨gk, k * 6 + 5, none⟩ (.int .i64 (len : Int))) gk bs c' ∧ ∀ j u, (ecell ⟨true, op, a, b, n, len⟩)[j]? = some u → c'[k * 6 + j]? = some u := by
  have hs := h.size
  have key : ∀ j u, (ecell ⟨true, op, a, b, n, len⟩)[j]? = some u → ((((((c.setIfInBounds (k * 6) (.bool true)).setIfInBounds (k * 6 + 1) (.int .i64 (op : Int))).setIfInBounds (k * 6 + 2) (.int .i64 (a : Int))).setIfInBounds (k * 6 + 3) (.int .i64 (b : Int))).setIfInBounds (k * 6 + 4) (.int .i32 n)).setIfInBounds (k * 6 + 5) (.int .i64 (len : Int)))[k * 6 + j]? = some u := by
    intro j u hu
    have hj : j < 6 := by
      have := (List.getElem?_eq_some_iff.1 hu).1
      simpa [ecell] using this
    have : j = 0 ∨ j = 1 ∨ j = 2 ∨ j = 3 ∨ j = 4 ∨ j = 5 := by omega
    have b0 : k * 6 < c.size := by omega
    have b1 : k * 6 + 1 < c.size := by omega
    have b2 : k * 6 + 2 < c.size := by omega
    have b3 : k * 6 + 3 < c.size := by omega
    have b4 : k * 6 + 4 < c.size := by omega
    have b5 : k * 6 + 5 < c.size := by omega
    rcases this with rfl | rfl | rfl | rfl | rfl | rfl <;> simp [ecell] at hu <;> subst hu <;> simp [Array.getElem?_setIfInBounds, b0, b1, b2, b3, b4, b5]
  refine ⟨_, ⟨?_, ?_, fun p hp => ?_⟩, key⟩
  · simp only [setCell_self, h.h, Option.map_some, setObj]
  · simpa using hs
  · by_cases e : p = k
    · subst e
      exact ⟨_, key, fun _ => ⟨op, len, rfl, rfl, hd⟩⟩
    · obtain ⟨en, h1, h2⟩ := h.each p hp
      refine ⟨en, fun j u hu => ?_, h2⟩
      have hj : j < 6 := by
        have := (List.getElem?_eq_some_iff.1 hu).1
        simpa [ecell] using this
      rw [← h1 j u hu]
      rw [Array.getElem?_setIfInBounds_ne (by omega), Array.getElem?_setIfInBounds_ne (by omega), Array.getElem?_setIfInBounds_ne (by omega), Array.getElem?_setIfInBounds_ne (by omega), Array.getElem?_setIfInBounds_ne (by omega), Array.getElem?_setIfInBounds_ne (by omega)]
theorem step25_new (g gk gw gb cb k : Nat) (bs : List Int) (m : Mach) (l : Int) (op a b : Nat) (n : Int) (len : Nat) (c : Array Value) (w : World) (h : RefW w g gk gw gb cb bs m l) (hov : ¬ (l = 2 ∨ l = 4 ∨ l = 5)) (hlo : LOk m l) (hwo : WOk m) (hwl : m.W.length ≤ 1000) (hk : m.at_ = (k : Int)) (hkl : k < bs.length)
    (hdat : DecAt bs m.at_ (.ok op a b n len)) (ho1 : 1 ≤ op) (ho2 : op ≤ 26) (ha : a < 16) (hb : b < 16) (hn : I32 n) (hlen : len ≤ 7) (hc : EMem w gk bs c) (en : Ent) (he : ∀ j u, (ecell { en with done := false })[j]? = some u → c[k * 6 + j]? = some u) :
    Calls Try.prog 25 #[ptr g] w (RPost g gk gw gb cb bs m (.ok op a b n len) w) := by
  have hover : m.over = 0 := by unfold LOk at hlo; rw [if_neg hov] at hlo; exact hlo
  obtain ⟨hm, _, hrow, hwm, hdis, hcap, hbyt, hregs⟩ := h
  have c23 := hm.cell 23 rfl
  have f23 := hm.froz 23
  have c0 := hm.cell 0 rfl
  have c18 := hm.cell 18 rfl
  have c24 := hm.cell 24 rfl
  rw [hk] at c18
  have x1 : (l == 2) = false := by simp; exact fun e => hov (.inl e)
  have x2 : (l == 4) = false := by simp; exact fun e => hov (.inr (.inl e))
  have x3 : (l == 5) = false := by simp; exact fun e => hov (.inr (.inr e))
  have d2 : decide ((bs.length : Int) ≤ (k : Int)) = false := decide_eq_false (by omega)
  have d3 : decide (bs.length ≤ k) = false := decide_eq_false (by omega)
  have hkb : (k : Int) < (bs.length : Int) := by omega
  have y1 : IntKind.i64.wrap ((k : Int) + (len : Int)) = (k : Int) + (len : Int) := by have := hbyt.2; rw [IntKind.wrap_i64]; omega
  have HM := Lib.hid hm; clear hm
  have HW := Lib.hid hrow; clear hrow
  have HWM := Lib.hid hwm; clear hwm
  have HDI := Lib.hid hdis; clear hdis
  have HCAP := Lib.hid hcap; clear hcap
  have HBY := Lib.hid hbyt; clear hbyt
  have HRG := Lib.hid hregs; clear hregs
  have HWO := Lib.hid hwo; clear hwo
  have HDA := Lib.hid hdat; clear hdat
  have HLO := Lib.hid hlo; clear hlo
  have k0 : w.cell? ⟨gk, k * 6, none⟩ = some (.bool false) := hc.cell (he 0 _ rfl)
  have C : ∀ W : World, Row W gb 0 bs → Calls Try.prog 32 #[csl gb bs.length cb, .int .i64 (k : Int)] W fun e w' => e = .returned (.tuple #[.agg #[.int .i64 ((op : Nat)), .int .i64 ((a : Nat)), .int .i64 ((b : Nat)), .int .i32 (n)], .int .i64 ((len : Nat)), .int .i64 (0)]) ∧ Below W.heap.size W w' := fun W hr => (decode20 gb 0 cb k bs W hkl HBY.out.2 HCAP.out.1 HCAP.out.2 HBY.out.1 hr).mono fun e w' hh => by
    obtain ⟨⟨d, hd, rfl⟩, hb⟩ := hh
    obtain rfl : d = .ok op a b n len := (show DecAt bs m.at_ d from .inl ⟨by omega, by omega, by rw [hk]; exact hd⟩).unique HDA.out
    exact ⟨rfl, hb⟩
  have HCC := Lib.hid C; clear C
  have HC := Lib.hid hc; clear hc
  have HE := Lib.hid he; clear he
  go_enter Try.func25, Try.ntmps25
  go_wp2_with fail
  go_quiet (fail)
  generalize nq = n1 at *
  go_wp2_with fail
  go_quiet (fail)
  generalize nq = n2 at *
  go_wp2_with fail
  have HO1 : Hid (Only [g, gk, gw] w (w.drewN (n1 + n2))) := Lib.hid (only_drewN _ _ _)
  have hrwa : Row (w.drewN (n1 + n2)) gb 0 bs := ⟨HW.out.1, HW.out.2⟩
  have hma : NMem (w.drewN (n1 + n2)) g (csl gb bs.length cb) (wsl gw m.W.length) (csl gk bs.length bs.length) m l := ⟨HM.out.h⟩
  have hwa : WMem (w.drewN (n1 + n2)) gw m.W := ⟨HWM.out.h⟩
  have hca : EMem (w.drewN (n1 + n2)) gk bs c := ⟨HC.out.h, HC.out.size, HC.out.each⟩
  clear c23 f23 c0 c18 c24 k0
  generalize w.drewN (n1 + n2) = wa at *
  have c0' := hma.cell 0 rfl
  have c18' := hma.cell 18 rfl
  rw [hk] at c18'
  have hltg : g < wa.heap.size := block_lt hma.h
  have HRA := Lib.hid hrwa; clear hrwa
  have HMA := Lib.hid hma; clear hma
  have HWA := Lib.hid hwa; clear hwa
  have HCA := Lib.hid hca; clear hca
  go_cut [4, 5, 6] (fun v4 v5 v6 wc => ∃ q3 : Nat, v4 = ptr q3 ∧ v5 = .int .i64 ((len : Nat)) ∧ v6 = .int .i64 (0) ∧ Hid (wc.heap[q3]? = some (.cells #[.int .i64 ((op : Nat)), .int .i64 ((a : Nat)), .int .i64 ((b : Nat)), .int .i32 (n)] 63 (0, 0))) ∧ Hid (Below wa.heap.size wa wc))
  case first =>
    go_region_law (go_simp; go_at_call 32; refine (HCC.out _ (by first | exact HRA.out | exact ⟨HRA.out.1, HRA.out.2⟩ | exact HRA.out.mono (((Below.refl _ _).alloc (Nat.le_refl _) _).drew))).mono ?_; rintro e w2 ⟨rfl, hb2⟩; have hb3 : Below wa.heap.size wa w2 := (by first | exact ⟨hb2.os, hb2.tape, hb2.output, hb2.size, hb2.block⟩ | exact ((Below.refl wa.heap.size wa).alloc (Nat.le_refl _) _).trans (Below.mono ⟨hb2.os, hb2.tape, hb2.output, hb2.size, hb2.block⟩ (by simp))); have g0 := (hb3.cell (p := ⟨g, 0, none⟩) hltg).trans c0'; have g18 := (hb3.cell (p := ⟨g, 18, none⟩) hltg).trans c18'; first | (have zz : w2.heap[wa.heap.size]? = some Z30 := (hb2.block _ (by simp)).trans (heap_alloc_new wa _); obtain ⟨z0, z1, z2, z3⟩ := cells30 zz; obtain ⟨y0, y1, y2, y3⟩ := froz30 zz; have ZZ := Lib.hid zz; clear zz) | skip)
    all_goals go_wp2
    all_goals go_meet
    all_goals
      case rel =>
        refine ⟨_, rfl, rfl, rfl, Lib.hid ?_, Lib.hid ?_⟩
        · first
            | with_reducible exact heap_alloc_new _ _
            | with_reducible exact fin30 ZZ.out _ _ _ _
        · first
            | with_reducible exact hb3.alloc hb3.size _
            | with_reducible exact (((hb3.setCell (Nat.le_refl _) _).setCell (Nat.le_refl _) _).setCell (Nat.le_refl _) _).setCell (Nat.le_refl _) _
  case rest =>
    obtain ⟨q3, rfl, rfl, rfl, h3, hb3⟩ := hcut
    have HOC := Lib.hid (HO1.out.trans ((Only.below (S := []) hb3.out).mono (by simp)))
    have hmc := HMA.out.keep (Only.below (S := []) hb3.out) (by simp)
    have hwc := HWA.out.keep (Only.below (S := []) hb3.out) (by simp)
    have hcc := HCA.out.keep (Only.below (S := []) hb3.out) (by simp)
    have hq3 : q3 ≠ g ∧ q3 ≠ gw ∧ q3 ≠ gk := by
      have := h3.out
      refine ⟨fun e => ?_, fun e => ?_, fun e => ?_⟩ <;> subst e
      · rw [hmc.h] at this; simp at this
      · rw [hwc.h] at this; simp at this
      · rw [hcc.h] at this; simp at this
    clear c0' c18' hltg
    have f0 := hcc.froz (k * 6)
    have f1 := hcc.froz (k * 6 + 1)
    have f2 := hcc.froz (k * 6 + 2)
    have f3 := hcc.froz (k * 6 + 3)
    have f4 := hcc.froz (k * 6 + 4)
    have f5 := hcc.froz (k * 6 + 5)
    have k0 : wc.cell? ⟨gk, k * 6, none⟩ = some (.bool false) := hcc.cell (HE.out 0 _ rfl)
    have k1 := hcc.cell (HE.out 1 _ rfl)
    have k2 := hcc.cell (HE.out 2 _ rfl)
    have k3 := hcc.cell (HE.out 3 _ rfl)
    have k4 := hcc.cell (HE.out 4 _ rfl)
    have k5 := hcc.cell (HE.out 5 _ rfl)
    obtain ⟨z0, z1, z2, z3⟩ := cells30 h3.out
    obtain ⟨hq1, hq2, hq4⟩ := hq3
    have HMC := Lib.hid hmc; clear hmc
    have HWC := Lib.hid hwc; clear hwc
    have HEC := Lib.hid hcc; clear hcc
    go_upto_region 13 with fail
    obtain ⟨c2, hc2, he2⟩ := HEC.out.put hkl op a b n len (by have := HDA.out; rw [hk] at this; exact this)
    have ho6 := ent_only wc gk (k * 6) (.bool true) (.int .i64 (op : Int)) (.int .i64 (a : Int)) (.int .i64 (b : Int)) (.int .i32 n) (.int .i64 (len : Int))
    have HM2 := Lib.hid (HMC.out.keep ho6 (by simp; exact HDI.out.1))
    have HWM2 := Lib.hid (HWC.out.keep ho6 (by simp; exact fun e => HDI.out.2.2.2.1 e.symm))
    have HC2 := Lib.hid hc2
    have HE2 := Lib.hid he2
    have HO2 := Lib.hid (HOC.out.trans (ho6.mono (T := [g, gk, gw]) (by simp)))
    clear f0 f1 f2 f3 f4 f5 k0 k1 k2 k3 k4 k5 z0 z1 z2 z3 hq1 hq2 hq4 hc2 he2 ho6 h3
    generalize (((((wc.setCell ⟨gk, k * 6, none⟩ (.bool true)).setCell ⟨gk, k * 6 + 1, none⟩ (.int .i64 (op : Int))).setCell ⟨gk, k * 6 + 2, none⟩ (.int .i64 (a : Int))).setCell ⟨gk, k * 6 + 3, none⟩ (.int .i64 (b : Int))).setCell ⟨gk, k * 6 + 4, none⟩ (.int .i32 n)).setCell ⟨gk, k * 6 + 5, none⟩ (.int .i64 (len : Int)) = w2 at *
    have c18 := HM2.out.cell 18 rfl
    rw [hk] at c18
    go_upto_region 14 with fail
    clear c18
    have c18 := HM2.out.cell 18 rfl
    have f18 := HM2.out.froz 18
    rw [hk] at c18
    have k5 := HC2.out.cell (HE2.out 5 _ rfl)
    go_region
    have hm3 : NMem ((w2.setCell ⟨g, 18, none⟩ (.int .i64 ((k : Int) + (len : Int)))).drew) g (csl gb bs.length cb) (wsl gw m.W.length) (csl gk bs.length bs.length) { m with at_ := m.at_ + len } l := (HM2.out.set 18 _ (by rw [hk]; rfl)).drew
    have ho3 : Only [g] w2 ((w2.setCell ⟨g, 18, none⟩ (.int .i64 ((k : Int) + (len : Int)))).drew) := ((Only.refl _ _).set _ (by simp)).drew
    have hc3 := HC2.out.keep ho3 (by simp; exact fun e => HDI.out.1 e.symm)
    have hw3 := HWM2.out.keep ho3 (by simp; exact fun e => HDI.out.2.1 e.symm)
    have HO3 := Lib.hid (HO2.out.trans (ho3.mono (T := [g, gk, gw]) (by simp)))
    clear c18 f18 k5 ho3
    generalize (w2.setCell ⟨g, 18, none⟩ (.int .i64 ((k : Int) + (len : Int)))).drew = w3 at *
    have k1 := hc3.cell (HE2.out 1 _ rfl)
    have k2 := hc3.cell (HE2.out 2 _ rfl)
    have k3 := hc3.cell (HE2.out 3 _ rfl)
    have k4 := hc3.cell (HE2.out 4 _ rfl)
    have DO := do33 g gw _ _ { m with at_ := m.at_ + len } l op a b n ho1 ho2 HRG.out ha hb hn (by show 0 ≤ m.at_ + (len : Int) ∧ m.at_ + (len : Int) ≤ 1000000; have := HBY.out.2; omega) hwl (fun e => HDI.out.2.1 e.symm) w3 hm3 hw3
    have XO := exA_ok { m with at_ := m.at_ + len } op a b n HRG.out HWO.out ho1 ho2 ha hb hn
    have XV := exA_over { m with at_ := m.at_ + len } op a b n ho1 ho2
    have XS := exA_s { m with at_ := m.at_ + len } op a b n ho1 ho2
    have hst : ∀ s, (exA { m with at_ := m.at_ + len } op a b n).2 = s → stepP m (.ok op a b n len) = if s = 5 ∨ s = 4 then ({ (exA { m with at_ := m.at_ + len } op a b n).1 with at_ := m.at_, over := s }, s) else if s = 2 then ({ (exA { m with at_ := m.at_ + len } op a b n).1 with over := 2 }, 2) else exA { m with at_ := m.at_ + len } op a b n := fun s hs => by
      simp only [stepP, Int.toNat_natCast, hs]
    obtain ⟨s, hs⟩ : ∃ s, (exA { m with at_ := m.at_ + len } op a b n).2 = s := ⟨_, rfl⟩
    obtain ⟨M2, hM2⟩ : ∃ M2, (exA { m with at_ := m.at_ + len } op a b n).1 = M2 := ⟨_, rfl⟩
    have hst := hst s hs
    have hex : exA { m with at_ := m.at_ + len } op a b n = (M2, s) := by rw [← hM2, ← hs]
    rw [hM2] at DO XO XV
    rw [hs] at DO XS
    rw [hex] at hst
    have HC3 := Lib.hid hc3; clear hc3
    have HD := Lib.hid DO; clear DO
    have fin : ∀ (w4 w5 : World) (m' : Mach) (l' : Int), stepP m (.ok op a b n len) = (m', l') → m'.W = M2.W → m'.R = M2.R → LOk m' l' → M2.W.length = m.W.length → Only [g, gw] w3 w4 → WMem w4 gw M2.W → Only [g] w4 w5 → NMem w5 g (csl gb bs.length cb) (wsl gw m.W.length) (csl gk bs.length bs.length) m' l' → RPost g gk gw gb cb bs m (.ok op a b n len) w (.returned (.int .i64 l')) w5 := by
      intro w4 w5 m' l' he hW hRR hl hWl ho4 hw4 ho5 hm5
      have hdis := HDI.out
      have ho35 : Only [g, gw] w3 w5 := ho4.trans (ho5.mono (by simp))
      have ho : Only [g, gk, gw] w w5 := HO3.out.trans (ho35.mono (by simp))
      unfold RPost
      rw [he]
      refine ⟨rfl, ⟨by rw [hW, hWl]; exact hm5, ⟨_, HC3.out.keep ho35 (by simp; exact ⟨fun e => hdis.1 e.symm, hdis.2.2.2.1⟩)⟩, HW.out.keep ho (by simp; exact ⟨fun e => hdis.2.2.1 e.symm, fun e => hdis.2.2.2.2.1 e.symm, fun e => hdis.2.2.2.2.2 e.symm⟩), by rw [hW]; exact hw4.keep ho5 (by simp; exact fun e => hdis.2.1 e.symm), hdis, HCAP.out, HBY.out, fun r hr => by rw [hRR]; exact XO.1 r hr⟩, hl, fun i hi => by rw [hW] at hi ⊢; exact XO.2 i hi, by rw [hW]; exact hWl, ho⟩
    have FIN := Lib.hid fin; clear fin
    have HST := Lib.hid hst; clear hst
    have HXV := Lib.hid XV
    clear XO hM2 hex hm3 hw3 XV hs
    have hs45 : s = 5 ∨ s = 4 ∨ (s = 1 ∨ s = 2 ∨ s = 3) := by omega
    rcases hs45 with rfl | rfl | hs3
    · clear XS
      go_wp2_with (go_at_call 33; (with_reducible refine HD.out.mono ?_); unfold DoP; rintro e w4 ⟨rfl, hm4, hw4, hl4, ho4⟩; have c23 := hm4.cell 23 rfl; have f23 := hm4.froz 23; have f18 := hm4.froz 18; have c18 := hm4.cell 18 rfl; have HM4 := Lib.hid hm4; have HW4 := Lib.hid hw4; have HO4 := Lib.hid ho4; clear hm4 hw4 ho4)
      go_ret
      exact FIN.out _ _ { M2 with at_ := m.at_, over := 5 } 5 (by rw [HST.out, if_pos (by simp)]) rfl rfl (by unfold LOk; simp) hl4 HO4.out HW4.out (((Only.refl _ _).set _ (by simp)).set _ (by simp)) ((HM4.out.set 23 (.int .i64 5) (m' := M2) (l' := 5) rfl).set 18 (.int .i64 (k : Int)) (by rw [hk]; rfl))
    · clear XS
      go_wp2_with (go_at_call 33; (with_reducible refine HD.out.mono ?_); unfold DoP; rintro e w4 ⟨rfl, hm4, hw4, hl4, ho4⟩; have c23 := hm4.cell 23 rfl; have f23 := hm4.froz 23; have f18 := hm4.froz 18; have c18 := hm4.cell 18 rfl; have HM4 := Lib.hid hm4; have HW4 := Lib.hid hw4; have HO4 := Lib.hid ho4; clear hm4 hw4 ho4)
      go_ret
      exact FIN.out _ _ { M2 with at_ := m.at_, over := 4 } 4 (by rw [HST.out, if_pos (by simp)]) rfl rfl (by unfold LOk; simp) hl4 HO4.out HW4.out (((Only.refl _ _).set _ (by simp)).set _ (by simp)) ((HM4.out.set 23 (.int .i64 4) (m' := M2) (l' := 4) rfl).set 18 (.int .i64 (k : Int)) (by rw [hk]; rfl))
    · have z1 : (s == 5) = false := by simp; omega
      have z2 : (s == 4) = false := by simp; omega
      have HS3 := Lib.hid hs3; clear hs3 XS
      go_wp2_with (go_at_call 33; (with_reducible refine HD.out.mono ?_); unfold DoP; rintro e w4 ⟨rfl, hm4, hw4, hl4, ho4⟩; have c23 := hm4.cell 23 rfl; have f23 := hm4.froz 23; have f18 := hm4.froz 18; have c18 := hm4.cell 18 rfl; have HM4 := Lib.hid hm4; have HW4 := Lib.hid hw4; have HO4 := Lib.hid ho4; clear hm4 hw4 ho4)
      go_ret
      have hs := HS3.out
      have hxv : M2.over = 0 := HXV.out.trans hover
      by_cases h2 : s = 2
      · subst h2
        exact FIN.out _ _ { M2 with over := 2 } 2 (by rw [HST.out, if_neg (by simp), if_pos rfl]) rfl rfl (by unfold LOk; simp) hl4 HO4.out HW4.out ((Only.refl _ _).set _ (by simp)) (HM4.out.set 23 (.int .i64 2) (m' := { M2 with over := 2 }) (l' := 2) rfl)
      · exact FIN.out _ _ M2 s (by rw [HST.out, if_neg (by omega), if_neg h2]) rfl rfl (by unfold LOk; rw [if_neg (by omega)]; exact hxv) hl4 HO4.out HW4.out ((Only.refl _ _).set _ (by simp)) (HM4.out.set 23 (.int .i64 s) (m' := M2) (l' := s) rfl)
theorem step25_err (g gk gw gb cb k : Nat) (bs : List Int) (m : Mach) (l : Int) (er : Int) (c : Array Value) (w : World) (h : RefW w g gk gw gb cb bs m l) (hov : ¬ (l = 2 ∨ l = 4 ∨ l = 5)) (hlo : LOk m l) (hwo : WOk m) (hwl : m.W.length ≤ 1000) (hk : m.at_ = (k : Int)) (hkl : k < bs.length)
    (hdat : DecAt bs m.at_ (.err er)) (her : er ≠ 0) (hc : EMem w gk bs c) (en : Ent) (he : ∀ j u, (ecell { en with done := false })[j]? = some u → c[k * 6 + j]? = some u) :
    Calls Try.prog 25 #[ptr g] w (RPost g gk gw gb cb bs m (.err er) w) := by
  have hover : m.over = 0 := by unfold LOk at hlo; rw [if_neg hov] at hlo; exact hlo
  obtain ⟨hm, _, hrow, hwm, hdis, hcap, hbyt, hregs⟩ := h
  have c23 := hm.cell 23 rfl
  have f23 := hm.froz 23
  have c0 := hm.cell 0 rfl
  have c18 := hm.cell 18 rfl
  have c24 := hm.cell 24 rfl
  rw [hk] at c18
  have x1 : (l == 2) = false := by simp; exact fun e => hov (.inl e)
  have x2 : (l == 4) = false := by simp; exact fun e => hov (.inr (.inl e))
  have x3 : (l == 5) = false := by simp; exact fun e => hov (.inr (.inr e))
  have d2 : decide ((bs.length : Int) ≤ (k : Int)) = false := decide_eq_false (by omega)
  have d3 : decide (bs.length ≤ k) = false := decide_eq_false (by omega)
  have hkb : (k : Int) < (bs.length : Int) := by omega
  have HM := Lib.hid hm; clear hm
  have HW := Lib.hid hrow; clear hrow
  have HWM := Lib.hid hwm; clear hwm
  have HDI := Lib.hid hdis; clear hdis
  have HCAP := Lib.hid hcap; clear hcap
  have HBY := Lib.hid hbyt; clear hbyt
  have HRG := Lib.hid hregs; clear hregs
  have HWO := Lib.hid hwo; clear hwo
  have HDA := Lib.hid hdat; clear hdat
  have HLO := Lib.hid hlo; clear hlo
  have k0 : w.cell? ⟨gk, k * 6, none⟩ = some (.bool false) := hc.cell (he 0 _ rfl)
  have C : ∀ W : World, Row W gb 0 bs → Calls Try.prog 32 #[csl gb bs.length cb, .int .i64 (k : Int)] W fun e w' => e = .returned (.tuple #[.agg #[.int .i64 (0), .int .i64 (0), .int .i64 (0), .int .i32 (0)], .int .i64 (0), .int .i64 (er)]) ∧ Below W.heap.size W w' := fun W hr => (decode20 gb 0 cb k bs W hkl HBY.out.2 HCAP.out.1 HCAP.out.2 HBY.out.1 hr).mono fun e w' hh => by
    obtain ⟨⟨d, hd, rfl⟩, hb⟩ := hh
    obtain rfl : d = .err er := (show DecAt bs m.at_ d from .inl ⟨by omega, by omega, by rw [hk]; exact hd⟩).unique HDA.out
    exact ⟨rfl, hb⟩
  have HCC := Lib.hid C; clear C
  have HC := Lib.hid hc; clear hc
  have HE := Lib.hid he; clear he
  go_enter Try.func25, Try.ntmps25
  go_wp2_with fail
  go_quiet (fail)
  generalize nq = n1 at *
  go_wp2_with fail
  go_quiet (fail)
  generalize nq = n2 at *
  go_wp2_with fail
  have HO1 : Hid (Only [g, gk, gw] w (w.drewN (n1 + n2))) := Lib.hid (only_drewN _ _ _)
  have hrwa : Row (w.drewN (n1 + n2)) gb 0 bs := ⟨HW.out.1, HW.out.2⟩
  have hma : NMem (w.drewN (n1 + n2)) g (csl gb bs.length cb) (wsl gw m.W.length) (csl gk bs.length bs.length) m l := ⟨HM.out.h⟩
  have hwa : WMem (w.drewN (n1 + n2)) gw m.W := ⟨HWM.out.h⟩
  have hca : EMem (w.drewN (n1 + n2)) gk bs c := ⟨HC.out.h, HC.out.size, HC.out.each⟩
  clear c23 f23 c0 c18 c24 k0
  generalize w.drewN (n1 + n2) = wa at *
  have c0' := hma.cell 0 rfl
  have c18' := hma.cell 18 rfl
  rw [hk] at c18'
  have hltg : g < wa.heap.size := block_lt hma.h
  have HRA := Lib.hid hrwa; clear hrwa
  have HMA := Lib.hid hma; clear hma
  have HWA := Lib.hid hwa; clear hwa
  have HCA := Lib.hid hca; clear hca
  go_cut [4, 5, 6] (fun v4 v5 v6 wc => ∃ q3 : Nat, v4 = ptr q3 ∧ v5 = .int .i64 (0) ∧ v6 = .int .i64 (er) ∧ Hid (wc.heap[q3]? = some (.cells #[.int .i64 (0), .int .i64 (0), .int .i64 (0), .int .i32 (0)] 63 (0, 0))) ∧ Hid (Below wa.heap.size wa wc))
  case first =>
    go_region_law (go_simp; go_at_call 32; refine (HCC.out _ (by first | exact HRA.out | exact ⟨HRA.out.1, HRA.out.2⟩ | exact HRA.out.mono (((Below.refl _ _).alloc (Nat.le_refl _) _).drew))).mono ?_; rintro e w2 ⟨rfl, hb2⟩; have hb3 : Below wa.heap.size wa w2 := (by first | exact ⟨hb2.os, hb2.tape, hb2.output, hb2.size, hb2.block⟩ | exact ((Below.refl wa.heap.size wa).alloc (Nat.le_refl _) _).trans (Below.mono ⟨hb2.os, hb2.tape, hb2.output, hb2.size, hb2.block⟩ (by simp))); have g0 := (hb3.cell (p := ⟨g, 0, none⟩) hltg).trans c0'; have g18 := (hb3.cell (p := ⟨g, 18, none⟩) hltg).trans c18'; first | (have zz : w2.heap[wa.heap.size]? = some Z30 := (hb2.block _ (by simp)).trans (heap_alloc_new wa _); obtain ⟨z0, z1, z2, z3⟩ := cells30 zz; obtain ⟨y0, y1, y2, y3⟩ := froz30 zz; have ZZ := Lib.hid zz; clear zz) | skip)
    all_goals go_wp2
    all_goals go_meet
    all_goals
      case rel =>
        refine ⟨_, rfl, rfl, rfl, Lib.hid ?_, Lib.hid ?_⟩
        · first
            | with_reducible exact heap_alloc_new _ _
            | with_reducible exact fin30 ZZ.out _ _ _ _
        · first
            | with_reducible exact hb3.alloc hb3.size _
            | with_reducible exact (((hb3.setCell (Nat.le_refl _) _).setCell (Nat.le_refl _) _).setCell (Nat.le_refl _) _).setCell (Nat.le_refl _) _
  case rest =>
    obtain ⟨q3, rfl, rfl, rfl, h3, hb3⟩ := hcut
    have HOC := Lib.hid (HO1.out.trans ((Only.below (S := []) hb3.out).mono (by simp)))
    have hmc := HMA.out.keep (Only.below (S := []) hb3.out) (by simp)
    have hwc := HWA.out.keep (Only.below (S := []) hb3.out) (by simp)
    have hcc := HCA.out.keep (Only.below (S := []) hb3.out) (by simp)
    have hq3 : q3 ≠ g ∧ q3 ≠ gw ∧ q3 ≠ gk := by
      have := h3.out
      refine ⟨fun e => ?_, fun e => ?_, fun e => ?_⟩ <;> subst e
      · rw [hmc.h] at this; simp at this
      · rw [hwc.h] at this; simp at this
      · rw [hcc.h] at this; simp at this
    clear c0' c18' hltg
    obtain ⟨hq1, hq2, hq4⟩ := hq3
    have hne : (er == 0) = false := by simp; exact her
    have c23 := hmc.cell 23 rfl
    have f23 := hmc.froz 23
    have HMC := Lib.hid hmc; clear hmc
    have HWC := Lib.hid hwc; clear hwc
    have HEC := Lib.hid hcc; clear hcc
    go_wp2_with fail
    go_ret
    have ho : Only [g, gk, gw] w (wc.setCell ⟨g, 23, none⟩ (.int .i64 5)) := HOC.out.set _ (by simp)
    have ho1 : Only [g] wc (wc.setCell ⟨g, 23, none⟩ (.int .i64 5)) := (Only.refl _ _).set _ (by simp)
    have hdis := HDI.out
    exact ⟨rfl, ⟨HMC.out.set 23 _ rfl, ⟨_, HEC.out.keep ho1 (by simp; exact fun e => hdis.1 e.symm)⟩, HW.out.keep ho (by simp; exact ⟨fun e => hdis.2.2.1 e.symm, fun e => hdis.2.2.2.2.1 e.symm, fun e => hdis.2.2.2.2.2 e.symm⟩), HWC.out.keep ho1 (by simp; exact fun e => hdis.2.1 e.symm), hdis, HCAP.out, HBY.out, HRG.out⟩, by unfold LOk; simp [stepP], HWO.out, rfl, ho⟩
end Go.Proofs.Ytpcocfdgcihpdaa.rdw
