/-
  alloc.Right: what it asks.
-/
import Derived.Test.YtkejnhmhbmbhcaaAlX
import Derived.Maps.Views
import Derived.Maps.OwnOps
import Derived.Deep.AppendLies
set_option maxHeartbeats 64000000
set_option maxRecDepth 1000000
set_option linter.unusedVariables false
set_option linter.unusedSimpArgs false
namespace Go.Proofs.Ytkejnhmhbmbhcaa.al
open Go Go.RowKit Go.BigFrame Go.Maps
open Go.Proofs.Ytkejnhmhbmbhcaa
theorem key3 : Keyed Try.prog 3 := int_keyed Try.underlying3
theorem zero3 (w : World) : (zeroValue 3).run Try.prog w = .ok (.int .i64 0) w := by kernel_rfl
def MapM (w : World) (b m : Nat) (f : Int → Nat) : Prop :=
  ∃ D : DataW Unit, w.ownsMap Try.prog 3 (plainElem Try.prog 3) b m D ∧ IsMap D ∧ ∀ q : Int, D.atKey (.int .i64 q) (.lit (.int .i64 0)) = .lit (.int .i64 (f q : Int))
theorem MapM.made (w : World) : MapM (w.alloc (.map #[] 0)) w.heap.size 0 (fun _ => 0) := ⟨.map [], World.ownsMap_made _ _ _ _, isMap_empty, fun q => rfl⟩
theorem MapM.kept {w w' : World} {b m : Nat} {f : Int → Nat} {S : List Nat} (h : MapM w b m f) (ho : Only S w w') (hb : b ∉ S) : MapM w' b m f := by
  obtain ⟨D, h1, h2, h3⟩ := h
  refine ⟨D, ?_, h2, h3⟩
  have hlt := h1.lt
  obtain ⟨es, clock, hbb, F, hs, hD⟩ := h1
  exact ⟨es, clock, (ho.same b hlt hb).trans hbb, F, hs, hD⟩
theorem MapM.put {w' : World} {b m : Nat} {f : Int → Nat} {D : DataW Unit} {q : Int} {c : Nat} (h1 : w'.ownsMap Try.prog 3 (plainElem Try.prog 3) b m (D.put (.int .i64 q) (.lit (.int .i64 (c : Int))))) (h2 : IsMap D) (h3 : ∀ q : Int, D.atKey (.int .i64 q) (.lit (.int .i64 0)) = .lit (.int .i64 (f q : Int))) : MapM w' b m (fun x => if x = q then c else f x) := by
  refine ⟨_, h1, h2.put _ _, fun x => ?_⟩
  by_cases e : x = q
  · subst e
    simp only [if_true]
    exact atKey_put_same h2 (show WideAt.IsKeyLit (.int .i64 x) from trivial) _ _
  · simp only [if_neg e]
    rw [atKey_put_other (by simpa using e)]
    exact h3 x
theorem wf_small {q : Int} (h : -1 ≤ q ∧ q ≤ 100000) : (Lit.int .i64 q).wf = true := by
  simp [Lit.wf, IntKind.min, IntKind.max, IntKind.signed, IntKind.bits]; omega
def cq (reg spill : Nat → Int) : Nat → Int → Nat
  | 0, _ => 0
  | i + 1, q => cq reg spill i q + (if reg i = -1 ∧ spill i = q then 1 else 0)
theorem cq_le (reg spill : Nat → Int) (q : Int) : ∀ i, cq reg spill i q ≤ i
  | 0 => Nat.le_refl _
  | i + 1 => by have := cq_le reg spill q i; simp only [cq]; split <;> omega
def Form (N : Nat) (reg spill : Nat → Int) : Prop := ∀ i, i < N → (∃ r : Nat, reg i = (r : Int) ∧ spill i = -1) ∨ (reg i = -1 ∧ ∃ q : Nat, q ≤ 1000 ∧ spill i = (q : Int))
def okAt (s : AlScan.Sps) (V reg spill : Nat → Int) (R i : Nat) : Prop :=
  V i = s.V i ∧ reg i < (R : Int) ∧ (∀ k, k < i → ¬ (0 ≤ reg i ∧ reg k = reg i ∧ s.F k ≤ s.T i ∧ s.F i ≤ s.T k)) ∧ cq reg spill (i + 1) (spill i) ≤ 1
def RightP (s : AlScan.Sps) (V reg spill : Nat → Int) (R N : Nat) : Prop := ∀ i, i < N → okAt s V reg spill R i
def RgO (P : Prop) (w : World) (e : Ending) (w' : World) : Prop := Below w.heap.size w w' ∧ ((P ∧ e = .returned (.bool true)) ∨ (¬ P ∧ e = .returned (.bool false)))
theorem cq_neg {N : Nat} {reg spill : Nat → Int} (h : Form N reg spill) : ∀ i, i ≤ N → cq reg spill i (-1) = 0
  | 0, _ => rfl
  | i + 1, hi => by
    simp only [cq]
    rw [cq_neg h i (by omega), if_neg]
    rintro ⟨e1, e2⟩
    rcases h i (by omega) with ⟨r, e3, _⟩ | ⟨_, q, _, e3⟩ <;> omega
theorem MapM.mono {w : World} {b m m' : Nat} {f : Int → Nat} (h : MapM w b m f) (hm : m ≤ m') : MapM w b m' f := by
  obtain ⟨D, h1, h2, h3⟩ := h
  exact ⟨D, h1.mono hm, h2, h3⟩
theorem MapM.of {w : World} {b m : Nat} {f f' : Int → Nat} (h : MapM w b m f) (e : f = f') : MapM w b m f' := e ▸ h
theorem MapM.lt {w : World} {b m : Nat} {f : Int → Nat} (h : MapM w b m f) : b < w.heap.size := by
  obtain ⟨D, h1, _⟩ := h
  exact h1.lt
theorem only_below {w w' : World} (ho : Below w.heap.size w w') : Only [] w w' := ⟨ho.os, ho.tape, ho.output, ho.size, fun c hc _ => ho.block c hc⟩
theorem cell_below {w w' : World} {b o : Nat} {v : Value} (h : w.cell? ⟨b, o, none⟩ = some v) (ho : Below w.heap.size w w') : w'.cell? ⟨b, o, none⟩ = some v := cell_keep h (only_below ho) (by simp)
theorem no_next {k : Nat} {P : Nat → Prop} (h : ∀ k', k' < k → ¬ P k') (h' : ¬ P k) : ∀ k', k' < k + 1 → ¬ P k' := fun k' hk => by
  by_cases e : k' = k
  · rw [e]; exact h'
  · exact h k' (by omega)
structure RgS (w wq : World) (b i : Nat) (reg spill : Nat → Int) : Prop where
  mp : MapM wq b i (cq reg spill i)
  bw : Below w.heap.size w wq
  hb : w.heap.size ≤ b
theorem right13 (lo : Option Addr) (N cap ob cp R : Nat) (s : AlScan.Sps) (V reg spill : Nat → Int) (hN : N ≤ 256) (hcp : N ≤ cp) (hR : R ≤ 100) (hform : Form N reg spill) (w : World) (hs : SpV w (.slice lo N cap) N s) (hp : PlM w ob N V reg spill) (hob : ob < w.heap.size) :
    Calls Try.prog 13 #[.slice lo N cap, .slice (some ⟨ob, 0, none⟩) N cp, .int .i64 (R : Int)] w (RgO (RightP s V reg spill R N) w) := by
  have HS := Lib.hid hs
  have HP := Lib.hid hp
  have HF := Lib.hid hform
  have hmm := @run_makeMap Try.prog
  clear hs hp hform
  go_enter Try.func13, Try.ntmps13
  go_wp2_with fail
  have hst : RgS w (w.alloc (.map #[] 0)) w.heap.size 0 reg spill := ⟨MapM.made w, (Below.refl _ _).alloc (Nat.le_refl _) _, Nat.le_refl _⟩
  generalize hW1 : w.alloc (Obj.map #[] 0) = w1 at hst ⊢
  generalize hbb : w.heap.size = b at hst ⊢
  have HST := Lib.hid (show RgS w w1 b 0 reg spill from hst)
  have HBB := Lib.hid hbb
  clear hst hW1 hbb
  go_loopw [22] (fun u wq => ∃ i : Nat, i ≤ N ∧ u = .int .i64 (i : Int) ∧ Hid (RgS w wq b i reg spill ∧ ∀ j, j < i → okAt s V reg spill R j)) (fun u _ => N - (intOf u).toNat)
  case atStart => exact ⟨0, by omega, rfl, Lib.hid ⟨HST.out, fun j hj => absurd hj (by omega)⟩⟩
  case round =>
    clear HST w1
    obtain ⟨i, hi, rfl, hM⟩ := hrel
    by_cases hiN : i < N
    · have b1 : (i : Int) < (N : Int) := by omega
      obtain ⟨hRG, hok⟩ := hM.out
      have hP := HP.out.below hob hRG.bw
      have p0 := hP.v i hiN
      have p1 := hP.r i hiN
      have p2 := hP.s i hiN
      have hSw : ∃ bs off, lo = some ⟨bs, off, none⟩ ∧ SpW wr bs off N s := by
        obtain ⟨o2, c2, he, h2⟩ := HS.out.below hRG.bw
        injection he with h3 h4 h5
        subst h3
        exact h2 (by omega)
      obtain ⟨bs, off, rfl, hsw⟩ := hSw
      have cv := hsw.v i hiN
      have hbsw : bs < wr.heap.size := World.block_lt_of_cell? wr _ cv
      have hobw : ob < wr.heap.size := World.block_lt_of_cell? wr _ p0
      have HRG := Lib.hid hRG
      have HOK := Lib.hid hok
      have HSW := Lib.hid hsw
      have HB := Lib.hid hRG.bw
      have HPW := Lib.hid hP
      rcases HF.out i hiN with ⟨r, e1, e2⟩ | ⟨e1, q, hq, e2⟩
      · rw [e1] at p1
        rw [e2] at p2
        have HRE := Lib.hid (And.intro e1 e2)
        have d1 : decide ((0 : Int) ≤ (r : Int)) = true := by simp
        have d2 : ((r : Int) == -1) = false := by simp <;> omega
        have d3 : ((-1 : Int) == -1) = true := by decide
        clear hM hRG hok hsw hP e1 e2
        by_cases hv : V i = s.V i
        · rw [hv] at p0
          have HV := Lib.hid hv
          clear hv
          by_cases hr : r < R
          · have d4 : decide ((r : Int) < (R : Int)) = true := by simp; omega
            have d4' : decide (r < R) = true := by simp; omega
            as_aux_lemma =>
              go_wp2_with fail
              go_quiet (fail)
              go_wp2_with fail
              have hm2 : MapM ((wr.alloc (.cells #[.int .i64 (s.V i), .int .i64 (r : Int), .int .i64 (-1)] 33)).drewN nq) b (i + 1) (cq reg spill (i + 1)) := ((HRG.out.mp.kept (S := []) (only_below (bel_drewN ((Below.refl _ _).alloc (Nat.le_refl _) _) _)) (by simp)).mono (Nat.le_succ _)).of (funext fun x => by simp only [cq]; rw [if_neg (by rintro ⟨e, _⟩; have := HRE.out.1; omega)]; simp)
              generalize hW2 : (wr.alloc (.cells #[.int .i64 (s.V i), .int .i64 (r : Int), .int .i64 (-1)] 33)).drewN nq = w2 at hm2 ⊢
              have hb2 : Below w.heap.size w w2 := by rw [← hW2]; exact HB.out.trans ((bel_drewN ((Below.refl _ _).alloc (Nat.le_refl _) _) _).mono HB.out.size)
              have hx1 : w2.cell? ⟨wr.heap.size, 1, none⟩ = some (.int .i64 (r : Int)) := by rw [← hW2]; simp
              have hx2 : w2.cell? ⟨wr.heap.size, 2, none⟩ = some (.int .i64 (-1)) := by rw [← hW2]; simp
              have hxl : wr.heap.size < w2.heap.size := by rw [← hW2]; simp
              clear hW2
              generalize hx9 : wr.heap.size = x9 at hx1 hx2 hxl ⊢
              have HM2 := Lib.hid hm2
              have HB2 := Lib.hid hb2
              have HX := Lib.hid (And.intro hx1 (And.intro hx2 hxl))
              clear hm2 hb2 hx1 hx2 hxl hx9 p0 p1 p2 cv hbsw hobw
              go_loopw [75] (fun u wq => ∃ k : Nat, k ≤ i ∧ u = .int .i64 (k : Int) ∧ Hid (Below w2.heap.size w2 wq ∧ ∀ k', k' < k → ¬ (0 ≤ reg i ∧ reg k' = reg i ∧ s.F k' ≤ s.T i ∧ s.F i ≤ s.T k'))) (fun u _ => i - (intOf u).toNat)
              case atStart => exact ⟨0, by omega, rfl, Lib.hid ⟨Below.refl _ _, fun k hk => absurd hk (by omega)⟩⟩
              case round =>
                obtain ⟨k, hk, rfl, hM⟩ := hrel
                obtain ⟨hbb, hno⟩ := hM.out
                have hbw := HB2.out.trans (hbb.mono HB2.out.size)
                have y1 := cell_below HX.out.1 hbb
                have y2 := cell_below HX.out.2.1 hbb
                have hxw : x9 < wr.heap.size := by have := HX.out.2.2; have := hbb.size; omega
                by_cases hki : k < i
                · have bk : (k : Int) < (i : Int) := by omega
                  have bkN : (k : Int) < (N : Int) := by omega
                  have hkN : k < N := by omega
                  have hP := HP.out.below hob hbw
                  have p0 := hP.v k hkN
                  have p1 := hP.r k hkN
                  have p2 := hP.s k hkN
                  have hsw2 : SpW wr bs off N s := by
                    obtain ⟨o2, c2, he, h2⟩ := HS.out.below hbw
                    injection he with h3 h4 h5
                    obtain ⟨bs2, off2, e, h6⟩ := h2 (by omega)
                    rw [← h3] at e
                    injection e with e
                    injection e with e1 e2
                    subst e1 e2
                    exact h6
                  have fk := hsw2.f k hkN
                  have tk := hsw2.t k hkN
                  have fi := hsw2.f i hiN
                  have ti := hsw2.t i hiN
                  have hbsw : bs < wr.heap.size := World.block_lt_of_cell? wr _ fk
                  have hobw : ob < wr.heap.size := World.block_lt_of_cell? wr _ p0
                  have HBW := Lib.hid hbw
                  have HNO := Lib.hid hno
                  have HBB2 := Lib.hid hbb
                  clear hM hbb hno hbw hP hsw2
                  by_cases g1 : reg k = (r : Int)
                  · have g1d : (reg k == (r : Int)) = true := by simp [g1]
                    rw [g1] at p1
                    have g1e : ((r : Int) == (r : Int)) = true := by simp
                    by_cases g2 : s.F k ≤ s.T i
                    · have g2d : decide (s.F k ≤ s.T i) = true := decide_eq_true g2
                      by_cases g3 : s.F i ≤ s.T k
                      · have g3d : decide (s.F i ≤ s.T k) = true := decide_eq_true g3
                        have HBAD := Lib.hid (And.intro g1 (And.intro g2 g3))
                        clear g1 g2 g3
                        go_wp2_with fail
                        go_quiet (fail)
                        go_wp2_with fail
                        go_ret
                        exact ⟨HBW.out.trans ((bel_drewN ((Below.refl _ _).alloc (Nat.le_refl _) _) _).mono HBW.out.size), .inr ⟨fun hg => (hg i hiN).2.2.1 k hki ⟨by rw [HRE.out.1]; omega, by rw [HRE.out.1]; exact HBAD.out.1, HBAD.out.2.1, HBAD.out.2.2⟩, rfl⟩⟩
                      · have g3d : decide (s.F i ≤ s.T k) = false := decide_eq_false g3
                        have HBAD := Lib.hid (show ¬ (0 ≤ reg i ∧ reg k = reg i ∧ s.F k ≤ s.T i ∧ s.F i ≤ s.T k) from fun h => g3 h.2.2.2)
                        clear g1 g2 g3
                        go_wp2_with fail
                        go_quiet (fail)
                        go_wp2_with fail
                        exact ⟨⟨k + 1, hki, by first | rfl | simp, Lib.hid ⟨HBB2.out.trans ((bel_drewN ((Below.refl _ _).alloc (Nat.le_refl _) _) _).mono HBB2.out.size), no_next HNO.out (HBAD.out)⟩⟩, by simp [intOf] <;> omega⟩
                    · have g2d : decide (s.F k ≤ s.T i) = false := decide_eq_false g2
                      have HBAD := Lib.hid (show ¬ (0 ≤ reg i ∧ reg k = reg i ∧ s.F k ≤ s.T i ∧ s.F i ≤ s.T k) from fun h => g2 h.2.2.1)
                      clear g1 g2
                      go_wp2_with fail
                      go_quiet (fail)
                      go_wp2_with fail
                      exact ⟨⟨k + 1, hki, by first | rfl | simp, Lib.hid ⟨HBB2.out.trans ((bel_drewN ((Below.refl _ _).alloc (Nat.le_refl _) _) _).mono HBB2.out.size), no_next HNO.out (HBAD.out)⟩⟩, by simp [intOf] <;> omega⟩
                  · have g1d : (reg k == (r : Int)) = false := by simp; exact g1
                    have HBAD := Lib.hid (show ¬ (0 ≤ reg i ∧ reg k = reg i ∧ s.F k ≤ s.T i ∧ s.F i ≤ s.T k) from fun h => g1 (h.2.1.trans HRE.out.1))
                    clear g1
                    go_wp2_with fail
                    go_quiet (fail)
                    go_wp2_with fail
                    exact ⟨⟨k + 1, hki, by first | rfl | simp, Lib.hid ⟨HBB2.out.trans ((bel_drewN ((Below.refl _ _).alloc (Nat.le_refl _) _) _).mono HBB2.out.size), no_next HNO.out (HBAD.out)⟩⟩, by simp [intOf] <;> omega⟩
                · have bk : ¬ (k : Int) < (i : Int) := by omega
                  obtain rfl : i = k := by omega
                  have hm3 := HM2.out.kept (only_below hbb) (by simp)
                  obtain ⟨D, hD1, hD2, hD3⟩ := hm3
                  have hkey : keyOf Try.prog 3 (.int .i64 (-1)) = some (.int .i64 (-1)) := keyOf_int_mk Try.underlying3 (wf_small (by omega))
                  obtain ⟨ff, hff⟩ : ∃ ff, cq reg spill (i + 1) (-1) = ff := ⟨_, rfl⟩
                  have hD4 := hD3 (-1)
                  rw [hff] at hD4
                  have HD := Lib.hid (And.intro hD2 hD3)
                  have HBW := Lib.hid hbw
                  have HNO := Lib.hid hno
                  have HFF := Lib.hid hff
                  have HD1 := Lib.hid hD1
                  clear hM hbb hno hbw hD2 hD3 hff
                  by_cases hle : ff ≤ 1
                  · have hd : decide ((1 : Int) < (ff : Int)) = false := by simp; omega
                    have hd' : decide (1 < ff) = false := by simp; omega
                    go_wp2_with (at_lookup; refine wpList_lookup_own_int _ rfl _ _ 59 rfl 3 3 .i64 key3 Try.underlying59 Try.underlying3 (zero3 _) b (i + 1) _ rfl hD1 _ _ rfl hkey ?_; intro c hat hwc; have hc : c = (ff : Int) := (by rw [hD4] at hat; injection hat with hat; injection hat with _ hat; exact hat.symm); subst hc)
                    have hoki : okAt s V reg spill R i := ⟨HV.out, by have := HRE.out.1; omega, fun k hk => HNO.out k hk, by rw [HRE.out.2, HFF.out]; exact hle⟩
                    refine ⟨⟨i + 1, hiN, by first | rfl | simp, Lib.hid ⟨⟨⟨D, HD1.out, HD.out.1, HD.out.2⟩, HBW.out, HRG.out.hb⟩, fun j hj => ?_⟩⟩, by simp [intOf] <;> omega⟩
                    by_cases e : j = i
                    · rw [e]; exact hoki
                    · exact HOK.out j (by omega)
                  · have hd : decide ((1 : Int) < (ff : Int)) = true := by simp; omega
                    have hd' : decide (1 < ff) = true := by simp; omega
                    go_wp2_with (at_lookup; refine wpList_lookup_own_int _ rfl _ _ 59 rfl 3 3 .i64 key3 Try.underlying59 Try.underlying3 (zero3 _) b (i + 1) _ rfl hD1 _ _ rfl hkey ?_; intro c hat hwc; have hc : c = (ff : Int) := (by rw [hD4] at hat; injection hat with hat; injection hat with _ hat; exact hat.symm); subst hc)
                    go_ret
                    exact ⟨HBW.out, .inr ⟨fun hg => hle (by have := (hg i hiN).2.2.2; rw [HRE.out.2, HFF.out] at this; exact this), rfl⟩⟩
          · have d4 : decide ((r : Int) < (R : Int)) = false := by simp; omega
            have d4' : decide (r < R) = false := by simp; omega
            as_aux_lemma =>
              go_wp2_with fail
              go_quiet (fail)
              go_wp2_with fail
              go_ret
              exact ⟨HB.out.trans ((bel_drewN ((Below.refl _ _).alloc (Nat.le_refl _) _) _).mono HB.out.size), .inr ⟨fun hg => by have h1 := (hg i hiN).2.1; have := HRE.out.1; omega, rfl⟩⟩
        · have hv1 : (V i != s.V i) = true := by simp; exact hv
          have HV := Lib.hid hv
          clear hv
          by_cases hr : r < R
          · have d4 : decide ((r : Int) < (R : Int)) = true := by simp; omega
            have d4' : decide (r < R) = true := by simp; omega
            as_aux_lemma =>
              go_wp2_with fail
              go_quiet (fail)
              go_wp2_with fail
              go_ret
              exact ⟨HB.out.trans ((bel_drewN ((Below.refl _ _).alloc (Nat.le_refl _) _) _).mono HB.out.size), .inr ⟨fun hg => HV.out (hg i hiN).1, rfl⟩⟩
          · have d4 : decide ((r : Int) < (R : Int)) = false := by simp; omega
            have d4' : decide (r < R) = false := by simp; omega
            as_aux_lemma =>
              go_wp2_with fail
              go_quiet (fail)
              go_wp2_with fail
              go_ret
              exact ⟨HB.out.trans ((bel_drewN ((Below.refl _ _).alloc (Nat.le_refl _) _) _).mono HB.out.size), .inr ⟨fun hg => HV.out (hg i hiN).1, rfl⟩⟩
      · rw [e1] at p1
        rw [e2] at p2
        have HRE := Lib.hid (And.intro e1 e2)
        have d1 : decide ((0 : Int) ≤ -1) = false := by decide
        have d2 : ((-1 : Int) == -1) = true := by decide
        have d3 : decide ((0 : Int) ≤ (q : Int)) = true := by simp
        clear hM hRG hok hsw hP e1 e2
        by_cases hv : V i = s.V i
        · rw [hv] at p0
          have HV := Lib.hid hv
          clear hv
          as_aux_lemma =>
            go_wp2_with fail
            go_quiet (fail)
            obtain ⟨D, hD1, hD2, hD3⟩ := HRG.out.mp
            have hown := (hD1.alloc (.cells #[.int .i64 (s.V i), .int .i64 (-1), .int .i64 (q : Int)] 33) : ((wr.alloc (.cells #[.int .i64 (s.V i), .int .i64 (-1), .int .i64 (q : Int)] 33)).drewN nq).ownsMap Try.prog 3 (plainElem Try.prog 3) b i D)
            have hkey : keyOf Try.prog 3 (.int .i64 (q : Int)) = some (.int .i64 (q : Int)) := keyOf_int_mk Try.underlying3 (wf_small (by omega))
            have hcq := cq_le reg spill (q : Int) i
            obtain ⟨cc, hcc⟩ : ∃ cc, cq reg spill i (q : Int) = cc := ⟨_, rfl⟩
            have hD4 := hD3 (q : Int)
            rw [hcc] at hD4 hcq
            have HD3 := Lib.hid hD3
            have HCC := Lib.hid hcc
            clear hD3 hcc
            go_wp2_with (first
              | (at_lookup; refine wpList_lookup_own_int _ rfl _ _ 59 rfl 3 3 .i64 key3 Try.underlying59 Try.underlying3 (zero3 _) b i _ rfl hown _ _ rfl hkey ?_; intro c hat hwc; have hc : c = (cc : Int) := by (rw [hD4] at hat; injection hat with hat; injection hat with _ hat; exact hat.symm)
                 subst hc)
              | (at_mapUpdate; refine wpList_mapUpdate_own _ rfl _ _ _ 59 rfl 3 3 key3 Try.underlying59 _ b i _ rfl hown (by unfold maxLen; omega) _ _ _ rfl rfl hkey _ [] (plainElem_int Try.underlying3 (wf_small (by omega))) ?_; intro w2 hown2 hgrow2
                 have hm2 : MapM w2 b (i + 1) (fun x => if x = (q : Int) then cc + 1 else cq reg spill i x) := MapM.put (by simpa using hown2) hD2 HD3.out))
            have hbl := hD1.lt
            have hbw0 : Below w.heap.size w ((wr.alloc (.cells #[.int .i64 (s.V i), .int .i64 (-1), .int .i64 ((q : Int))] 33)).drewN nq) := HB.out.trans ((bel_drewN ((Below.refl _ _).alloc (Nat.le_refl _) _) _).mono HB.out.size)
            have hb2 : Below w.heap.size w w2 := hbw0.grown hgrow2 hbw0.size (fun j hj => by cases hj; exact HRG.out.hb)
            have hx1 : w2.cell? ⟨wr.heap.size, 1, none⟩ = some (.int .i64 (-1)) := (hgrow2.cell_far ⟨wr.heap.size, 1, none⟩ (by simp) (by simp; omega)).trans (by simp)
            have hx2 : w2.cell? ⟨wr.heap.size, 2, none⟩ = some (.int .i64 (q : Int)) := (hgrow2.cell_far ⟨wr.heap.size, 2, none⟩ (by simp) (by simp; omega)).trans (by simp)
            have hxl : wr.heap.size < w2.heap.size := by have := hgrow2.size; simp at this; omega
            have hm2 : MapM w2 b (i + 1) (cq reg spill (i + 1)) := hm2.of (funext fun x => by
              simp only [cq, HRE.out.1, HRE.out.2, true_and]
              by_cases e : x = (q : Int)
              · rw [if_pos e, if_pos e.symm, e, HCC.out]
              · rw [if_neg e, if_neg (fun h => e h.symm)]; simp)
            clear hbl hbw0 hown2 hgrow2 hD1 hD2 hD4 hown hkey hcq
            generalize hx9 : wr.heap.size = x9 at hx1 hx2 hxl ⊢
            have HM2 := Lib.hid hm2
            have HB2 := Lib.hid hb2
            have HX := Lib.hid (And.intro hx1 (And.intro hx2 hxl))
            clear hm2 hb2 hx1 hx2 hxl hx9 p0 p1 p2 cv hbsw hobw
            go_loopw [75] (fun u wq => ∃ k : Nat, k ≤ i ∧ u = .int .i64 (k : Int) ∧ Hid (Below w2.heap.size w2 wq ∧ ∀ k', k' < k → ¬ (0 ≤ reg i ∧ reg k' = reg i ∧ s.F k' ≤ s.T i ∧ s.F i ≤ s.T k'))) (fun u _ => i - (intOf u).toNat)
            case atStart => exact ⟨0, by omega, rfl, Lib.hid ⟨Below.refl _ _, fun k hk => absurd hk (by omega)⟩⟩
            case round =>
              obtain ⟨k, hk, rfl, hM⟩ := hrel
              obtain ⟨hbb, hno⟩ := hM.out
              have hbw := HB2.out.trans (hbb.mono HB2.out.size)
              have y1 := cell_below HX.out.1 hbb
              have y2 := cell_below HX.out.2.1 hbb
              have hxw : x9 < wr.heap.size := by have := HX.out.2.2; have := hbb.size; omega
              by_cases hki : k < i
              · have bk : (k : Int) < (i : Int) := by omega
                have bkN : (k : Int) < (N : Int) := by omega
                have hkN : k < N := by omega
                have hP := HP.out.below hob hbw
                have p0 := hP.v k hkN
                have p1 := hP.r k hkN
                have p2 := hP.s k hkN
                have hsw2 : SpW wr bs off N s := by
                  obtain ⟨o2, c2, he, h2⟩ := HS.out.below hbw
                  injection he with h3 h4 h5
                  obtain ⟨bs2, off2, e, h6⟩ := h2 (by omega)
                  rw [← h3] at e
                  injection e with e
                  injection e with e1 e2
                  subst e1 e2
                  exact h6
                have fk := hsw2.f k hkN
                have tk := hsw2.t k hkN
                have fi := hsw2.f i hiN
                have ti := hsw2.t i hiN
                have hbsw : bs < wr.heap.size := World.block_lt_of_cell? wr _ fk
                have hobw : ob < wr.heap.size := World.block_lt_of_cell? wr _ p0
                have HBW := Lib.hid hbw
                have HNO := Lib.hid hno
                have HBB2 := Lib.hid hbb
                clear hM hbb hno hbw hP hsw2
                have HBAD := Lib.hid (show ¬ (0 ≤ reg i ∧ reg k = reg i ∧ s.F k ≤ s.T i ∧ s.F i ≤ s.T k) from fun h => by have := h.1; have := HRE.out.1; omega)
                go_wp2_with fail
                go_quiet (fail)
                go_wp2_with fail
                exact ⟨⟨k + 1, hki, by first | rfl | simp, Lib.hid ⟨HBB2.out.trans ((bel_drewN ((Below.refl _ _).alloc (Nat.le_refl _) _) _).mono HBB2.out.size), no_next HNO.out (HBAD.out)⟩⟩, by simp [intOf] <;> omega⟩
              · have bk : ¬ (k : Int) < (i : Int) := by omega
                obtain rfl : i = k := by omega
                have hm3 := HM2.out.kept (only_below hbb) (by simp)
                obtain ⟨D, hD1, hD2, hD3⟩ := hm3
                have hkey : keyOf Try.prog 3 (.int .i64 ((q : Int))) = some (.int .i64 ((q : Int))) := keyOf_int_mk Try.underlying3 (wf_small (by omega))
                obtain ⟨ff, hff⟩ : ∃ ff, cq reg spill (i + 1) ((q : Int)) = ff := ⟨_, rfl⟩
                have hD4 := hD3 ((q : Int))
                rw [hff] at hD4
                have HD := Lib.hid (And.intro hD2 hD3)
                have HBW := Lib.hid hbw
                have HNO := Lib.hid hno
                have HFF := Lib.hid hff
                have HD1 := Lib.hid hD1
                clear hM hbb hno hbw hD2 hD3 hff
                by_cases hle : ff ≤ 1
                · have hd : decide ((1 : Int) < (ff : Int)) = false := by simp; omega
                  have hd' : decide (1 < ff) = false := by simp; omega
                  go_wp2_with (at_lookup; refine wpList_lookup_own_int _ rfl _ _ 59 rfl 3 3 .i64 key3 Try.underlying59 Try.underlying3 (zero3 _) b (i + 1) _ rfl hD1 _ _ rfl hkey ?_; intro c hat hwc; have hc : c = (ff : Int) := (by rw [hD4] at hat; injection hat with hat; injection hat with _ hat; exact hat.symm); subst hc)
                  have hoki : okAt s V reg spill R i := ⟨HV.out, by have := HRE.out.1; omega, fun k hk => HNO.out k hk, by rw [HRE.out.2, HFF.out]; exact hle⟩
                  refine ⟨⟨i + 1, hiN, by first | rfl | simp, Lib.hid ⟨⟨⟨D, HD1.out, HD.out.1, HD.out.2⟩, HBW.out, HRG.out.hb⟩, fun j hj => ?_⟩⟩, by simp [intOf] <;> omega⟩
                  by_cases e : j = i
                  · rw [e]; exact hoki
                  · exact HOK.out j (by omega)
                · have hd : decide ((1 : Int) < (ff : Int)) = true := by simp; omega
                  have hd' : decide (1 < ff) = true := by simp; omega
                  go_wp2_with (at_lookup; refine wpList_lookup_own_int _ rfl _ _ 59 rfl 3 3 .i64 key3 Try.underlying59 Try.underlying3 (zero3 _) b (i + 1) _ rfl hD1 _ _ rfl hkey ?_; intro c hat hwc; have hc : c = (ff : Int) := (by rw [hD4] at hat; injection hat with hat; injection hat with _ hat; exact hat.symm); subst hc)
                  go_ret
                  exact ⟨HBW.out, .inr ⟨fun hg => hle (by have := (hg i hiN).2.2.2; rw [HRE.out.2, HFF.out] at this; exact this), rfl⟩⟩
        · have hv1 : (V i != s.V i) = true := by simp; exact hv
          have HV := Lib.hid hv
          clear hv
          as_aux_lemma =>
            go_wp2_with fail
            go_quiet (fail)
            go_wp2_with fail
            go_ret
            exact ⟨HB.out.trans ((bel_drewN ((Below.refl _ _).alloc (Nat.le_refl _) _) _).mono HB.out.size), .inr ⟨fun hg => HV.out (hg i hiN).1, rfl⟩⟩
    · have b1 : ¬ (i : Int) < (N : Int) := by omega
      obtain rfl : N = i := by omega
      have HF2 := Lib.hid (And.intro hM.out.2 hM.out.1.bw)
      clear hM
      go_wp2_with fail
      go_ret
      exact ⟨HF2.out.2, .inl ⟨HF2.out.1, rfl⟩⟩
end Go.Proofs.Ytkejnhmhbmbhcaa.al
