/-
  caraferef22.Scan.
-/
import Derived.Test.YtkejnhmhbmbhcaaAlYb
set_option maxHeartbeats 64000000
set_option maxRecDepth 1000000
set_option linter.unusedVariables false
set_option linter.unusedSimpArgs false
namespace Go.Proofs.Ytkejnhmhbmbhcaa.al
open Go Go.RowKit Go.BigFrame
open Go.Proofs.Ytkejnhmhbmbhcaa
structure OrdS (s : AlScan.Sps) (w wq : World) (v : Value) (i : Nat) (D : Nat → Nat) : Prop where
  own : wq.ownsRow w.heap.size 3 1 v i (ints D i)
  ins : Ins s i D
  bw : Below w.heap.size w wq
  good : ∀ j, j < i → Good s j
theorem OrdS.drewN {s : AlScan.Sps} {w wq : World} {v : Value} {i : Nat} {D : Nat → Nat} (h : OrdS s w wq v i D) (m : Nat) : OrdS s w (wq.drewN m) v i D := ⟨h.own, h.ins, bel_drewN h.bw m, h.good⟩
theorem SpW.old {w wq : World} {bs off N : Nat} {s : AlScan.Sps} (h : SpW w bs off N s) (hN : 0 < N) (hb : Below w.heap.size w wq) : SpW wq bs off N s :=
  h.below (World.block_lt_of_cell? w ⟨bs, off + 0 * 3, none⟩ (h.v 0 hN)) hb
theorem info34 : (Try.prog.info? 34).map (fun i => (i.zero, i.size, i.bytes)) = some (some (.agg #[.int .i64 0, .int .i64 0, .int .i64 0]), 3, 24) := by kernel_rfl
theorem mk27 (L : Nat) (hL : L ≤ 100000) (w : World) : (Instr.makeSlice 27 (.int .i64 (L : Int)) (.int .i64 (L : Int))).run Try.prog w = .ok (.slice (some ⟨w.heap.size, 0, none⟩) L L) (w.alloc (.cells (madeCells #[.int .i64 0, .int .i64 0, .int .i64 0] (L * 3)) 34)) := by
  obtain ⟨i0, hi, hz0, hz1, hz2⟩ := info_parts info34
  have hr := run_make (P := Try.prog) w 27 34 i0 _ Try.underlying27 hi hz0 .i64 .i64 L L (by omega) (Int.le_refl _) (by rw [hz2]; omega) (by omega)
  simp only [Int.toNat_natCast, hz1] at hr
  exact hr
theorem ins_step2 (E : Nat → Nat) {j i : Nat} (hj : 0 < j) (hji : j ≤ i) : AlScan.upd (AlScan.upd (AlSo.ins E j i) (j - 1) (E i)) j (E (j - 1)) = AlSo.ins E (j - 1) i := by
  rw [← AlSo.ins_step E hj hji]
  have h1 : AlSo.ins E j i j = E i := if_pos rfl
  have h2 : AlSo.ins E j i (j - 1) = E (j - 1) := by unfold AlSo.ins; rw [if_neg (by omega), if_neg (by omega)]
  rw [h1, h2]
  funext x
  unfold AlScan.upd
  by_cases c1 : x = j
  · rw [if_pos c1, if_neg (by omega), if_pos c1]
  · rw [if_neg c1]
    by_cases c2 : x = j - 1
    · rw [if_pos c2, if_pos c2]
    · rw [if_neg c2, if_neg c2, if_neg c1]
theorem PlM.zero' {w : World} {g N t : Nat} (h : w.heap[g]? = some (.cells (madeCells #[.int .i64 0, .int .i64 0, .int .i64 0] (N * 3)) t (0, 0))) : PlM w g N (fun _ => 0) (fun _ => 0) (fun _ => 0) := by
  have key : ∀ j, j < N * 3 → w.cell? ⟨g, j, none⟩ = some (.int .i64 0) := fun j hj => by
    rw [cell_of_row w g j _ _ _ h]
    simp only [madeCells, Array.getElem?_map]
    rw [Array.getElem?_range, if_pos hj]
    simp only [Option.map_some]
    congr 1
    rcases (show j % 3 = 0 ∨ j % 3 = 1 ∨ j % 3 = 2 by omega) with e | e | e <;> simp [e]
  exact ⟨fun i hi => key _ (by omega), fun i hi => key _ (by omega), fun i hi => key _ (by omega), fun j => frozen_of_row w g j _ _ h⟩
theorem RefS.start {s : AlScan.Sps} {w wr : World} {ov : Option Addr} {N0 cpv : Nat} {D : Nat → Nat} {f : Nat → Int} (hI : Ins s N0 D) (hB : Below w.heap.size w wr) (hO : wr.ownsRow w.heap.size 3 1 (.slice ov N0 cpv) N0 (ints D N0)) (N R : Nat) (e : N0 = N := by rfl) (hf : f = fun _ => 0 := by rfl) :
    RefS w ((wr.alloc (Obj.cells (madeCells #[.int .i64 0, .int .i64 0, .int .i64 0] (N * 3)) 34)).alloc (Obj.cells (madeCells #[.int .i64 0] R) 3)) (.slice ov N cpv) wr.heap.size (wr.heap.size + 1) N R D (fun _ => 0) (fun _ => 0) (fun _ => 0) f := by
  subst e hf
  have hz := hB.size
  have b1 : Below wr.heap.size wr ((wr.alloc (Obj.cells (madeCells #[.int .i64 0, .int .i64 0, .int .i64 0] (N0 * 3)) 34)).alloc (Obj.cells (madeCells #[.int .i64 0] R) 3)) := ((Below.refl _ _).alloc (Nat.le_refl _) _).alloc (by simp) _
  have o1 : Only [] wr ((wr.alloc (Obj.cells (madeCells #[.int .i64 0, .int .i64 0, .int .i64 0] (N0 * 3)) 34)).alloc (Obj.cells (madeCells #[.int .i64 0] R) 3)) := ((Only.refl _ _).alloc _).alloc _
  refine ⟨own_keep hO o1 (fun g hg => by simp), fun g hg => (hO.lt g hg).2, ?_, ?_, hB.trans (b1.mono hz), hz, by omega, by simp⟩
  · refine PlM.zero' (t := 34) ?_
    rw [Below.heap_alloc _ _ _ (by simp)]
    exact heap_alloc_new wr _
  · have := heap_alloc_new (wr.alloc (Obj.cells (madeCells #[.int .i64 0, .int .i64 0, .int .i64 0] (N0 * 3)) 34)) (Obj.cells (madeCells #[.int .i64 0] R) 3)
    have h2 : ((wr.alloc (Obj.cells (madeCells #[.int .i64 0, .int .i64 0, .int .i64 0] (N0 * 3)) 34)).alloc (Obj.cells (madeCells #[.int .i64 0] R) 3)).heap[wr.heap.size + 1]? = some (.cells (madeCells #[.int .i64 0] R) 3 (0, 0)) := by simpa using this
    refine ⟨fun r hr => ?_, fun j => frozen_of_row _ _ j _ _ h2⟩
    rw [cell_of_row _ _ r _ _ _ h2]
    simp only [madeCells, Array.getElem?_map]
    rw [Array.getElem?_range, if_pos hr]
    simp [Nat.mod_one]
theorem ref8 (o : Option Addr) (N cap R : Nat) (s : AlScan.Sps) (hN : N ≤ 256) (hR : R ≤ 16) (w : World) (h : 0 < N → ∃ bs off, o = some ⟨bs, off, none⟩ ∧ SpW w bs off N s) :
    Calls Try.prog 8 #[.slice o N cap, .int .i64 (R : Int)] w (ScanO w R N s) := by
  have H := Lib.hid h
  have d1 : decide ((16 : Int) < (R : Int)) = false := by simp; omega
  have d2 : decide ((256 : Int) < (N : Int)) = false := by simp; omega
  obtain ⟨i3, hi3, hz30, hz31, hz32⟩ := info_parts info3
  clear h
  go_enter Try.func8, Try.ntmps8
  go_wp2_with fail
  go_loopw [7, 8] (fun v u wq => ∃ i : Nat, i ≤ N ∧ u = .int .i64 (i : Int) ∧ Hid (∃ D, OrdS s w wq v i D)) (fun _ u _ => N - (intOf u).toNat)
  case atStart => exact ⟨0, by omega, rfl, Lib.hid ⟨fun j => j, ⟨⟨rfl, .inl ⟨rfl, rfl⟩⟩, ⟨AlSo.Same.refl _ _ _, fun i j h1 h2 h3 => absurd h3 (by omega)⟩, Below.refl _ _, fun j hj => absurd hj (by omega)⟩⟩⟩
  case round =>
    obtain ⟨k, hk, rfl, hM⟩ := hrel
    by_cases hkN : k < N
    · have b1 : (k : Int) < (N : Int) := by omega
      obtain ⟨bs, off, rfl, hsw⟩ := H.out (by omega)
      obtain ⟨D, hD⟩ := hM.out
      have hS := hsw.old (by omega) hD.bw
      have cf := hS.f k hkN
      have ct := hS.t k hkN
      have cv := hS.v k hkN
      have HV := Lib.hid hS.v
      have HD := Lib.hid hD
      have HS := Lib.hid hsw
      have hown := hD.own
      have hbel := hD.bw
      clear hM hD hS hsw
      by_cases c1 : s.F k < 0
      · have d4 : decide (s.F k < 0) = true := decide_eq_true c1
        have HC := Lib.hid c1
        clear c1 hown hbel
        as_aux_lemma =>
          go_wp2_with fail
          go_quiet (fail)
          go_wp2_with fail
          go_ret3
          exact ⟨bel_drewN HD.out.bw _, .inl ⟨fun hg => absurd (hg k hkN) (fun hG => by have := hG.2.1; have := HC.out; omega), rfl⟩⟩
      · have d4 : decide (s.F k < 0) = false := decide_eq_false c1
        by_cases c2 : s.T k < s.F k
        · have d3 : decide (s.T k < s.F k) = true := decide_eq_true c2
          have HC := Lib.hid c2
          clear c1 c2 hown hbel
          as_aux_lemma =>
            go_wp2_with fail
            go_quiet (fail)
            go_wp2_with fail
            go_ret3
            exact ⟨bel_drewN HD.out.bw _, .inl ⟨fun hg => absurd (hg k hkN) (fun hG => by have := hG.1; have := HC.out; omega), rfl⟩⟩
        · have d3 : decide (s.T k < s.F k) = false := decide_eq_false c2
          have HC := Lib.hid (And.intro c1 c2)
          clear c1 c2
          by_cases hk0 : k = 0
          · have d5 : decide ((0 : Int) < (k : Int)) = false := by simp; omega
            have d5' : decide (0 < k) = false := by simp; omega
            have HK0 := Lib.hid hk0
            clear hk0
            as_aux_lemma =>
              have hgk : Good s k := ⟨by have := HC.out.2; omega, by have := HC.out.1; omega, fun h0 => absurd h0 (by have := HK0.out; omega)⟩
              have HGK := Lib.hid hgk
              clear hgk
              go_wp2_with fail
              go_quiet (fail)
              have hszb := hbel.size
              go_wp2_with (at_builtin; refine wpList_append_lies _ rfl _ _ 37 rfl w.heap.size 3 i3 _ 1 8 Try.underlying37 hi3 hz30 hz31 hz32 rfl (by decide) _ _ _ rfl ((hown : (wr.drewN nq).ownsRow _ _ _ _ _ _).alloc _) ⟨_, 0, none⟩ 1 1 [.int .i64 (k : Int)] rfl rfl (World.news_of_block (heap_alloc_new _ _)) (by simp [Value.oneCell']) (by omega) (by unfold maxLen; omega) (by omega) (by simp; omega) _ rfl ?_; intro gg cp2 w2 hown2 hgrow2 hat hlt2)
              have hb2 := ((bel_drewN hbel nq).alloc (by simp; omega) _).grown hgrow2 (by simp; omega) (fun j hj => (hown.lt j hj).1)
              have hO2 : Ow w2 w.heap.size gg (k + 1) cp2 (AlSo.ins D k k) := ⟨by rw [AlSo.ins_self, ← AlScan.upd_id' D (HD.out.ins.at (Nat.le_refl k)), ← ints_snoc]; exact hown2⟩
              have HB2 := Lib.hid hb2
              have HO2 := Lib.hid hO2
              clear hb2 hO2 hown2 hgrow2 hat hlt2 hown hbel cf ct cv
              go_loopw [9] (fun u wq => ∃ j : Nat, j ≤ k ∧ u = .int .i64 (j : Int) ∧ Hid (Ow wq w.heap.size gg (k + 1) cp2 (AlSo.ins D j k) ∧ (∀ x, j ≤ x → x < k → s.F (D k) < s.F (D x)) ∧ Below w.heap.size w wq)) (fun u _ => (intOf u).toNat)
              case atStart => exact ⟨k, Nat.le_refl _, rfl, Lib.hid ⟨HO2.out, fun x h1 h2 => by omega, HB2.out⟩⟩
              case round =>
                clear HO2 HB2 w2
                obtain ⟨j, hjk, rfl, hM⟩ := hrel
                have HDk := Lib.hid (HD.out.ins.at (Nat.le_refl k))
                by_cases hj0 : 0 < j
                · obtain ⟨m, hm⟩ : ∃ m, j - 1 = m := ⟨_, rfl⟩
                  have e1 : (j : Int) - 1 = (m : Int) := by omega
                  have d7 : decide ((0 : Int) < (j : Int)) = true := by simp; omega
                  have d7' : decide (0 < j) = true := by simp; omega
                  have hO := hM.out.1
                  have hB := hM.out.2.2
                  have q1 := hO.cell (i := j) (by omega)
                  have q2 := hO.cell (i := m) (by omega)
                  have v1 : AlSo.ins D j k j = D k := by unfold AlSo.ins; rw [if_pos rfl]
                  have v2 : AlSo.ins D j k m = D m := by unfold AlSo.ins; rw [if_neg (by omega), if_neg (by omega)]
                  rw [v1, HDk.out] at q1
                  rw [v2] at q2
                  have z1 := hO.froz j
                  have z2 := hO.froz m
                  obtain ⟨x, hx⟩ : ∃ x, D m = x := ⟨_, rfl⟩
                  rw [hx] at q2
                  have hxN : x < N := by have := HD.out.ins.lt (j := m) (by omega); omega
                  have hSw := HS.out.old (by omega) hB
                  have f1 := hSw.f k hkN
                  have f2 := hSw.f x hxN
                  have bj : (j : Int) < (k : Int) + 1 := by omega
                  have bm : (m : Int) < (k : Int) + 1 := by omega
                  have bx : (x : Int) < (N : Int) := by omega
                  have HMX := Lib.hid (And.intro hm hx)
                  have HMO := Lib.hid hM.out
                  have hjm : j ≠ m := by omega
                  have hmj : m ≠ j := by omega
                  by_cases hc : s.F k < s.F x
                  · have d8 : decide (s.F k < s.F x) = true := decide_eq_true hc
                    have HC := Lib.hid hc
                    clear hM hO hB v1 v2 hSw hm hx hc
                    go_wp2_with fail
                    go_quiet (fail)
                    go_wp2_with fail
                    go_region
                    go_wp2_with fail
                    have hOn : Ow (((wr.drewN (nq + 1)).setCell ⟨gg, m, none⟩ (.int .i64 (k : Int))).setCell ⟨gg, j, none⟩ (.int .i64 (x : Int))) w.heap.size gg (k + 1) cp2 (AlSo.ins D m k) := by
                      refine (((HMO.out.1.drewN (nq + 1)).set m k).set j x).of ?_
                      have := ins_step2 D hj0 hjk
                      rw [HDk.out, HMX.out.1, HMX.out.2] at this
                      exact this
                    have hgw := HMO.out.1.lt
                    have hoB : Only [gg] wr (((wr.drewN (nq + 1)).setCell ⟨gg, m, none⟩ (.int .i64 (k : Int))).setCell ⟨gg, j, none⟩ (.int .i64 (x : Int))) := ((only_drewN _ _ _).set _ (by simp)).set _ (by simp)
                    have hbB := HMO.out.2.2.trans (hoB.below_of (fun c hc => by simp at hc; omega) HMO.out.2.2.size)
                    refine ⟨⟨m, by omega, rfl, Lib.hid ⟨hOn, fun y h1 h2 => ?_, hbB⟩⟩, by simp [intOf]; omega⟩
                    by_cases e : y = m
                    · rw [e, HMX.out.2, HDk.out]; exact HC.out
                    · exact HMO.out.2.1 y (by have := HMX.out.1; omega) h2
                  · have d8 : decide (s.F k < s.F x) = false := decide_eq_false hc
                    have HC := Lib.hid hc
                    clear hM hO hB v1 v2 hSw hm hx hc
                    go_wp2_with fail
                    go_quiet (fail)
                    go_wp2_with fail
                    have hnx := HD.out.ins.next hjk HMO.out.2.1 (.inr (by rw [HDk.out, HMX.out.1, HMX.out.2]; have := HC.out; omega))
                    exact ⟨⟨k + 1, hkN, by first | rfl | simp, Lib.hid ⟨AlSo.ins D j k, ⟨(HMO.out.1.drewN _).h, hnx, bel_drewN HMO.out.2.2 _, good_snoc HD.out.good HGK.out⟩⟩⟩, by simp [intOf]; omega⟩
                · have d7 : decide ((0 : Int) < (j : Int)) = false := by simp; omega
                  have d7' : decide (0 < j) = false := by simp; omega
                  have HJ := Lib.hid (show j = 0 by omega)
                  go_wp2_with fail
                  go_quiet (fail)
                  go_wp2_with fail
                  have hnx := HD.out.ins.next hjk hM.out.2.1 (.inl HJ.out)
                  exact ⟨⟨k + 1, hkN, by first | rfl | simp, Lib.hid ⟨AlSo.ins D j k, ⟨(hM.out.1.drewN _).h, hnx, bel_drewN hM.out.2.2 _, good_snoc HD.out.good HGK.out⟩⟩⟩, by simp [intOf]; omega⟩
          · obtain ⟨mm, hmm⟩ : ∃ mm, k - 1 = mm := ⟨_, rfl⟩
            have e0 : (k : Int) - 1 = (mm : Int) := by omega
            have d5 : decide ((0 : Int) < (k : Int)) = true := by simp; omega
            have d5' : decide (0 < k) = true := by simp; omega
            have HKM := Lib.hid hmm
            have hpos : 0 < k := by omega
            have cm := HV.out mm (by omega)
            have b2 : (mm : Int) < (N : Int) := by omega
            clear hmm hk0
            by_cases c3 : s.V k ≤ s.V mm
            · have d6 : decide (s.V k ≤ s.V mm) = true := decide_eq_true c3
              have HC3 := Lib.hid c3
              clear c3 hown hbel
              as_aux_lemma =>
                go_wp2_with fail
                go_quiet (fail)
                go_wp2_with fail
                go_ret3
                exact ⟨bel_drewN HD.out.bw _, .inl ⟨fun hg => absurd (hg k hkN) (fun hG => by have h1 := hG.2.2 hpos; rw [HKM.out] at h1; have := HC3.out; omega), rfl⟩⟩
            · have d6 : decide (s.V k ≤ s.V mm) = false := decide_eq_false c3
              have HC3 := Lib.hid c3
              clear c3
              as_aux_lemma =>
                have hgk : Good s k := ⟨by have := HC.out.2; omega, by have := HC.out.1; omega, fun _ => by have := HC3.out; rw [HKM.out]; omega⟩
                have HGK := Lib.hid hgk
                clear hgk
                go_wp2_with fail
                go_quiet (fail)
                have hszb := hbel.size
                go_wp2_with (at_builtin; refine wpList_append_lies _ rfl _ _ 37 rfl w.heap.size 3 i3 _ 1 8 Try.underlying37 hi3 hz30 hz31 hz32 rfl (by decide) _ _ _ rfl ((hown : (wr.drewN nq).ownsRow _ _ _ _ _ _).alloc _) ⟨_, 0, none⟩ 1 1 [.int .i64 (k : Int)] rfl rfl (World.news_of_block (heap_alloc_new _ _)) (by simp [Value.oneCell']) (by omega) (by unfold maxLen; omega) (by omega) (by simp; omega) _ rfl ?_; intro gg cp2 w2 hown2 hgrow2 hat hlt2)
                have hb2 := ((bel_drewN hbel nq).alloc (by simp; omega) _).grown hgrow2 (by simp; omega) (fun j hj => (hown.lt j hj).1)
                have hO2 : Ow w2 w.heap.size gg (k + 1) cp2 (AlSo.ins D k k) := ⟨by rw [AlSo.ins_self, ← AlScan.upd_id' D (HD.out.ins.at (Nat.le_refl k)), ← ints_snoc]; exact hown2⟩
                have HB2 := Lib.hid hb2
                have HO2 := Lib.hid hO2
                clear hb2 hO2 hown2 hgrow2 hat hlt2 hown hbel cf ct cv
                go_loopw [9] (fun u wq => ∃ j : Nat, j ≤ k ∧ u = .int .i64 (j : Int) ∧ Hid (Ow wq w.heap.size gg (k + 1) cp2 (AlSo.ins D j k) ∧ (∀ x, j ≤ x → x < k → s.F (D k) < s.F (D x)) ∧ Below w.heap.size w wq)) (fun u _ => (intOf u).toNat)
                case atStart => exact ⟨k, Nat.le_refl _, rfl, Lib.hid ⟨HO2.out, fun x h1 h2 => by omega, HB2.out⟩⟩
                case round =>
                  clear HO2 HB2 w2
                  obtain ⟨j, hjk, rfl, hM⟩ := hrel
                  have HDk := Lib.hid (HD.out.ins.at (Nat.le_refl k))
                  by_cases hj0 : 0 < j
                  · obtain ⟨m, hm⟩ : ∃ m, j - 1 = m := ⟨_, rfl⟩
                    have e1 : (j : Int) - 1 = (m : Int) := by omega
                    have d7 : decide ((0 : Int) < (j : Int)) = true := by simp; omega
                    have d7' : decide (0 < j) = true := by simp; omega
                    have hO := hM.out.1
                    have hB := hM.out.2.2
                    have q1 := hO.cell (i := j) (by omega)
                    have q2 := hO.cell (i := m) (by omega)
                    have v1 : AlSo.ins D j k j = D k := by unfold AlSo.ins; rw [if_pos rfl]
                    have v2 : AlSo.ins D j k m = D m := by unfold AlSo.ins; rw [if_neg (by omega), if_neg (by omega)]
                    rw [v1, HDk.out] at q1
                    rw [v2] at q2
                    have z1 := hO.froz j
                    have z2 := hO.froz m
                    obtain ⟨x, hx⟩ : ∃ x, D m = x := ⟨_, rfl⟩
                    rw [hx] at q2
                    have hxN : x < N := by have := HD.out.ins.lt (j := m) (by omega); omega
                    have hSw := HS.out.old (by omega) hB
                    have f1 := hSw.f k hkN
                    have f2 := hSw.f x hxN
                    have bj : (j : Int) < (k : Int) + 1 := by omega
                    have bm : (m : Int) < (k : Int) + 1 := by omega
                    have bx : (x : Int) < (N : Int) := by omega
                    have HMX := Lib.hid (And.intro hm hx)
                    have HMO := Lib.hid hM.out
                    have hjm : j ≠ m := by omega
                    have hmj : m ≠ j := by omega
                    by_cases hc : s.F k < s.F x
                    · have d8 : decide (s.F k < s.F x) = true := decide_eq_true hc
                      have HC := Lib.hid hc
                      clear hM hO hB v1 v2 hSw hm hx hc
                      go_wp2_with fail
                      go_quiet (fail)
                      go_wp2_with fail
                      go_region
                      go_wp2_with fail
                      have hOn : Ow (((wr.drewN (nq + 1)).setCell ⟨gg, m, none⟩ (.int .i64 (k : Int))).setCell ⟨gg, j, none⟩ (.int .i64 (x : Int))) w.heap.size gg (k + 1) cp2 (AlSo.ins D m k) := by
                        refine (((HMO.out.1.drewN (nq + 1)).set m k).set j x).of ?_
                        have := ins_step2 D hj0 hjk
                        rw [HDk.out, HMX.out.1, HMX.out.2] at this
                        exact this
                      have hgw := HMO.out.1.lt
                      have hoB : Only [gg] wr (((wr.drewN (nq + 1)).setCell ⟨gg, m, none⟩ (.int .i64 (k : Int))).setCell ⟨gg, j, none⟩ (.int .i64 (x : Int))) := ((only_drewN _ _ _).set _ (by simp)).set _ (by simp)
                      have hbB := HMO.out.2.2.trans (hoB.below_of (fun c hc => by simp at hc; omega) HMO.out.2.2.size)
                      refine ⟨⟨m, by omega, rfl, Lib.hid ⟨hOn, fun y h1 h2 => ?_, hbB⟩⟩, by simp [intOf]; omega⟩
                      by_cases e : y = m
                      · rw [e, HMX.out.2, HDk.out]; exact HC.out
                      · exact HMO.out.2.1 y (by have := HMX.out.1; omega) h2
                    · have d8 : decide (s.F k < s.F x) = false := decide_eq_false hc
                      have HC := Lib.hid hc
                      clear hM hO hB v1 v2 hSw hm hx hc
                      go_wp2_with fail
                      go_quiet (fail)
                      go_wp2_with fail
                      have hnx := HD.out.ins.next hjk HMO.out.2.1 (.inr (by rw [HDk.out, HMX.out.1, HMX.out.2]; have := HC.out; omega))
                      exact ⟨⟨k + 1, hkN, by first | rfl | simp, Lib.hid ⟨AlSo.ins D j k, ⟨(HMO.out.1.drewN _).h, hnx, bel_drewN HMO.out.2.2 _, good_snoc HD.out.good HGK.out⟩⟩⟩, by simp [intOf]; omega⟩
                  · have d7 : decide ((0 : Int) < (j : Int)) = false := by simp; omega
                    have d7' : decide (0 < j) = false := by simp; omega
                    have HJ := Lib.hid (show j = 0 by omega)
                    go_wp2_with fail
                    go_quiet (fail)
                    go_wp2_with fail
                    have hnx := HD.out.ins.next hjk hM.out.2.1 (.inl HJ.out)
                    exact ⟨⟨k + 1, hkN, by first | rfl | simp, Lib.hid ⟨AlSo.ins D j k, ⟨(hM.out.1.drewN _).h, hnx, bel_drewN hM.out.2.2 _, good_snoc HD.out.good HGK.out⟩⟩⟩, by simp [intOf]; omega⟩
    · have b1 : ¬ (k : Int) < (N : Int) := by omega
      obtain rfl : N = k := by omega
      obtain ⟨D, hD⟩ := hM.out
      have HG := Lib.hid hD.good
      have HI := Lib.hid hD.ins
      have HB := Lib.hid hD.bw
      obtain ⟨ov, cpv, rfl⟩ : ∃ o c, u7 = .slice o N c := by
        rcases hD.own.2 with ⟨rfl, rfl⟩ | ⟨g, cp, cur, rfl, _⟩
        · exact ⟨none, 0, rfl⟩
        · exact ⟨_, cp, rfl⟩
      have HO := Lib.hid hD.own
      have hm1 := mk27 N (by omega)
      have hm2 := mk37 R (by omega)
      clear hM hD b1
      go_wp2_with fail
      have hst := RefS.start (f := fun _ => 0) HI.out HB.out HO.out N R
      generalize hW2 : (wr.alloc (Obj.cells (madeCells #[.int .i64 0, .int .i64 0, .int .i64 0] (N * 3)) 34)).alloc (Obj.cells (madeCells #[.int .i64 0] R) 3) = w2 at hst ⊢
      generalize hob : wr.heap.size = ob at hst ⊢
      generalize hgb : ob + 1 = hb at hst ⊢
      have HST := Lib.hid hst
      clear hst hW2 hob hgb HB HO hm1 hm2 hk
      go_loopw [12] (fun u wq => ∃ k : Nat, k ≤ R ∧ u = .int .i64 (k : Int) ∧ Hid (RefS w wq (.slice ov N cpv) ob hb N R D (fun _ => 0) (fun _ => 0) (fun _ => 0) (fun r => if r < k then -1 else 0))) (fun u _ => R - (intOf u).toNat)
      case atStart => exact ⟨0, by omega, rfl, Lib.hid (HST.out.of (fun r hr => if_neg (by omega)))⟩
      case round =>
        clear HST w2
        obtain ⟨k, hk, rfl, hM⟩ := hrel
        by_cases hkR : k < R
        · have b1 : (k : Int) < (R : Int) := by omega
          have q1 := hM.out.hl.c k hkR
          have z1 := hM.out.hl.z k
          go_wp2_with fail
          refine ⟨⟨k + 1, hkR, by first | rfl | simp, Lib.hid ((hM.out.setH hkR (-1)).of (fun r hr => ?_))⟩, by simp [intOf]; omega⟩
          by_cases e : r = k
          · rw [e, AlScan.upd_self, if_pos (by omega)]
          · rw [AlScan.upd_ne _ _ e]
            by_cases c : r < k
            · rw [if_pos c, if_pos (by omega)]
            · rw [if_neg c, if_neg (by omega)]
        · have b1 : ¬ (k : Int) < (R : Int) := by omega
          obtain rfl : R = k := by omega
          have hsrt := HI.out.srt
          have ho := hsrt.ordr
          have hE : ∀ j, j < N → (fun j => if j < N then D j else 0) j = D j := fun j hj => if_pos hj
          generalize hEE : (fun j => if j < N then D j else 0) = E at hsrt ho hE
          have hAt := AlScan.At.start s R N E (fun g hg => (HG.out g hg).2.1) ho
          have HSR := Lib.hid hsrt
          have HOR := Lib.hid ho
          have HED := Lib.hid hE
          have HVV := Lib.hid (good_v HG.out)
          have hst : EndS w wr (.slice ov N cpv) ob hb N R 0 s D E AlScan.st0 := ⟨_, _, _, hM.out.of (fun r hr => by show (-1 : Int) = _; rw [if_pos hr]), fun g ⟨j, hj, _⟩ => absurd hj (by omega)⟩
          have HST := Lib.hid (And.intro hAt hst)
          clear hM hk hsrt ho hE hAt hst hEE
          go_wp2_with fail
          go_loopw [13, 14] (fun v u wq => ∃ (k : Nat) (a : AlScan.St), k ≤ N ∧ u = .int .i64 (k : Int) ∧ v = .int .i64 (a.cnt : Int) ∧ a.cnt ≤ k ∧ Hid (AlScan.At s R N k E a ∧ EndS w wq (.slice ov N cpv) ob hb N R k s D E a)) (fun _ u _ => N - (intOf u).toNat)
          case atStart => exact ⟨0, AlScan.st0, by omega, rfl, rfl, Nat.le_refl _, HST⟩
          case round =>
            clear HST
            obtain ⟨k, a, hk, rfl, rfl, hcnt, hM⟩ := hrel
            obtain ⟨ca, hca⟩ : ∃ ca, a.cnt = ca := ⟨_, rfl⟩
            simp only [hca] at hcnt ⊢
            by_cases hkN : k < N
            · have b2 : (k : Int) < (N : Int) := by omega
              obtain ⟨hA, V, reg, spill, hRS, hAgr⟩ := hM.out
              obtain ⟨n, hn⟩ : ∃ n, E k = n := ⟨_, rfl⟩
              have hDn : D k = n := by rw [← hn]; exact (HED.out k hkN).symm
              have hnN : n < N := by rw [← hn]; exact HOR.out.lt k hkN
              obtain ⟨gg, cg, hvv, c0⟩ := hRS.cell hkN
              injection hvv with hv1 hv2 hv3
              subst hv1 hv3
              rw [hDn] at c0
              obtain ⟨bs, off, rfl, hsw⟩ := H.out (by omega)
              have hrnd : Rnd s R N k n E a (AlScan.exp s n a.held) := ⟨HOR.out, fun g hg => (HG.out g hg).1, HVV.out, hA, hkN, hn, AlScan.Mid.exp _ _ _⟩
              have HSW := Lib.hid hsw
              have cvn := (hsw.old (by omega) hRS.bw).v n hnN
              have p0 := hRS.pl.v n hnN
              have p1 := hRS.pl.r n hnN
              have p2 := hRS.pl.s n hnN
              have y0 := hRS.pl.z (n * 3)
              have y1 := hRS.pl.z (n * 3 + 1)
              have y2 := hRS.pl.z (n * 3 + 2)
              have bn : (n : Int) < (N : Int) := by omega
              have HRS := Lib.hid hRS
              have HRND := Lib.hid hrnd
              have HAG := Lib.hid hAgr
              have HCA := Lib.hid hca
              clear hM hA hRS hAgr hsw hrnd hca hn hDn
              go_wp2_with fail
              have hO1 : Only [ob] wr (((wr.setCell ⟨ob, n * 3, none⟩ (.int .i64 (s.V n))).setCell ⟨ob, n * 3 + 1, none⟩ (.int .i64 (-1))).setCell ⟨ob, n * 3 + 2, none⟩ (.int .i64 (-1))) := (((Only.refl _ _).set _ (by simp)).set _ (by simp)).set _ (by simp)
              have hR1 := HRS.out.setP hO1 (((HRS.out.pl.setV hnN (s.V n)).setR hnN (-1)).setS hnN (-1))
              generalize hW1 : ((wr.setCell ⟨ob, n * 3, none⟩ (.int .i64 (s.V n))).setCell ⟨ob, n * 3 + 1, none⟩ (.int .i64 (-1))).setCell ⟨ob, n * 3 + 2, none⟩ (.int .i64 (-1)) = w1 at hR1 ⊢
              have HST := Lib.hid (show AlScan.InE (AlScan.exp s n a.held) s R n R (-1) n ∧ RefS w w1 (.slice (some ⟨gg, 0, none⟩) N cpv) ob hb N R D (AlScan.upd V n (s.V n)) (AlScan.upd reg n (-1)) (AlScan.upd spill n (-1)) (fun x => enc (if R ≤ x then AlScan.exp s n a.held x else a.held x)) from ⟨AlScan.InE.start _ _ _ _, hR1.of (fun r hr => by rw [if_neg (by omega)])⟩)
              clear hO1 hR1 hW1 p0 p1 p2 y0 y1 y2 cvn c0 HRS
              go_loopw [16, 17, 18] (fun f v u wq => ∃ (j : Nat) (z fr : Int) (wt : Nat), j ≤ R ∧ z = (j : Int) - 1 ∧ u = .int .i64 z ∧ f = .int .i64 fr ∧ v = .int .i64 (wt : Int) ∧ wt < N ∧ Hid (AlScan.InE (AlScan.exp s n a.held) s R n j fr wt ∧ RefS w wq (.slice (some ⟨gg, 0, none⟩) N cpv) ob hb N R D (AlScan.upd V n (s.V n)) (AlScan.upd reg n (-1)) (AlScan.upd spill n (-1)) (fun x => enc (if j ≤ x then AlScan.exp s n a.held x else a.held x)))) (fun _ _ u _ => (intOf u + 1).toNat)
              case atStart => exact ⟨R, _, -1, n, Nat.le_refl _, rfl, by first | rfl | simp, rfl, rfl, hnN, HST⟩
              case round =>
                clear HST w1
                obtain ⟨j, z, fr, wt, hj, hz, rfl, rfl, rfl, hwN, hM⟩ := hrel
                by_cases hj0 : j = 0
                · obtain rfl : z = -1 := by omega
                  subst hj0
                  clear hz
                  obtain ⟨hIn, hRS⟩ := hM.out
                  have hRS := hRS.of (f' := fun x => enc (AlScan.exp s n a.held x)) (fun r hr => by rw [if_pos (Nat.zero_le r)])
                  rcases hIn.f with ⟨rfl, hfull⟩ | ⟨x, rfl, _, hx, hx0, hxm⟩
                  · have hcase := AlScan.step_full (s := s) (regs := R) (n := n) (t := wt) (a := a) rfl (fun x y hx hy hne => HRND.out.vv x y (HRND.out.lt2 x hx) (HRND.out.lt2 y hy) hne) (fun r hr => hfull r (Nat.zero_le _) hr) (by rcases hIn.w with e | ⟨x, _, _, e⟩; exact .inr e; exact .inl ⟨x, e⟩) (fun y hy => by rcases hy with ⟨x, e⟩ | e; exact hIn.m x y (Nat.zero_le _) (HRND.out.reg e) e; rw [e]; exact hIn.o) (fun r g hg => HRND.out.reg hg) HRND.out.new HRND.out.one
                    have p1 := hRS.pl.r wt hwN
                    have p2 := hRS.pl.s wt hwN
                    have y1 := hRS.pl.z (wt * 3 + 1)
                    have y2 := hRS.pl.z (wt * 3 + 2)
                    have bw : (wt : Int) < (N : Int) := by omega
                    rcases hcase with ⟨et, hst⟩ | ⟨hne, r, hr, hHr, hst⟩
                    · as_aux_lemma =>
                        have hceq : ((wt : Int) != (n : Int)) = false := by simp [et]
                        have hceq2 : ((wt : Int) == (n : Int)) = true := by simp [et]
                        have HET := Lib.hid (And.intro et hst)
                        have HR2 := Lib.hid hRS
                        clear et hst hM hIn hRS hfull
                        go_wp2_with fail
                        obtain ⟨et, hst⟩ := HET.out
                        have hO2 : Only [ob] wr (wr.setCell ⟨ob, wt * 3 + 2, none⟩ (.int .i64 (ca : Int))) := (Only.refl _ _).set _ (by simp)
                        have hR2 := HR2.out.setP hO2 (HR2.out.pl.setS hwN (ca : Int))
                        subst et
                        obtain ⟨a', ha1, ha2, ha3⟩ := end_self HRND.out HAG.out hst (by rw [HCA.out]; exact hR2)
                        exact ⟨⟨k + 1, a', hkN, by first | rfl | simp, by rw [ha1, HCA.out]; simp, by rw [ha1, HCA.out]; omega, Lib.hid ⟨ha2, ha3⟩⟩, by simp [intOf]; omega⟩
                    · as_aux_lemma =>
                        have hceq : ((wt : Int) != (n : Int)) = true := by simp; omega
                        have hceq2 : ((wt : Int) == (n : Int)) = false := by simp; omega
                        have hrw : reg wt = (r : Int) := by
                          have h1 := HRND.out.one r wt hHr
                          obtain ⟨_, j, hj, e⟩ := HRND.out.aa.reg (mid_le HRND.out.m hHr)
                          rw [(HAG.out wt ⟨j, hj, e⟩).2.1, h1]
                        rw [AlScan.upd_ne _ _ hne, hrw] at p1
                        have q1 := hRS.hl.c r hr
                        have z1 := hRS.hl.z r
                        have pn := hRS.pl.r n hnN
                        have yn := hRS.pl.z (n * 3 + 1)
                        have br : (r : Int) < (R : Int) := by omega
                        have hobh : ob ≠ hb := by have := hRS.o2; omega
                        have hhbo : hb ≠ ob := Ne.symm hobh
                        have hne1 : wt * 3 + 1 ≠ n * 3 + 1 := by omega
                        have hne2 : n * 3 + 1 ≠ wt * 3 + 1 := by omega
                        have hne3 : wt * 3 + 2 ≠ n * 3 + 1 := by omega
                        have hne4 : wt * 3 + 2 ≠ wt * 3 + 1 := by omega
                        have HET := Lib.hid (And.intro hne (And.intro hHr hst))
                        have HR2 := Lib.hid hRS
                        clear hne hHr hst hM hIn hRS hfull hrw
                        go_wp2_with fail
                        obtain ⟨hne, hHr, hst⟩ := HET.out
                        have hR3 := HR2.out.setP (w' := wr.setCell ⟨ob, wt * 3 + 1, none⟩ (.int .i64 (-1))) ((Only.refl _ _).set _ (by simp)) (HR2.out.pl.setR hwN (-1))
                        have hR4 := hR3.setH hr (n : Int)
                        have hR5 := hR4.setP (w' := ((wr.setCell ⟨ob, wt * 3 + 1, none⟩ (.int .i64 (-1))).setCell ⟨hb, r, none⟩ (.int .i64 (n : Int))).setCell ⟨ob, n * 3 + 1, none⟩ (.int .i64 (r : Int))) ((Only.refl _ _).set _ (by simp)) (hR4.pl.setR hnN (r : Int))
                        have hR6 := hR5.setP (w' := (((wr.setCell ⟨ob, wt * 3 + 1, none⟩ (.int .i64 (-1))).setCell ⟨hb, r, none⟩ (.int .i64 (n : Int))).setCell ⟨ob, n * 3 + 1, none⟩ (.int .i64 (r : Int))).setCell ⟨ob, wt * 3 + 2, none⟩ (.int .i64 (ca : Int))) ((Only.refl _ _).set _ (by simp)) (hR5.pl.setS hwN (ca : Int))
                        obtain ⟨a', ha1, ha2, ha3⟩ := end_evict HRND.out HAG.out hne hst (by rw [HCA.out]; exact hR6)
                        exact ⟨⟨k + 1, a', hkN, by first | rfl | simp, by rw [ha1, HCA.out]; simp, by rw [ha1, HCA.out]; omega, Lib.hid ⟨ha2, ha3⟩⟩, by simp [intOf]; omega⟩
                  · as_aux_lemma =>
                      have bx : (x : Int) < (R : Int) := by omega
                      have q1 := hRS.hl.c x hx
                      have z1 := hRS.hl.z x
                      have pn := hRS.pl.r n hnN
                      have yn := hRS.pl.z (n * 3 + 1)
                      have hobh : ob ≠ hb := by have := hRS.o2; omega
                      have hhbo : hb ≠ ob := Ne.symm hobh
                      have HX := Lib.hid (And.intro hx0 hxm)
                      have HR2 := Lib.hid hRS
                      clear hM hIn hRS hx0 hxm
                      go_wp2_with fail
                      have hR3 := HR2.out.setH hx (n : Int)
                      have hR4 := hR3.setP (w' := (wr.setCell ⟨hb, x, none⟩ (.int .i64 (n : Int))).setCell ⟨ob, n * 3 + 1, none⟩ (.int .i64 (x : Int))) ((Only.refl _ _).set _ (by simp)) (hR3.pl.setR hnN (x : Int))
                      obtain ⟨a', ha1, ha2, ha3⟩ := end_free HRND.out HAG.out hx HX.out.1 (fun y hy => HX.out.2 y (Nat.zero_le _) hy) hR4
                      exact ⟨⟨k + 1, a', hkN, by first | rfl | simp, by rw [ha1, HCA.out], by rw [ha1, HCA.out]; omega, Lib.hid ⟨ha2, ha3⟩⟩, by simp [intOf]; omega⟩
                · obtain ⟨m, rfl⟩ : ∃ m, j = m + 1 := ⟨j - 1, by omega⟩
                  obtain rfl : z = (m : Int) := by omega
                  have hmR : m < R := by omega
                  have bm : (m : Int) < (R : Int) := by omega
                  obtain ⟨hIn, hRS⟩ := hM.out
                  have q1 := hRS.hl.c m hmR
                  simp only [if_neg (show ¬ m + 1 ≤ m by omega)] at q1
                  have z1 := hRS.hl.z m
                  have hSw := HSW.out.old (by omega) hRS.bw
                  have cfn := hSw.f n hnN
                  have ctw := hSw.t wt hwN
                  have cvw := hSw.v wt hwN
                  have bw : (wt : Int) < (N : Int) := by omega
                  have HIR := Lib.hid (And.intro hIn hRS)
                  have HVG := Lib.hid hSw
                  clear hM hIn hRS hz hj0 hSw
                  cases hh : a.held m with
                  | none =>
                    as_aux_lemma =>
                      rw [hh] at q1
                      simp only [enc] at q1
                      have hexm : AlScan.exp s n a.held m = none := by unfold AlScan.exp; rw [hh]
                      have HEX := Lib.hid (And.intro hexm hh)
                      clear hexm hh
                      go_wp2_with fail
                      go_quiet (fail)
                      go_wp2_with fail
                      refine ⟨⟨m, (m : Int) - 1, (m : Int), wt, by omega, rfl, rfl, rfl, rfl, hwN, Lib.hid ⟨HIR.out.1.none hmR HEX.out.1, (HIR.out.2.drewN _).of (fun x hx => ?_)⟩⟩, by simp [intOf] <;> omega⟩
                      by_cases e : x = m
                      · rw [e, if_pos (Nat.le_refl _), if_neg (by omega), HEX.out.1, HEX.out.2]
                      · by_cases c : m ≤ x
                        · rw [if_pos c, if_pos (by omega)]
                        · rw [if_neg c, if_neg (by omega)]
                  | some g =>
                    rw [hh] at q1
                    simp only [enc] at q1
                    have hgN : g < N := by
                      obtain ⟨_, jj, hjj, e⟩ := HRND.out.aa.reg hh
                      rw [← e]; exact HOR.out.lt jj (by omega)
                    have bg : (g : Int) < (N : Int) := by omega
                    have ctg := HVG.out.t g hgN
                    have cvg := HVG.out.v g hgN
                    have hg0 : decide ((0 : Int) ≤ (g : Int)) = true := by simp
                    by_cases c0 : s.T g < s.F n
                    · as_aux_lemma =>
                        have d7 : decide (s.T g < s.F n) = true := decide_eq_true c0
                        have hexm : AlScan.exp s n a.held m = none := by unfold AlScan.exp; rw [hh]; simp only; rw [if_pos c0]
                        have HEX := Lib.hid hexm
                        clear hexm hh c0
                        go_wp2_with fail
                        go_quiet (fail)
                        go_wp2_with fail
                        refine ⟨⟨m, (m : Int) - 1, (m : Int), wt, by omega, rfl, rfl, rfl, rfl, hwN, Lib.hid ⟨HIR.out.1.none hmR HEX.out, ((HIR.out.2.drewN _).setH hmR (-1)).of (fun x hx => ?_)⟩⟩, by simp [intOf] <;> omega⟩
                        by_cases e : x = m
                        · rw [e, if_pos (Nat.le_refl _), AlScan.upd_self, HEX.out]; rfl
                        · rw [AlScan.upd_ne _ _ e]
                          by_cases c : m ≤ x
                          · rw [if_pos c, if_pos (by omega)]
                          · rw [if_neg c, if_neg (by omega)]
                    · have d7 : decide (s.T g < s.F n) = false := decide_eq_false c0
                      have hexm : AlScan.exp s n a.held m = some g := by unfold AlScan.exp; rw [hh]; simp only; rw [if_neg c0]
                      have HEX := Lib.hid (And.intro hexm hh)
                      clear hexm hh c0
                      obtain ⟨tg, htg⟩ : ∃ tg, s.T g = tg := ⟨_, rfl⟩
                      obtain ⟨tw, htw⟩ : ∃ tw, s.T wt = tw := ⟨_, rfl⟩
                      have hwo : AlScan.worse s g wt ↔ (tw < tg ∨ (tg = tw ∧ s.V wt < s.V g)) := by unfold AlScan.worse; rw [htg, htw]
                      rw [htg] at ctg d7
                      rw [htw] at ctw
                      have HWO := Lib.hid hwo
                      clear hwo htg htw
                      by_cases c1 : tw < tg
                      · as_aux_lemma =>
                          have d8 : decide (tw < tg) = true := decide_eq_true c1
                          have hw : AlScan.worse s g wt := HWO.out.2 (.inl c1)
                          have HW := Lib.hid hw
                          clear hw c1
                          go_wp2_with fail
                          go_quiet (fail)
                          go_wp2_with fail
                          go_quiet (fail)
                          go_wp2_with fail
                          refine ⟨⟨m, (m : Int) - 1, fr, g, by omega, rfl, rfl, rfl, rfl, hgN, Lib.hid ⟨HIR.out.1.worse hmR HEX.out.1 HW.out, (HIR.out.2.drewN _).of (fun x hx => ?_)⟩⟩, by simp [intOf] <;> omega⟩
                          by_cases e : x = m
                          · rw [e, if_pos (Nat.le_refl _), if_neg (by omega), HEX.out.1, HEX.out.2]
                          · by_cases c : m ≤ x
                            · rw [if_pos c, if_pos (by omega)]
                            · rw [if_neg c, if_neg (by omega)]
                      · have d8 : decide (tw < tg) = false := decide_eq_false c1
                        by_cases c2 : tg = tw
                        · subst c2
                          have d9 : (tg == tg) = true := by simp
                          by_cases c3 : s.V wt < s.V g
                          · as_aux_lemma =>
                              have d10 : decide (s.V wt < s.V g) = true := decide_eq_true c3
                              have hw : AlScan.worse s g wt := HWO.out.2 (.inr ⟨rfl, c3⟩)
                              have HW := Lib.hid hw
                              clear hw c1 c3
                              go_wp2_with fail
                              go_quiet (fail)
                              go_wp2_with fail
                              go_quiet (fail)
                              go_wp2_with fail
                              refine ⟨⟨m, (m : Int) - 1, fr, g, by omega, rfl, rfl, rfl, rfl, hgN, Lib.hid ⟨HIR.out.1.worse hmR HEX.out.1 HW.out, (HIR.out.2.drewN _).of (fun x hx => ?_)⟩⟩, by simp [intOf] <;> omega⟩
                              by_cases e : x = m
                              · rw [e, if_pos (Nat.le_refl _), if_neg (by omega), HEX.out.1, HEX.out.2]
                              · by_cases c : m ≤ x
                                · rw [if_pos c, if_pos (by omega)]
                                · rw [if_neg c, if_neg (by omega)]
                          · as_aux_lemma =>
                              have d10 : decide (s.V wt < s.V g) = false := decide_eq_false c3
                              have hw : ¬ AlScan.worse s g wt := fun h => by rcases HWO.out.1 h with h | h; exact absurd h c1; exact absurd h.2 c3
                              have HW := Lib.hid hw
                              clear hw c1 c3
                              go_wp2_with fail
                              go_quiet (fail)
                              go_wp2_with fail
                              go_quiet (fail)
                              go_wp2_with fail
                              refine ⟨⟨m, (m : Int) - 1, fr, wt, by omega, rfl, rfl, rfl, rfl, hwN, Lib.hid ⟨HIR.out.1.keep hmR HEX.out.1 HW.out, (HIR.out.2.drewN _).of (fun x hx => ?_)⟩⟩, by simp [intOf] <;> omega⟩
                              by_cases e : x = m
                              · rw [e, if_pos (Nat.le_refl _), if_neg (by omega), HEX.out.1, HEX.out.2]
                              · by_cases c : m ≤ x
                                · rw [if_pos c, if_pos (by omega)]
                                · rw [if_neg c, if_neg (by omega)]
                        · as_aux_lemma =>
                            have d9 : (tg == tw) = false := by simp; exact c2
                            have hw : ¬ AlScan.worse s g wt := fun h => by rcases HWO.out.1 h with h | h; exact absurd h c1; exact absurd h.1 c2
                            have HW := Lib.hid hw
                            clear hw c1 c2
                            go_wp2_with fail
                            go_quiet (fail)
                            go_wp2_with fail
                            go_quiet (fail)
                            go_wp2_with fail
                            refine ⟨⟨m, (m : Int) - 1, fr, wt, by omega, rfl, rfl, rfl, rfl, hwN, Lib.hid ⟨HIR.out.1.keep hmR HEX.out.1 HW.out, (HIR.out.2.drewN _).of (fun x hx => ?_)⟩⟩, by simp [intOf] <;> omega⟩
                            by_cases e : x = m
                            · rw [e, if_pos (Nat.le_refl _), if_neg (by omega), HEX.out.1, HEX.out.2]
                            · by_cases c : m ≤ x
                              · rw [if_pos c, if_pos (by omega)]
                              · rw [if_neg c, if_neg (by omega)]
            · as_aux_lemma =>
                have b2 : ¬ (k : Int) < (N : Int) := by omega
                obtain rfl : N = k := by omega
                obtain ⟨hA, V, reg, spill, hRS, hAgr⟩ := hM.out
                have hpl : PlM wr ob N s.V a.reg a.spill := hRS.pl.of (fun i hi => (hAgr i (HOR.out.on i hi)).1.symm) (fun i hi => (hAgr i (HOR.out.on i hi)).2.1.symm) (fun i hi => (hAgr i (HOR.out.on i hi)).2.2.symm)
                have HF := Lib.hid (show ScanO w R N s (.returned (.tuple #[.slice (some ⟨ob, 0, none⟩) N N, .int .i64 (ca : Int), .int .i64 0])) wr from
                  ⟨hRS.bw, .inr ⟨HG.out, ob, E, a, HSR.out, hA, hpl, hRS.o1, by have := hRS.o2; have := hRS.o3; omega, by rw [hca]⟩⟩)
                clear hM hA hRS hAgr hpl
                go_wp2_with fail
                go_ret3
                exact HF.out
end Go.Proofs.Ytkejnhmhbmbhcaa.al
