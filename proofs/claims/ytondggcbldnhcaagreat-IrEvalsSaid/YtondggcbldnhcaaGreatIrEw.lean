/-
  ir.Eval once more, for polls below 0 (IrEv has it for numbers from 0 on).
-/
import Derived.Test.YtondggcbldnhcaaGreatIrEv
namespace Go.Proofs.YtondggcbldnhcaaGreat.irx
open Go Go.RowKit
open Go.Proofs.YtondggcbldnhcaaGreat
set_option linter.unusedVariables false
set_option linter.unusedSimpArgs false
set_option maxHeartbeats 40000000 in
set_option maxRecDepth 1000000 in
theorem eval7n (P R : Int) (len : Nat) (op ds a b n to : Nat → Int) (cad : Option Addr) (cap : Nat) (aad : Option Addr) (acap : Nat) (args : List Int) (pi : Int) (w : World) (hlen : len ≤ 60) (hpi : pi < 0)
    (hN : Nice ⟨P, R, len, op, ds, a, b, n, to⟩) (hc : Code_ w w.heap.size cad ⟨P, R, len, op, ds, a, b, n, to⟩) (ha : Args w w.heap.size aad args) (hck : chk ar ⟨P, R, len, op, ds, a, b, n, to⟩ = 0) (hal : (args.length : Int) = P) :
    Calls Tryz.prog 7 #[fval P R cad len cap, .slice aad args.length acap, .int .i64 pi] w fun e w' => e = .returned (.agg #[.int .i64 (runS ar ⟨P, R, len, op, ds, a, b, n, to⟩ 0 (start ⟨P, R, len, op, ds, a, b, n, to⟩ args)).1, .int .i32 (runS ar ⟨P, R, len, op, ds, a, b, n, to⟩ 0 (start ⟨P, R, len, op, ds, a, b, n, to⟩ args)).2.1, .int .i64 (runS ar ⟨P, R, len, op, ds, a, b, n, to⟩ 0 (start ⟨P, R, len, op, ds, a, b, n, to⟩ args)).2.2]) ∧ Below w.heap.size w w' := by
  obtain ⟨pn, hpnD⟩ : ∃ pn : Nat, 0 = pn := ⟨_, rfl⟩
  have hpn : pn ≤ 1048576 := by omega
  have e0 : runS ar ⟨P, R, len, op, ds, a, b, n, to⟩ 0 (start ⟨P, R, len, op, ds, a, b, n, to⟩ args) = runS ar ⟨P, R, len, op, ds, a, b, n, to⟩ pn (start ⟨P, R, len, op, ds, a, b, n, to⟩ args) := by rw [hpnD]
  rw [e0]
  clear e0
  have hpe : Hid (0 = pn) := hpnD
  clear hpnD
  obtain ⟨i0, hi, hz0, hz1, hz2⟩ := info_parts info21
  have C := fun w0 (hb : Below w.heap.size w w0) (hs : w.heap.size ≤ w0.heap.size) => check9 ⟨P, R, len, op, ds, a, b, n, to⟩ cad cap w0 hlen hN (hc.mono hb hs)
  rw [hck] at C
  subst hal
  have hR : ∃ R' : Nat, R = R' ∧ args.length ≤ R' ∧ R' ≤ 34 := by
    have hh : head ⟨args.length, R, len, op, ds, a, b, n, to⟩ = false := by
      cases h : head ⟨args.length, R, len, op, ds, a, b, n, to⟩ with
      | false => rfl
      | true => unfold chk at hck; rw [h] at hck; simp at hck
    simp only [head, Bool.or_eq_false_iff, decide_eq_false_iff_not] at hh
    exact ⟨R.toNat, by omega, by omega, by omega⟩
  obtain ⟨R, rfl, hal, hR34⟩ := hR
  have hb0 : Below w.heap.size w ((w.alloc (.cells #[.int .i64 args.length, .int .i64 R, .slice cad len cap] 24)).alloc (.cells #[.int .i64 0, .int .i32 0, .int .i64 0] 32)) := ((Below.refl _ _).alloc (Nat.le_refl _) _).alloc (by simp) _
  have hs0 : ((w.alloc (.cells #[.int .i64 args.length, .int .i64 R, .slice cad len cap] 24)).alloc (.cells #[.int .i64 0, .int .i32 0, .int .i64 0] 32)).heap.size = w.heap.size + 2 := by simp
  have hF0 : ((w.alloc (.cells #[.int .i64 args.length, .int .i64 R, .slice cad len cap] 24)).alloc (.cells #[.int .i64 0, .int .i32 0, .int .i64 0] 32)).heap[w.heap.size]? = some (.cells #[.int .i64 args.length, .int .i64 R, .slice cad len cap] 24 (0, 0)) := by
    rw [Below.heap_alloc _ _ _ (by simp)]; exact heap_alloc_new w _
  have hX0 : ((w.alloc (.cells #[.int .i64 args.length, .int .i64 R, .slice cad len cap] 24)).alloc (.cells #[.int .i64 0, .int .i32 0, .int .i64 0] 32)).heap[w.heap.size + 1]? = some (.cells #[.int .i64 0, .int .i32 0, .int .i64 0] 32 (0, 0)) := by
    have := heap_alloc_new (w.alloc (.cells #[.int .i64 args.length, .int .i64 R, .slice cad len cap] 24)) (.cells #[.int .i64 0, .int .i32 0, .int .i64 0] 32)
    simpa using this
  have C0 := C _ hb0 (by omega)
  generalize hRES : runS ar ⟨args.length, R, len, op, ds, a, b, n, to⟩ pn (start ⟨args.length, R, len, op, ds, a, b, n, to⟩ args) = RES
  have hRUN : Hid (runS ar ⟨args.length, R, len, op, ds, a, b, n, to⟩ pn (start ⟨args.length, R, len, op, ds, a, b, n, to⟩ args) = RES) := hRES
  clear hRES
  have hOK := ok_of_chk hck
  have hOKH : Hid (∀ k, k < len → (1 ≤ op k ∧ op k ≤ 9) ∧ fine R len (op k) (ds k) (a k) (b k) (n k) (to k) = true ∧ (op k ≠ 5 → op k ≠ 7 → op k ≠ 8 → k + 1 < len)) := hOK
  have hlen0 : 0 < len := by
    apply Nat.pos_of_ne_zero
    intro h0
    unfold chk at hck
    subst h0
    split at hck
    · cases hck
    · simp [firstBad] at hck
  clear hOK
  go_enter Tryz.func7, Tryz.ntmps7
  go_wp2_with (first | (go_at_call 9; refine C0.mono ?_; rintro e w1 ⟨rfl, hb1⟩; have hb1' := hb0.trans (hb1.mono (by omega)); have hF1 := (hb1.block w.heap.size (by omega)).trans hF0; have hX1 := (hb1.block (w.heap.size + 1) (by omega)).trans hX0; have hs1 : w.heap.size + 2 ≤ w1.heap.size := (by have := hb1.size; omega); have hf0 : w1.cell? ⟨w.heap.size, 0, none⟩ = some (.int .i64 args.length) := (by simp [World.cell?, hF1]); have hf1 : w1.cell? ⟨w.heap.size, 1, none⟩ = some (.int .i64 R) := (by simp [World.cell?, hF1])) | (refine wpList_make_full _ rfl _ _ 25 rfl w.heap.size 21 i0 (.int .i32 0) 1 Tryz.underlying25 hi hz0 hz1 .i64 .i64 (R : Int) (R : Int) R rfl rfl rfl rfl (by rw [hz2]; omega) (by unfold maxLen; omega) (by omega) ?_; intro w2 hown2 hgrow2; have hg2 := block_full hown2 (by simp [Value.cells, madeCells]); have hb2 : Below w1.heap.size w1 w2 := (Below.refl _ _).grown hgrow2 (Nat.le_refl _) (fun k hk => by cases hk)) | (with_reducible refine wpList_copy_splice rfl (.tmp 37) (.tmp 38) 25 25 rfl 21 Tryz.underlying25 size21 _ _ R R args.length acap rfl rfl w1.heap.size 0 _ 21 hg2 (i32s args) (cpn hal) (cps ha hb1' hb2) (cpf hal) (one32 _) w1.heap.size w1 hb2 (Nat.le_refl _) ?_; intro w3 hg3 hb3))
  have hI0 : Inv w cad cap args.length len R w1.heap.size w3.heap.size (w3.alloc (.cells #[.int .i64 0, .int .i32 0, .int .i64 0] 32)) (start ⟨args.length, R, len, op, ds, a, b, n, to⟩ args) := by
    have hw3 := hb3.size
    refine ⟨?_, ?_, ?_, ?_, ?_, hs1, by have := block_lt hg3.out; omega, by simp⟩
    · rw [Below.heap_alloc _ _ _ (by omega), hb3.block _ (by omega)]; exact hF1
    · rw [Below.heap_alloc _ _ _ (by omega), hb3.block _ (by omega)]; exact hX1
    · rw [Below.heap_alloc _ _ _ (block_lt hg3.out), hg3.out, mk_zero, splice_start R args hal]; simp [start]
    · rw [heap_alloc_new]; simp [start]
    · exact (hb1'.trans (hb3.mono (by omega))).alloc (by omega) _
  have hFit0 : Fit len R pn (start ⟨args.length, R, len, op, ds, a, b, n, to⟩ args) := ⟨hlen0, by simp [start]; omega, Nat.zero_le _, by simp [start], by simp [start]; omega⟩
  have hcH : Hid (Code_ w w.heap.size cad ⟨args.length, R, len, op, ds, a, b, n, to⟩) := hc
  have hGe : Hid (w.heap.size + 2 ≤ w1.heap.size) := hs1
  clear hb0 hs0 hF0 hX0 C0 hb1 hb1' hF1 hX1 hs1 hf0 hf1 hgrow2 hg2 hb2 hg3 hb3 hown2 C hc ha hck hlen0
  generalize w1.heap.size = G at *
  generalize w3.heap.size = H at *
  go_loopg [9, 10, 11] (meas pn (start ⟨args.length, R, len, op, ds, a, b, n, to⟩ args)) (fun gk bt at_ dn wr => ∃ s : St, gk = meas pn s ∧ bt = .int .i64 s.btw ∧ at_ = .int .i64 s.at_ ∧ dn = .int .i64 s.done ∧ Inv w cad cap args.length len R G H wr s ∧ Fit len R pn s ∧ Hid (runS ar ⟨args.length, R, len, op, ds, a, b, n, to⟩ pn s = RES))
  case atStart => exact ⟨_, rfl, rfl, rfl, rfl, hI0, hFit0, hRUN⟩
  case round =>
    obtain ⟨s, rfl, rfl, rfl, rfl, hI, hfit, hrun⟩ := hrel
    clear hI0 hFit0 hRUN
    obtain ⟨pc, dn, bt, met, regs⟩ := s
    have hpc : pc < len := hfit.at_
    have hregs : regs.length = R := hfit.regs
    have hmet : met ≤ pn := hfit.met
    have hdn : dn ≤ 4194304 + met := hfit.done
    have hbt : (bt : Int) ≤ 16 * (1024 + len) := hfit.btw
    obtain ⟨cb, off, he, hb, hat⟩ := hcH.out pc hpc
    simp only at he hat
    subst he
    obtain ⟨d0, d1, d2, d3, d4, d5⟩ := hat.mono hI.below hb
    have hGH := hI.hGH
    have hHw := hI.hH
    have hG2 := hI.hG
    have hfc : wr.cell? ⟨w.heap.size, 2, none⟩ = some (.slice (some ⟨cb, off, none⟩) len cap) := by simp [World.cell?, hI.bF]
    have hIa : Inv w (some ⟨cb, off, none⟩) cap args.length len R G H (wr.alloc (.cells #[.int .i64 (op pc), .int .i64 (ds pc), .int .i64 (a pc), .int .i64 (b pc), .int .i32 (n pc), .int .i64 (to pc)] 44)) ⟨pc, dn, bt, met, regs⟩ := hI.on ((Below.refl _ _).alloc (Nat.le_refl _) _)
    have hfa : (wr.alloc (.cells #[.int .i64 (op pc), .int .i64 (ds pc), .int .i64 (a pc), .int .i64 (b pc), .int .i32 (n pc), .int .i64 (to pc)] 44)).cell? ⟨w.heap.size, 2, none⟩ = some (.slice (some ⟨cb, off, none⟩) len cap) := by simp [World.cell?, hIa.bF]
    have hx0 : (wr.alloc (.cells #[.int .i64 (op pc), .int .i64 (ds pc), .int .i64 (a pc), .int .i64 (b pc), .int .i32 (n pc), .int .i64 (to pc)] 44)).cell? ⟨H, 0, none⟩ = some (.int .i64 0) := by simp [World.cell?, hIa.bH]
    have hx1 : (wr.alloc (.cells #[.int .i64 (op pc), .int .i64 (ds pc), .int .i64 (a pc), .int .i64 (b pc), .int .i32 (n pc), .int .i64 (to pc)] 44)).cell? ⟨H, 1, none⟩ = some (.int .i32 0) := by simp [World.cell?, hIa.bH]
    have hx2 : (wr.alloc (.cells #[.int .i64 (op pc), .int .i64 (ds pc), .int .i64 (a pc), .int .i64 (b pc), .int .i32 (n pc), .int .i64 (to pc)] 44)).cell? ⟨H, 2, none⟩ = some (.int .i64 met) := by simp [World.cell?, hIa.bH]
    have hy0 : (wr.alloc (.cells #[.int .i64 (op pc), .int .i64 (ds pc), .int .i64 (a pc), .int .i64 (b pc), .int .i32 (n pc), .int .i64 (to pc)] 44)).cell? ⟨w.heap.size + 1, 0, none⟩ = some (.int .i64 0) := by simp [World.cell?, hIa.bX]
    have hy1 : (wr.alloc (.cells #[.int .i64 (op pc), .int .i64 (ds pc), .int .i64 (a pc), .int .i64 (b pc), .int .i32 (n pc), .int .i64 (to pc)] 44)).cell? ⟨w.heap.size + 1, 1, none⟩ = some (.int .i32 0) := by simp [World.cell?, hIa.bX]
    have hy2 : (wr.alloc (.cells #[.int .i64 (op pc), .int .i64 (ds pc), .int .i64 (a pc), .int .i64 (b pc), .int .i32 (n pc), .int .i64 (to pc)] 44)).cell? ⟨w.heap.size + 1, 2, none⟩ = some (.int .i64 0) := by simp [World.cell?, hIa.bX]
    have hzH : ∀ j, (wr.alloc (.cells #[.int .i64 (op pc), .int .i64 (ds pc), .int .i64 (a pc), .int .i64 (b pc), .int .i32 (n pc), .int .i64 (to pc)] 44)).frozen? ⟨H, j, none⟩ = false := fun j => by simp [World.frozen?, hIa.bH]
    have hzG : ∀ j, (wr.alloc (.cells #[.int .i64 (op pc), .int .i64 (ds pc), .int .i64 (a pc), .int .i64 (b pc), .int .i32 (n pc), .int .i64 (to pc)] 44)).frozen? ⟨G, j, none⟩ = false := fun j => by simp [World.frozen?, hIa.bG]
    have hzX : ∀ j, (wr.alloc (.cells #[.int .i64 (op pc), .int .i64 (ds pc), .int .i64 (a pc), .int .i64 (b pc), .int .i32 (n pc), .int .i64 (to pc)] 44)).frozen? ⟨w.heap.size + 1, j, none⟩ = false := fun j => by simp [World.frozen?, hIa.bX]
    have hn1 : H ≠ w.heap.size + 1 := by omega
    have hn2 : G ≠ w.heap.size + 1 := by omega
    have hn3 : G ≠ H := by omega
    have hn4 : w.heap.size ≠ H := by omega
    have hi0 : (wr.alloc (.cells #[.int .i64 (op pc), .int .i64 (ds pc), .int .i64 (a pc), .int .i64 (b pc), .int .i32 (n pc), .int .i64 (to pc)] 44)).cell? ⟨wr.heap.size, 0, none⟩ = some (.int .i64 (op pc)) := by rw [World.cell?_alloc_at _ _ _ _ rfl]; rfl
    have hi1 : (wr.alloc (.cells #[.int .i64 (op pc), .int .i64 (ds pc), .int .i64 (a pc), .int .i64 (b pc), .int .i32 (n pc), .int .i64 (to pc)] 44)).cell? ⟨wr.heap.size, 1, none⟩ = some (.int .i64 (ds pc)) := by rw [World.cell?_alloc_at _ _ _ _ rfl]; rfl
    have hi2 : (wr.alloc (.cells #[.int .i64 (op pc), .int .i64 (ds pc), .int .i64 (a pc), .int .i64 (b pc), .int .i32 (n pc), .int .i64 (to pc)] 44)).cell? ⟨wr.heap.size, 2, none⟩ = some (.int .i64 (a pc)) := by rw [World.cell?_alloc_at _ _ _ _ rfl]; rfl
    have hi3 : (wr.alloc (.cells #[.int .i64 (op pc), .int .i64 (ds pc), .int .i64 (a pc), .int .i64 (b pc), .int .i32 (n pc), .int .i64 (to pc)] 44)).cell? ⟨wr.heap.size, 3, none⟩ = some (.int .i64 (b pc)) := by rw [World.cell?_alloc_at _ _ _ _ rfl]; rfl
    have hi4 : (wr.alloc (.cells #[.int .i64 (op pc), .int .i64 (ds pc), .int .i64 (a pc), .int .i64 (b pc), .int .i32 (n pc), .int .i64 (to pc)] 44)).cell? ⟨wr.heap.size, 4, none⟩ = some (.int .i32 (n pc)) := by rw [World.cell?_alloc_at _ _ _ _ rfl]; rfl
    have hi5 : (wr.alloc (.cells #[.int .i64 (op pc), .int .i64 (ds pc), .int .i64 (a pc), .int .i64 (b pc), .int .i32 (n pc), .int .i64 (to pc)] 44)).cell? ⟨wr.heap.size, 5, none⟩ = some (.int .i64 (to pc)) := by rw [World.cell?_alloc_at _ _ _ _ rfl]; rfl
    have hI6 : H < wr.heap.size := hHw
    have hII : (wr.alloc (.cells #[.int .i64 (op pc), .int .i64 (ds pc), .int .i64 (a pc), .int .i64 (b pc), .int .i32 (n pc), .int .i64 (to pc)] 44)).heap[wr.heap.size]? = some (.cells #[.int .i64 (op pc), .int .i64 (ds pc), .int .i64 (a pc), .int .i64 (b pc), .int .i32 (n pc), .int .i64 (to pc)] 44 (0, 0)) := heap_alloc_new _ _
    obtain ⟨⟨ho1, ho9⟩, hfine, hnext⟩ := hOKH.out pc hpc
    go_upto_region 11 with fail
    generalize (wr.alloc (.cells #[.int .i64 (op pc), .int .i64 (ds pc), .int .i64 (a pc), .int .i64 (b pc), .int .i32 (n pc), .int .i64 (to pc)] 44)) = wa at *
    generalize wr.heap.size = I at *
    clear d0 d1 d2 d3 d4 d5 hfc hI hat
    generalize hop : op pc = o at *
    have hopH : Hid (op pc = o) := hop
    clear hop
    have hNn : wrap64 (n pc) = n pc := hN pc
    have hme : ∀ s', step ar ⟨args.length, R, len, op, ds, a, b, n, to⟩ pn ⟨pc, dn, bt, met, regs⟩ = .inr s' → meas pn s' < meas pn ⟨pc, dn, bt, met, regs⟩ := fun s' h => (step_less h).1
    have hbelow := hIa.below
    have hsX := hIa.bX
    have hor : o = 1 ∨ o = 2 ∨ o = 3 ∨ o = 4 ∨ o = 5 ∨ o = 6 ∨ o = 7 ∨ o = 8 ∨ o = 9 := by omega
    rcases hor with rfl | rfl | rfl | rfl | rfl | rfl | rfl | rfl | rfl
    · as_aux_lemma =>
        by_cases hl1 : 16 * (1024 + (len : Int)) ≤ bt
        · go_wp2
          have hst : step ar ⟨args.length, R, len, op, ds, a, b, n, to⟩ pn ⟨pc, dn, bt, met, regs⟩ = .inl (4, 0, (met : Int)) := step_lim (F := ⟨args.length, R, len, op, ds, a, b, n, to⟩) (s := ⟨pc, dn, bt, met, regs⟩) (by show op pc ≠ 9; rw [hopH.out]; decide) (lim_true (by first | exact .inl (by simpa using hl1) | exact .inr (by simpa using hl2)))
          have hR : RES = (4, 0, (met : Int)) := hrun.out.symm.trans (runS_inl hst)
          refine bodyPost_ret_by (results_cell_row results7 _ _ (w.heap.size + 1) 32 _ (0, 0) _ rfl (fin_row ((Below.heap_setCell _ _ _ _ (by simp only; omega)).trans hsX) _ _ _) Tryz.underlying32 rfl size32) rfl ⟨?_, ((((hbelow.setCell (by simp only; omega) _).setCell (by simp only; omega) _).setCell (by simp only; omega) _).setCell (by simp only; omega) _)⟩
          rw [hR]
        · by_cases hl2 : (4194304 : Int) ≤ dn
          · go_wp2
            have hst : step ar ⟨args.length, R, len, op, ds, a, b, n, to⟩ pn ⟨pc, dn, bt, met, regs⟩ = .inl (4, 0, (met : Int)) := step_lim (F := ⟨args.length, R, len, op, ds, a, b, n, to⟩) (s := ⟨pc, dn, bt, met, regs⟩) (by show op pc ≠ 9; rw [hopH.out]; decide) (lim_true (by first | exact .inl (by simpa using hl1) | exact .inr (by simpa using hl2)))
            have hR : RES = (4, 0, (met : Int)) := hrun.out.symm.trans (runS_inl hst)
            refine bodyPost_ret_by (results_cell_row results7 _ _ (w.heap.size + 1) 32 _ (0, 0) _ rfl (fin_row ((Below.heap_setCell _ _ _ _ (by simp only; omega)).trans hsX) _ _ _) Tryz.underlying32 rfl size32) rfl ⟨?_, ((((hbelow.setCell (by simp only; omega) _).setCell (by simp only; omega) _).setCell (by simp only; omega) _).setCell (by simp only; omega) _)⟩
            rw [hR]
          · have hl3 : (bt : Int) < 16 * (1024 + (len : Int)) := by omega
            have hl4 : (dn : Int) < 4194304 := by omega
            have hds : 0 ≤ ds pc ∧ ds pc < R := by simp [fine, rdA, rdB, irx.wr, inR] at hfine; omega
            obtain ⟨hd0, hd1⟩ := hds
            have hgd := hIa.reg hregs hd0 hd1
            have hpn1 := hnext (by decide) (by decide) (by decide)
            go_wp2
            have hst : step ar ⟨args.length, R, len, op, ds, a, b, n, to⟩ pn ⟨pc, dn, bt, met, regs⟩ = .inr ⟨pc + 1, dn + 1, bt + 1, met, setR ⟨pc, dn, bt, met, regs⟩ (ds pc) (n pc)⟩ := (step_body (F := ⟨args.length, R, len, op, ds, a, b, n, to⟩) (s := ⟨pc, dn, bt, met, regs⟩) (by show op pc ≠ 9; rw [hopH.out]; decide) (lim_false (F := ⟨args.length, R, len, op, ds, a, b, n, to⟩) (s := ⟨pc, dn, bt, met, regs⟩) (by simpa using hl1) (by simpa using hl2))).trans (by simp [body, go, hopH.out])
            go_roundg (meas pn ⟨pc + 1, dn + 1, bt + 1, met, setR ⟨pc, dn, bt, met, regs⟩ (ds pc) (n pc)⟩)
            case measure => exact hme _ hst
            case rel => exact ⟨⟨pc + 1, dn + 1, bt + 1, met, setR ⟨pc, dn, bt, met, regs⟩ (ds pc) (n pc)⟩, rfl, by go_num, by go_num, by go_num, hIa.setG (ds pc) (n pc) rfl rfl, ⟨hpn1, by simp only [setR, List.length_set]; exact hregs, by simp only; omega, by simp only; omega, by simp only; omega⟩, (runS_inr hst).symm.trans hrun.out⟩
    · as_aux_lemma =>
        by_cases hl1 : 16 * (1024 + (len : Int)) ≤ bt
        · go_wp2
          have hst : step ar ⟨args.length, R, len, op, ds, a, b, n, to⟩ pn ⟨pc, dn, bt, met, regs⟩ = .inl (4, 0, (met : Int)) := step_lim (F := ⟨args.length, R, len, op, ds, a, b, n, to⟩) (s := ⟨pc, dn, bt, met, regs⟩) (by show op pc ≠ 9; rw [hopH.out]; decide) (lim_true (by first | exact .inl (by simpa using hl1) | exact .inr (by simpa using hl2)))
          have hR : RES = (4, 0, (met : Int)) := hrun.out.symm.trans (runS_inl hst)
          refine bodyPost_ret_by (results_cell_row results7 _ _ (w.heap.size + 1) 32 _ (0, 0) _ rfl (fin_row ((Below.heap_setCell _ _ _ _ (by simp only; omega)).trans hsX) _ _ _) Tryz.underlying32 rfl size32) rfl ⟨?_, ((((hbelow.setCell (by simp only; omega) _).setCell (by simp only; omega) _).setCell (by simp only; omega) _).setCell (by simp only; omega) _)⟩
          rw [hR]
        · by_cases hl2 : (4194304 : Int) ≤ dn
          · go_wp2
            have hst : step ar ⟨args.length, R, len, op, ds, a, b, n, to⟩ pn ⟨pc, dn, bt, met, regs⟩ = .inl (4, 0, (met : Int)) := step_lim (F := ⟨args.length, R, len, op, ds, a, b, n, to⟩) (s := ⟨pc, dn, bt, met, regs⟩) (by show op pc ≠ 9; rw [hopH.out]; decide) (lim_true (by first | exact .inl (by simpa using hl1) | exact .inr (by simpa using hl2)))
            have hR : RES = (4, 0, (met : Int)) := hrun.out.symm.trans (runS_inl hst)
            refine bodyPost_ret_by (results_cell_row results7 _ _ (w.heap.size + 1) 32 _ (0, 0) _ rfl (fin_row ((Below.heap_setCell _ _ _ _ (by simp only; omega)).trans hsX) _ _ _) Tryz.underlying32 rfl size32) rfl ⟨?_, ((((hbelow.setCell (by simp only; omega) _).setCell (by simp only; omega) _).setCell (by simp only; omega) _).setCell (by simp only; omega) _)⟩
            rw [hR]
          · have hl3 : (bt : Int) < 16 * (1024 + (len : Int)) := by omega
            have hl4 : (dn : Int) < 4194304 := by omega
            have hds : 0 ≤ ds pc ∧ ds pc < R := by simp [fine, rdA, rdB, irx.wr, inR] at hfine; omega
            obtain ⟨hd0, hd1⟩ := hds
            have hgd := hIa.reg hregs hd0 hd1
            have hra : 0 ≤ a pc ∧ a pc < R := by simp [fine, rdA, rdB, irx.wr, inR] at hfine; omega
            obtain ⟨ha0, ha1⟩ := hra
            have hga := hIa.reg hregs ha0 ha1
            have hpn1 := hnext (by decide) (by decide) (by decide)
            go_wp2
            go_region
            all_goals (try go_wp2)
            have hst : step ar ⟨args.length, R, len, op, ds, a, b, n, to⟩ pn ⟨pc, dn, bt, met, regs⟩ = .inr ⟨pc + 1, dn + 1, bt + 1, met, setR ⟨pc, dn, bt, met, regs⟩ (ds pc) (rg ⟨pc, dn, bt, met, regs⟩ (a pc))⟩ := (step_body (F := ⟨args.length, R, len, op, ds, a, b, n, to⟩) (s := ⟨pc, dn, bt, met, regs⟩) (by show op pc ≠ 9; rw [hopH.out]; decide) (lim_false (F := ⟨args.length, R, len, op, ds, a, b, n, to⟩) (s := ⟨pc, dn, bt, met, regs⟩) (by simpa using hl1) (by simpa using hl2))).trans (by simp [body, go, hopH.out])
            go_roundg (meas pn ⟨pc + 1, dn + 1, bt + 1, met, setR ⟨pc, dn, bt, met, regs⟩ (ds pc) (rg ⟨pc, dn, bt, met, regs⟩ (a pc))⟩)
            case measure => exact hme _ hst
            case rel => exact ⟨⟨pc + 1, dn + 1, bt + 1, met, setR ⟨pc, dn, bt, met, regs⟩ (ds pc) (rg ⟨pc, dn, bt, met, regs⟩ (a pc))⟩, rfl, by go_num, by go_num, by go_num, (Inv.drew (s := ⟨pc + 1, dn + 1, bt + 1, met, setR ⟨pc, dn, bt, met, regs⟩ (ds pc) (rg ⟨pc, dn, bt, met, regs⟩ (a pc))⟩) (hIa.setG (ds pc) (rg ⟨pc, dn, bt, met, regs⟩ (a pc)) (s' := ⟨pc + 1, dn + 1, bt + 1, met, setR ⟨pc, dn, bt, met, regs⟩ (ds pc) (rg ⟨pc, dn, bt, met, regs⟩ (a pc))⟩) rfl rfl)), ⟨hpn1, by simp only [setR, List.length_set]; exact hregs, by simp only; omega, by simp only; omega, by simp only; omega⟩, (runS_inr hst).symm.trans hrun.out⟩
    · as_aux_lemma =>
        by_cases hl1 : 16 * (1024 + (len : Int)) ≤ bt
        · go_wp2
          have hst : step ar ⟨args.length, R, len, op, ds, a, b, n, to⟩ pn ⟨pc, dn, bt, met, regs⟩ = .inl (4, 0, (met : Int)) := step_lim (F := ⟨args.length, R, len, op, ds, a, b, n, to⟩) (s := ⟨pc, dn, bt, met, regs⟩) (by show op pc ≠ 9; rw [hopH.out]; decide) (lim_true (by first | exact .inl (by simpa using hl1) | exact .inr (by simpa using hl2)))
          have hR : RES = (4, 0, (met : Int)) := hrun.out.symm.trans (runS_inl hst)
          refine bodyPost_ret_by (results_cell_row results7 _ _ (w.heap.size + 1) 32 _ (0, 0) _ rfl (fin_row ((Below.heap_setCell _ _ _ _ (by simp only; omega)).trans hsX) _ _ _) Tryz.underlying32 rfl size32) rfl ⟨?_, ((((hbelow.setCell (by simp only; omega) _).setCell (by simp only; omega) _).setCell (by simp only; omega) _).setCell (by simp only; omega) _)⟩
          rw [hR]
        · by_cases hl2 : (4194304 : Int) ≤ dn
          · go_wp2
            have hst : step ar ⟨args.length, R, len, op, ds, a, b, n, to⟩ pn ⟨pc, dn, bt, met, regs⟩ = .inl (4, 0, (met : Int)) := step_lim (F := ⟨args.length, R, len, op, ds, a, b, n, to⟩) (s := ⟨pc, dn, bt, met, regs⟩) (by show op pc ≠ 9; rw [hopH.out]; decide) (lim_true (by first | exact .inl (by simpa using hl1) | exact .inr (by simpa using hl2)))
            have hR : RES = (4, 0, (met : Int)) := hrun.out.symm.trans (runS_inl hst)
            refine bodyPost_ret_by (results_cell_row results7 _ _ (w.heap.size + 1) 32 _ (0, 0) _ rfl (fin_row ((Below.heap_setCell _ _ _ _ (by simp only; omega)).trans hsX) _ _ _) Tryz.underlying32 rfl size32) rfl ⟨?_, ((((hbelow.setCell (by simp only; omega) _).setCell (by simp only; omega) _).setCell (by simp only; omega) _).setCell (by simp only; omega) _)⟩
            rw [hR]
          · have hl3 : (bt : Int) < 16 * (1024 + (len : Int)) := by omega
            have hl4 : (dn : Int) < 4194304 := by omega
            have hds : 0 ≤ ds pc ∧ ds pc < R := by simp [fine, rdA, rdB, irx.wr, inR] at hfine; omega
            obtain ⟨hd0, hd1⟩ := hds
            have hgd := hIa.reg hregs hd0 hd1
            have hra : 0 ≤ a pc ∧ a pc < R := by simp [fine, rdA, rdB, irx.wr, inR] at hfine; omega
            obtain ⟨ha0, ha1⟩ := hra
            have hga := hIa.reg hregs ha0 ha1
            have hrb : 0 ≤ b pc ∧ b pc < R := by simp [fine, rdA, rdB, irx.wr, inR] at hfine; omega
            obtain ⟨hb0, hb1⟩ := hrb
            have hgb := hIa.reg hregs hb0 hb1
            have hpn1 := hnext (by decide) (by decide) (by decide)
            by_cases he : (two (n pc) (rg ⟨pc, dn, bt, met, regs⟩ (a pc)) (rg ⟨pc, dn, bt, met, regs⟩ (b pc))).2 = 0
            · go_wp2_with fail
              go_quiet (first | (go_at_call 13; refine Calls.quiet_of_same (two13 _ _ _ _)))
              go_wp2
              trace_state
              have hst : step ar ⟨args.length, R, len, op, ds, a, b, n, to⟩ pn ⟨pc, dn, bt, met, regs⟩ = .inr ⟨pc + 1, dn + 1, bt + 1, met, setR ⟨pc, dn, bt, met, regs⟩ (ds pc) ((two (n pc) (rg ⟨pc, dn, bt, met, regs⟩ (a pc)) (rg ⟨pc, dn, bt, met, regs⟩ (b pc))).1)⟩ := (step_body (F := ⟨args.length, R, len, op, ds, a, b, n, to⟩) (s := ⟨pc, dn, bt, met, regs⟩) (by show op pc ≠ 9; rw [hopH.out]; decide) (lim_false (F := ⟨args.length, R, len, op, ds, a, b, n, to⟩) (s := ⟨pc, dn, bt, met, regs⟩) (by simpa using hl1) (by simpa using hl2))).trans (by simp [body, go, hopH.out, ar, he])
              go_roundg (meas pn ⟨pc + 1, dn + 1, bt + 1, met, setR ⟨pc, dn, bt, met, regs⟩ (ds pc) ((two (n pc) (rg ⟨pc, dn, bt, met, regs⟩ (a pc)) (rg ⟨pc, dn, bt, met, regs⟩ (b pc))).1)⟩)
              case measure => exact hme _ hst
              case rel => exact ⟨⟨pc + 1, dn + 1, bt + 1, met, setR ⟨pc, dn, bt, met, regs⟩ (ds pc) ((two (n pc) (rg ⟨pc, dn, bt, met, regs⟩ (a pc)) (rg ⟨pc, dn, bt, met, regs⟩ (b pc))).1)⟩, rfl, by go_num, by go_num, by go_num, (by first | exact Inv.drewN (s := ⟨pc + 1, dn + 1, bt + 1, met, setR ⟨pc, dn, bt, met, regs⟩ (ds pc) ((two (n pc) (rg ⟨pc, dn, bt, met, regs⟩ (a pc)) (rg ⟨pc, dn, bt, met, regs⟩ (b pc))).1)⟩) (hIa.setG (ds pc) ((two (n pc) (rg ⟨pc, dn, bt, met, regs⟩ (a pc)) (rg ⟨pc, dn, bt, met, regs⟩ (b pc))).1) (s' := ⟨pc + 1, dn + 1, bt + 1, met, setR ⟨pc, dn, bt, met, regs⟩ (ds pc) ((two (n pc) (rg ⟨pc, dn, bt, met, regs⟩ (a pc)) (rg ⟨pc, dn, bt, met, regs⟩ (b pc))).1)⟩) rfl rfl) _ | exact (hIa.drewN _).setG (ds pc) ((two (n pc) (rg ⟨pc, dn, bt, met, regs⟩ (a pc)) (rg ⟨pc, dn, bt, met, regs⟩ (b pc))).1) (s' := ⟨pc + 1, dn + 1, bt + 1, met, setR ⟨pc, dn, bt, met, regs⟩ (ds pc) ((two (n pc) (rg ⟨pc, dn, bt, met, regs⟩ (a pc)) (rg ⟨pc, dn, bt, met, regs⟩ (b pc))).1)⟩) rfl rfl), ⟨hpn1, by simp only [setR, List.length_set]; exact hregs, by simp only; omega, by simp only; omega, by simp only; omega⟩, (runS_inr hst).symm.trans hrun.out⟩
            · go_wp2_with fail
              go_quiet (first | (go_at_call 13; refine Calls.quiet_of_same (two13 _ _ _ _)))
              generalize htv : two (n pc) (rg ⟨pc, dn, bt, met, regs⟩ (a pc)) (rg ⟨pc, dn, bt, met, regs⟩ (b pc)) = tv at he ⊢
              have htvH : Hid (two (n pc) (rg ⟨pc, dn, bt, met, regs⟩ (a pc)) (rg ⟨pc, dn, bt, met, regs⟩ (b pc)) = tv) := htv
              obtain ⟨tv1, tv2⟩ := tv
              clear htv
              have hne : (tv2 != 0) = true := by simpa using he
              have heH : Hid (tv2 ≠ 0) := he
              clear he
              go_wp2
              have hst : step ar ⟨args.length, R, len, op, ds, a, b, n, to⟩ pn ⟨pc, dn, bt, met, regs⟩ = .inl (2, 0, (met : Int)) := (step_body (F := ⟨args.length, R, len, op, ds, a, b, n, to⟩) (s := ⟨pc, dn, bt, met, regs⟩) (by show op pc ≠ 9; rw [hopH.out]; decide) (lim_false (F := ⟨args.length, R, len, op, ds, a, b, n, to⟩) (s := ⟨pc, dn, bt, met, regs⟩) (by simpa using hl1) (by simpa using hl2))).trans (by simp [body, go, hopH.out, ar, htvH.out, heH.out])
              have hR : RES = (2, 0, (met : Int)) := hrun.out.symm.trans (runS_inl hst)
              refine bodyPost_ret_by (results_cell_row results7 _ _ (w.heap.size + 1) 32 _ (0, 0) _ rfl (fin_row ((Below.heap_setCell _ _ _ _ (by simp only; omega)).trans (hIa.drewN _).bX) _ _ _) Tryz.underlying32 rfl size32) rfl ⟨?_, (((((hIa.drewN _).below.setCell (by simp only; omega) _).setCell (by simp only; omega) _).setCell (by simp only; omega) _).setCell (by simp only; omega) _)⟩
              rw [hR]
    · as_aux_lemma =>
        by_cases hl1 : 16 * (1024 + (len : Int)) ≤ bt
        · go_wp2
          have hst : step ar ⟨args.length, R, len, op, ds, a, b, n, to⟩ pn ⟨pc, dn, bt, met, regs⟩ = .inl (4, 0, (met : Int)) := step_lim (F := ⟨args.length, R, len, op, ds, a, b, n, to⟩) (s := ⟨pc, dn, bt, met, regs⟩) (by show op pc ≠ 9; rw [hopH.out]; decide) (lim_true (by first | exact .inl (by simpa using hl1) | exact .inr (by simpa using hl2)))
          have hR : RES = (4, 0, (met : Int)) := hrun.out.symm.trans (runS_inl hst)
          refine bodyPost_ret_by (results_cell_row results7 _ _ (w.heap.size + 1) 32 _ (0, 0) _ rfl (fin_row ((Below.heap_setCell _ _ _ _ (by simp only; omega)).trans hsX) _ _ _) Tryz.underlying32 rfl size32) rfl ⟨?_, ((((hbelow.setCell (by simp only; omega) _).setCell (by simp only; omega) _).setCell (by simp only; omega) _).setCell (by simp only; omega) _)⟩
          rw [hR]
        · by_cases hl2 : (4194304 : Int) ≤ dn
          · go_wp2
            have hst : step ar ⟨args.length, R, len, op, ds, a, b, n, to⟩ pn ⟨pc, dn, bt, met, regs⟩ = .inl (4, 0, (met : Int)) := step_lim (F := ⟨args.length, R, len, op, ds, a, b, n, to⟩) (s := ⟨pc, dn, bt, met, regs⟩) (by show op pc ≠ 9; rw [hopH.out]; decide) (lim_true (by first | exact .inl (by simpa using hl1) | exact .inr (by simpa using hl2)))
            have hR : RES = (4, 0, (met : Int)) := hrun.out.symm.trans (runS_inl hst)
            refine bodyPost_ret_by (results_cell_row results7 _ _ (w.heap.size + 1) 32 _ (0, 0) _ rfl (fin_row ((Below.heap_setCell _ _ _ _ (by simp only; omega)).trans hsX) _ _ _) Tryz.underlying32 rfl size32) rfl ⟨?_, ((((hbelow.setCell (by simp only; omega) _).setCell (by simp only; omega) _).setCell (by simp only; omega) _).setCell (by simp only; omega) _)⟩
            rw [hR]
          · have hl3 : (bt : Int) < 16 * (1024 + (len : Int)) := by omega
            have hl4 : (dn : Int) < 4194304 := by omega
            have hds : 0 ≤ ds pc ∧ ds pc < R := by simp [fine, rdA, rdB, irx.wr, inR] at hfine; omega
            obtain ⟨hd0, hd1⟩ := hds
            have hgd := hIa.reg hregs hd0 hd1
            have hra : 0 ≤ a pc ∧ a pc < R := by simp [fine, rdA, rdB, irx.wr, inR] at hfine; omega
            obtain ⟨ha0, ha1⟩ := hra
            have hga := hIa.reg hregs ha0 ha1
            have hpn1 := hnext (by decide) (by decide) (by decide)
            go_wp2_with fail
            go_region_law (first | (go_simp; go_at_call 14; refine (one14 _ _ _).mono ?_; rintro e w5 ⟨rfl, rfl⟩))
            all_goals (try go_wp2)
            all_goals (try rw [hNn])
            all_goals
              (have hst : step ar ⟨args.length, R, len, op, ds, a, b, n, to⟩ pn ⟨pc, dn, bt, met, regs⟩ = .inr ⟨pc + 1, dn + 1, bt + 1, met, setR ⟨pc, dn, bt, met, regs⟩ (ds pc) ((one (n pc) (rg ⟨pc, dn, bt, met, regs⟩ (a pc))).1)⟩ := (step_body (F := ⟨args.length, R, len, op, ds, a, b, n, to⟩) (s := ⟨pc, dn, bt, met, regs⟩) (by show op pc ≠ 9; rw [hopH.out]; decide) (lim_false (F := ⟨args.length, R, len, op, ds, a, b, n, to⟩) (s := ⟨pc, dn, bt, met, regs⟩) (by simpa using hl1) (by simpa using hl2))).trans (by simp [body, go, hopH.out, ar])
               go_roundg (meas pn ⟨pc + 1, dn + 1, bt + 1, met, setR ⟨pc, dn, bt, met, regs⟩ (ds pc) ((one (n pc) (rg ⟨pc, dn, bt, met, regs⟩ (a pc))).1)⟩)
               case measure => exact hme _ hst
               case rel => exact ⟨⟨pc + 1, dn + 1, bt + 1, met, setR ⟨pc, dn, bt, met, regs⟩ (ds pc) ((one (n pc) (rg ⟨pc, dn, bt, met, regs⟩ (a pc))).1)⟩, rfl, by go_num, by go_num, by go_num, (Inv.drew (s := ⟨pc + 1, dn + 1, bt + 1, met, setR ⟨pc, dn, bt, met, regs⟩ (ds pc) ((one (n pc) (rg ⟨pc, dn, bt, met, regs⟩ (a pc))).1)⟩) (hIa.setG (ds pc) ((one (n pc) (rg ⟨pc, dn, bt, met, regs⟩ (a pc))).1) (s' := ⟨pc + 1, dn + 1, bt + 1, met, setR ⟨pc, dn, bt, met, regs⟩ (ds pc) ((one (n pc) (rg ⟨pc, dn, bt, met, regs⟩ (a pc))).1)⟩) rfl rfl)), ⟨hpn1, by simp only [setR, List.length_set]; exact hregs, by simp only; omega, by simp only; omega, by simp only; omega⟩, (runS_inr hst).symm.trans hrun.out⟩)
    · as_aux_lemma =>
        by_cases hl1 : 16 * (1024 + (len : Int)) ≤ bt
        · go_wp2
          have hst : step ar ⟨args.length, R, len, op, ds, a, b, n, to⟩ pn ⟨pc, dn, bt, met, regs⟩ = .inl (4, 0, (met : Int)) := step_lim (F := ⟨args.length, R, len, op, ds, a, b, n, to⟩) (s := ⟨pc, dn, bt, met, regs⟩) (by show op pc ≠ 9; rw [hopH.out]; decide) (lim_true (by first | exact .inl (by simpa using hl1) | exact .inr (by simpa using hl2)))
          have hR : RES = (4, 0, (met : Int)) := hrun.out.symm.trans (runS_inl hst)
          refine bodyPost_ret_by (results_cell_row results7 _ _ (w.heap.size + 1) 32 _ (0, 0) _ rfl (fin_row ((Below.heap_setCell _ _ _ _ (by simp only; omega)).trans hsX) _ _ _) Tryz.underlying32 rfl size32) rfl ⟨?_, ((((hbelow.setCell (by simp only; omega) _).setCell (by simp only; omega) _).setCell (by simp only; omega) _).setCell (by simp only; omega) _)⟩
          rw [hR]
        · by_cases hl2 : (4194304 : Int) ≤ dn
          · go_wp2
            have hst : step ar ⟨args.length, R, len, op, ds, a, b, n, to⟩ pn ⟨pc, dn, bt, met, regs⟩ = .inl (4, 0, (met : Int)) := step_lim (F := ⟨args.length, R, len, op, ds, a, b, n, to⟩) (s := ⟨pc, dn, bt, met, regs⟩) (by show op pc ≠ 9; rw [hopH.out]; decide) (lim_true (by first | exact .inl (by simpa using hl1) | exact .inr (by simpa using hl2)))
            have hR : RES = (4, 0, (met : Int)) := hrun.out.symm.trans (runS_inl hst)
            refine bodyPost_ret_by (results_cell_row results7 _ _ (w.heap.size + 1) 32 _ (0, 0) _ rfl (fin_row ((Below.heap_setCell _ _ _ _ (by simp only; omega)).trans hsX) _ _ _) Tryz.underlying32 rfl size32) rfl ⟨?_, ((((hbelow.setCell (by simp only; omega) _).setCell (by simp only; omega) _).setCell (by simp only; omega) _).setCell (by simp only; omega) _)⟩
            rw [hR]
          · have hl3 : (bt : Int) < 16 * (1024 + (len : Int)) := by omega
            have hl4 : (dn : Int) < 4194304 := by omega
            have hto : 0 ≤ to pc ∧ to pc < len := by simp [fine, rdA, rdB, irx.wr, inR] at hfine; omega
            go_wp2
            have htn : ((to pc).toNat : Int) = to pc := by omega
            have hst : step ar ⟨args.length, R, len, op, ds, a, b, n, to⟩ pn ⟨pc, dn, bt, met, regs⟩ = .inr ⟨(to pc).toNat, dn + 1, bt + 1, met, regs⟩ := (step_body (F := ⟨args.length, R, len, op, ds, a, b, n, to⟩) (s := ⟨pc, dn, bt, met, regs⟩) (by show op pc ≠ 9; rw [hopH.out]; decide) (lim_false (F := ⟨args.length, R, len, op, ds, a, b, n, to⟩) (s := ⟨pc, dn, bt, met, regs⟩) (by simpa using hl1) (by simpa using hl2))).trans (by simp [body, go, hopH.out])
            go_roundg (meas pn ⟨(to pc).toNat, dn + 1, bt + 1, met, regs⟩)
            case measure => exact hme _ hst
            case rel => exact ⟨⟨(to pc).toNat, dn + 1, bt + 1, met, regs⟩, rfl, by go_num, by rw [htn], by go_num, hIa.state rfl rfl, ⟨by simp only; omega, hregs, by simp only; omega, by simp only; omega, by simp only; omega⟩, (runS_inr hst).symm.trans hrun.out⟩
    · as_aux_lemma =>
        by_cases hl1 : 16 * (1024 + (len : Int)) ≤ bt
        · go_wp2
          have hst : step ar ⟨args.length, R, len, op, ds, a, b, n, to⟩ pn ⟨pc, dn, bt, met, regs⟩ = .inl (4, 0, (met : Int)) := step_lim (F := ⟨args.length, R, len, op, ds, a, b, n, to⟩) (s := ⟨pc, dn, bt, met, regs⟩) (by show op pc ≠ 9; rw [hopH.out]; decide) (lim_true (by first | exact .inl (by simpa using hl1) | exact .inr (by simpa using hl2)))
          have hR : RES = (4, 0, (met : Int)) := hrun.out.symm.trans (runS_inl hst)
          refine bodyPost_ret_by (results_cell_row results7 _ _ (w.heap.size + 1) 32 _ (0, 0) _ rfl (fin_row ((Below.heap_setCell _ _ _ _ (by simp only; omega)).trans hsX) _ _ _) Tryz.underlying32 rfl size32) rfl ⟨?_, ((((hbelow.setCell (by simp only; omega) _).setCell (by simp only; omega) _).setCell (by simp only; omega) _).setCell (by simp only; omega) _)⟩
          rw [hR]
        · by_cases hl2 : (4194304 : Int) ≤ dn
          · go_wp2
            have hst : step ar ⟨args.length, R, len, op, ds, a, b, n, to⟩ pn ⟨pc, dn, bt, met, regs⟩ = .inl (4, 0, (met : Int)) := step_lim (F := ⟨args.length, R, len, op, ds, a, b, n, to⟩) (s := ⟨pc, dn, bt, met, regs⟩) (by show op pc ≠ 9; rw [hopH.out]; decide) (lim_true (by first | exact .inl (by simpa using hl1) | exact .inr (by simpa using hl2)))
            have hR : RES = (4, 0, (met : Int)) := hrun.out.symm.trans (runS_inl hst)
            refine bodyPost_ret_by (results_cell_row results7 _ _ (w.heap.size + 1) 32 _ (0, 0) _ rfl (fin_row ((Below.heap_setCell _ _ _ _ (by simp only; omega)).trans hsX) _ _ _) Tryz.underlying32 rfl size32) rfl ⟨?_, ((((hbelow.setCell (by simp only; omega) _).setCell (by simp only; omega) _).setCell (by simp only; omega) _).setCell (by simp only; omega) _)⟩
            rw [hR]
          · have hl3 : (bt : Int) < 16 * (1024 + (len : Int)) := by omega
            have hl4 : (dn : Int) < 4194304 := by omega
            have hra : 0 ≤ a pc ∧ a pc < R := by simp [fine, rdA, rdB, irx.wr, inR] at hfine; omega
            obtain ⟨ha0, ha1⟩ := hra
            have hga := hIa.reg hregs ha0 ha1
            have hpn1 := hnext (by decide) (by decide) (by decide)
            have hto : 0 ≤ to pc ∧ to pc < len := by simp [fine, rdA, rdB, irx.wr, inR] at hfine; omega
            cases hb6 : rdB 6 (n pc)
            · cases ht : (test (n pc) (rg ⟨pc, dn, bt, met, regs⟩ (a pc)) 0).1
              · go_wp2_with (go_at_call 15; refine (reads15 6 (ds pc) (a pc) (b pc) (n pc) (to pc) _).mono ?_; rintro e w5 ⟨rfl, hb5⟩; have hI5 := hIa.on hb5; have hII5 := (hb5.block I (block_lt hII)).trans hII; have hj2 : w5.cell? ⟨I, 2, none⟩ = some (.int .i64 (a pc)) := (by simp [World.cell?, hII5]); have hj3 : w5.cell? ⟨I, 3, none⟩ = some (.int .i64 (b pc)) := (by simp [World.cell?, hII5]); have hj4 : w5.cell? ⟨I, 4, none⟩ = some (.int .i32 (n pc)) := (by simp [World.cell?, hII5]); have hj5 : w5.cell? ⟨I, 5, none⟩ = some (.int .i64 (to pc)) := (by simp [World.cell?, hII5]); have hga5 := hI5.reg hregs ha0 ha1)
                go_quiet (first | (go_at_call 16; refine Calls.quiet_of_same (test16 _ _ _ _)))
                go_wp2
                have hst : step ar ⟨args.length, R, len, op, ds, a, b, n, to⟩ pn ⟨pc, dn, bt, met, regs⟩ = .inr ⟨pc + 1, dn + 1, bt + 1, met, regs⟩ := (step_body (F := ⟨args.length, R, len, op, ds, a, b, n, to⟩) (s := ⟨pc, dn, bt, met, regs⟩) (by show op pc ≠ 9; rw [hopH.out]; decide) (lim_false (F := ⟨args.length, R, len, op, ds, a, b, n, to⟩) (s := ⟨pc, dn, bt, met, regs⟩) (by simpa using hl1) (by simpa using hl2))).trans (by simp [body, go, hopH.out, ar, hb6, ht])
                go_roundg (meas pn ⟨pc + 1, dn + 1, bt + 1, met, regs⟩)
                case measure => exact hme _ hst
                case rel => exact ⟨⟨pc + 1, dn + 1, bt + 1, met, regs⟩, rfl, by go_num, by go_num, by go_num, (Inv.state (hI5.drewN _) rfl rfl), ⟨by simp only; omega, hregs, by simp only; omega, by simp only; omega, by simp only; omega⟩, (runS_inr hst).symm.trans hrun.out⟩
              · have htn : ((to pc).toNat : Int) = to pc := by omega
                go_wp2_with (go_at_call 15; refine (reads15 6 (ds pc) (a pc) (b pc) (n pc) (to pc) _).mono ?_; rintro e w5 ⟨rfl, hb5⟩; have hI5 := hIa.on hb5; have hII5 := (hb5.block I (block_lt hII)).trans hII; have hj2 : w5.cell? ⟨I, 2, none⟩ = some (.int .i64 (a pc)) := (by simp [World.cell?, hII5]); have hj3 : w5.cell? ⟨I, 3, none⟩ = some (.int .i64 (b pc)) := (by simp [World.cell?, hII5]); have hj4 : w5.cell? ⟨I, 4, none⟩ = some (.int .i32 (n pc)) := (by simp [World.cell?, hII5]); have hj5 : w5.cell? ⟨I, 5, none⟩ = some (.int .i64 (to pc)) := (by simp [World.cell?, hII5]); have hga5 := hI5.reg hregs ha0 ha1)
                go_quiet (first | (go_at_call 16; refine Calls.quiet_of_same (test16 _ _ _ _)))
                go_wp2
                have hst : step ar ⟨args.length, R, len, op, ds, a, b, n, to⟩ pn ⟨pc, dn, bt, met, regs⟩ = .inr ⟨(to pc).toNat, dn + 1, bt + 1, met, regs⟩ := (step_body (F := ⟨args.length, R, len, op, ds, a, b, n, to⟩) (s := ⟨pc, dn, bt, met, regs⟩) (by show op pc ≠ 9; rw [hopH.out]; decide) (lim_false (F := ⟨args.length, R, len, op, ds, a, b, n, to⟩) (s := ⟨pc, dn, bt, met, regs⟩) (by simpa using hl1) (by simpa using hl2))).trans (by simp [body, go, hopH.out, ar, hb6, ht])
                go_roundg (meas pn ⟨(to pc).toNat, dn + 1, bt + 1, met, regs⟩)
                case measure => exact hme _ hst
                case rel => exact ⟨⟨(to pc).toNat, dn + 1, bt + 1, met, regs⟩, rfl, by go_num, by rw [htn], by go_num, (Inv.state (hI5.drewN _) rfl rfl), ⟨by simp only; omega, hregs, by simp only; omega, by simp only; omega, by simp only; omega⟩, (runS_inr hst).symm.trans hrun.out⟩
            · have hrb : 0 ≤ b pc ∧ b pc < R := by simp [fine, rdA, hb6, irx.wr, inR] at hfine; omega
              obtain ⟨hb0, hb1⟩ := hrb
              have hgb := hIa.reg hregs hb0 hb1
              cases ht : (test (n pc) (rg ⟨pc, dn, bt, met, regs⟩ (a pc)) (rg ⟨pc, dn, bt, met, regs⟩ (b pc))).1
              · go_wp2_with (go_at_call 15; refine (reads15 6 (ds pc) (a pc) (b pc) (n pc) (to pc) _).mono ?_; rintro e w5 ⟨rfl, hb5⟩; have hI5 := hIa.on hb5; have hII5 := (hb5.block I (block_lt hII)).trans hII; have hj2 : w5.cell? ⟨I, 2, none⟩ = some (.int .i64 (a pc)) := (by simp [World.cell?, hII5]); have hj3 : w5.cell? ⟨I, 3, none⟩ = some (.int .i64 (b pc)) := (by simp [World.cell?, hII5]); have hj4 : w5.cell? ⟨I, 4, none⟩ = some (.int .i32 (n pc)) := (by simp [World.cell?, hII5]); have hj5 : w5.cell? ⟨I, 5, none⟩ = some (.int .i64 (to pc)) := (by simp [World.cell?, hII5]); have hga5 := hI5.reg hregs ha0 ha1; have hgb5 := hI5.reg hregs hb0 hb1)
                go_quiet (first | (go_at_call 16; refine Calls.quiet_of_same (test16 _ _ _ _)))
                go_wp2
                have hst : step ar ⟨args.length, R, len, op, ds, a, b, n, to⟩ pn ⟨pc, dn, bt, met, regs⟩ = .inr ⟨pc + 1, dn + 1, bt + 1, met, regs⟩ := (step_body (F := ⟨args.length, R, len, op, ds, a, b, n, to⟩) (s := ⟨pc, dn, bt, met, regs⟩) (by show op pc ≠ 9; rw [hopH.out]; decide) (lim_false (F := ⟨args.length, R, len, op, ds, a, b, n, to⟩) (s := ⟨pc, dn, bt, met, regs⟩) (by simpa using hl1) (by simpa using hl2))).trans (by simp [body, go, hopH.out, ar, hb6, ht])
                go_roundg (meas pn ⟨pc + 1, dn + 1, bt + 1, met, regs⟩)
                case measure => exact hme _ hst
                case rel => exact ⟨⟨pc + 1, dn + 1, bt + 1, met, regs⟩, rfl, by go_num, by go_num, by go_num, (Inv.state (hI5.drewN _) rfl rfl), ⟨by simp only; omega, hregs, by simp only; omega, by simp only; omega, by simp only; omega⟩, (runS_inr hst).symm.trans hrun.out⟩
              · have htn : ((to pc).toNat : Int) = to pc := by omega
                go_wp2_with (go_at_call 15; refine (reads15 6 (ds pc) (a pc) (b pc) (n pc) (to pc) _).mono ?_; rintro e w5 ⟨rfl, hb5⟩; have hI5 := hIa.on hb5; have hII5 := (hb5.block I (block_lt hII)).trans hII; have hj2 : w5.cell? ⟨I, 2, none⟩ = some (.int .i64 (a pc)) := (by simp [World.cell?, hII5]); have hj3 : w5.cell? ⟨I, 3, none⟩ = some (.int .i64 (b pc)) := (by simp [World.cell?, hII5]); have hj4 : w5.cell? ⟨I, 4, none⟩ = some (.int .i32 (n pc)) := (by simp [World.cell?, hII5]); have hj5 : w5.cell? ⟨I, 5, none⟩ = some (.int .i64 (to pc)) := (by simp [World.cell?, hII5]); have hga5 := hI5.reg hregs ha0 ha1; have hgb5 := hI5.reg hregs hb0 hb1)
                go_quiet (first | (go_at_call 16; refine Calls.quiet_of_same (test16 _ _ _ _)))
                go_wp2
                have hst : step ar ⟨args.length, R, len, op, ds, a, b, n, to⟩ pn ⟨pc, dn, bt, met, regs⟩ = .inr ⟨(to pc).toNat, dn + 1, bt + 1, met, regs⟩ := (step_body (F := ⟨args.length, R, len, op, ds, a, b, n, to⟩) (s := ⟨pc, dn, bt, met, regs⟩) (by show op pc ≠ 9; rw [hopH.out]; decide) (lim_false (F := ⟨args.length, R, len, op, ds, a, b, n, to⟩) (s := ⟨pc, dn, bt, met, regs⟩) (by simpa using hl1) (by simpa using hl2))).trans (by simp [body, go, hopH.out, ar, hb6, ht])
                go_roundg (meas pn ⟨(to pc).toNat, dn + 1, bt + 1, met, regs⟩)
                case measure => exact hme _ hst
                case rel => exact ⟨⟨(to pc).toNat, dn + 1, bt + 1, met, regs⟩, rfl, by go_num, by rw [htn], by go_num, (Inv.state (hI5.drewN _) rfl rfl), ⟨by simp only; omega, hregs, by simp only; omega, by simp only; omega, by simp only; omega⟩, (runS_inr hst).symm.trans hrun.out⟩
    · as_aux_lemma =>
        by_cases hl1 : 16 * (1024 + (len : Int)) ≤ bt
        · go_wp2
          have hst : step ar ⟨args.length, R, len, op, ds, a, b, n, to⟩ pn ⟨pc, dn, bt, met, regs⟩ = .inl (4, 0, (met : Int)) := step_lim (F := ⟨args.length, R, len, op, ds, a, b, n, to⟩) (s := ⟨pc, dn, bt, met, regs⟩) (by show op pc ≠ 9; rw [hopH.out]; decide) (lim_true (by first | exact .inl (by simpa using hl1) | exact .inr (by simpa using hl2)))
          have hR : RES = (4, 0, (met : Int)) := hrun.out.symm.trans (runS_inl hst)
          refine bodyPost_ret_by (results_cell_row results7 _ _ (w.heap.size + 1) 32 _ (0, 0) _ rfl (fin_row ((Below.heap_setCell _ _ _ _ (by simp only; omega)).trans hsX) _ _ _) Tryz.underlying32 rfl size32) rfl ⟨?_, ((((hbelow.setCell (by simp only; omega) _).setCell (by simp only; omega) _).setCell (by simp only; omega) _).setCell (by simp only; omega) _)⟩
          rw [hR]
        · by_cases hl2 : (4194304 : Int) ≤ dn
          · go_wp2
            have hst : step ar ⟨args.length, R, len, op, ds, a, b, n, to⟩ pn ⟨pc, dn, bt, met, regs⟩ = .inl (4, 0, (met : Int)) := step_lim (F := ⟨args.length, R, len, op, ds, a, b, n, to⟩) (s := ⟨pc, dn, bt, met, regs⟩) (by show op pc ≠ 9; rw [hopH.out]; decide) (lim_true (by first | exact .inl (by simpa using hl1) | exact .inr (by simpa using hl2)))
            have hR : RES = (4, 0, (met : Int)) := hrun.out.symm.trans (runS_inl hst)
            refine bodyPost_ret_by (results_cell_row results7 _ _ (w.heap.size + 1) 32 _ (0, 0) _ rfl (fin_row ((Below.heap_setCell _ _ _ _ (by simp only; omega)).trans hsX) _ _ _) Tryz.underlying32 rfl size32) rfl ⟨?_, ((((hbelow.setCell (by simp only; omega) _).setCell (by simp only; omega) _).setCell (by simp only; omega) _).setCell (by simp only; omega) _)⟩
            rw [hR]
          · have hl3 : (bt : Int) < 16 * (1024 + (len : Int)) := by omega
            have hl4 : (dn : Int) < 4194304 := by omega
            have hra : 0 ≤ a pc ∧ a pc < R := by simp [fine, rdA, rdB, irx.wr, inR] at hfine; omega
            obtain ⟨ha0, ha1⟩ := hra
            have hga := hIa.reg hregs ha0 ha1
            go_wp2
            go_region
            all_goals (try go_wp2)
            have hst : step ar ⟨args.length, R, len, op, ds, a, b, n, to⟩ pn ⟨pc, dn, bt, met, regs⟩ = .inl (1, rg ⟨pc, dn, bt, met, regs⟩ (a pc), (met : Int)) := (step_body (F := ⟨args.length, R, len, op, ds, a, b, n, to⟩) (s := ⟨pc, dn, bt, met, regs⟩) (by show op pc ≠ 9; rw [hopH.out]; decide) (lim_false (F := ⟨args.length, R, len, op, ds, a, b, n, to⟩) (s := ⟨pc, dn, bt, met, regs⟩) (by simpa using hl1) (by simpa using hl2))).trans (by simp [body, go, hopH.out])
            have hR : RES = (1, rg ⟨pc, dn, bt, met, regs⟩ (a pc), (met : Int)) := hrun.out.symm.trans (runS_inl hst)
            refine bodyPost_ret_by (results_cell_row results7 _ _ (w.heap.size + 1) 32 _ (0, 0) _ rfl (fin_row ((Below.heap_setCell _ _ _ _ (by simp only; omega)).trans ((Below.heap_setCell _ _ _ _ (by simp only; omega)).trans hsX)) _ _ _) Tryz.underlying32 rfl size32) rfl ⟨?_, (((((hbelow.setCell (by simp only; omega) _).setCell (by simp only; omega) _).drew.setCell (by simp only; omega) _).setCell (by simp only; omega) _).setCell (by simp only; omega) _)⟩
            rw [hR]
    · as_aux_lemma =>
        by_cases hl1 : 16 * (1024 + (len : Int)) ≤ bt
        · go_wp2
          have hst : step ar ⟨args.length, R, len, op, ds, a, b, n, to⟩ pn ⟨pc, dn, bt, met, regs⟩ = .inl (4, 0, (met : Int)) := step_lim (F := ⟨args.length, R, len, op, ds, a, b, n, to⟩) (s := ⟨pc, dn, bt, met, regs⟩) (by show op pc ≠ 9; rw [hopH.out]; decide) (lim_true (by first | exact .inl (by simpa using hl1) | exact .inr (by simpa using hl2)))
          have hR : RES = (4, 0, (met : Int)) := hrun.out.symm.trans (runS_inl hst)
          refine bodyPost_ret_by (results_cell_row results7 _ _ (w.heap.size + 1) 32 _ (0, 0) _ rfl (fin_row ((Below.heap_setCell _ _ _ _ (by simp only; omega)).trans hsX) _ _ _) Tryz.underlying32 rfl size32) rfl ⟨?_, ((((hbelow.setCell (by simp only; omega) _).setCell (by simp only; omega) _).setCell (by simp only; omega) _).setCell (by simp only; omega) _)⟩
          rw [hR]
        · by_cases hl2 : (4194304 : Int) ≤ dn
          · go_wp2
            have hst : step ar ⟨args.length, R, len, op, ds, a, b, n, to⟩ pn ⟨pc, dn, bt, met, regs⟩ = .inl (4, 0, (met : Int)) := step_lim (F := ⟨args.length, R, len, op, ds, a, b, n, to⟩) (s := ⟨pc, dn, bt, met, regs⟩) (by show op pc ≠ 9; rw [hopH.out]; decide) (lim_true (by first | exact .inl (by simpa using hl1) | exact .inr (by simpa using hl2)))
            have hR : RES = (4, 0, (met : Int)) := hrun.out.symm.trans (runS_inl hst)
            refine bodyPost_ret_by (results_cell_row results7 _ _ (w.heap.size + 1) 32 _ (0, 0) _ rfl (fin_row ((Below.heap_setCell _ _ _ _ (by simp only; omega)).trans hsX) _ _ _) Tryz.underlying32 rfl size32) rfl ⟨?_, ((((hbelow.setCell (by simp only; omega) _).setCell (by simp only; omega) _).setCell (by simp only; omega) _).setCell (by simp only; omega) _)⟩
            rw [hR]
          · have hl3 : (bt : Int) < 16 * (1024 + (len : Int)) := by omega
            have hl4 : (dn : Int) < 4194304 := by omega
            go_wp2
            have hst : step ar ⟨args.length, R, len, op, ds, a, b, n, to⟩ pn ⟨pc, dn, bt, met, regs⟩ = .inl (1, 0, (met : Int)) := (step_body (F := ⟨args.length, R, len, op, ds, a, b, n, to⟩) (s := ⟨pc, dn, bt, met, regs⟩) (by show op pc ≠ 9; rw [hopH.out]; decide) (lim_false (F := ⟨args.length, R, len, op, ds, a, b, n, to⟩) (s := ⟨pc, dn, bt, met, regs⟩) (by simpa using hl1) (by simpa using hl2))).trans (by simp [body, go, hopH.out])
            have hR : RES = (1, 0, (met : Int)) := hrun.out.symm.trans (runS_inl hst)
            refine bodyPost_ret_by (results_cell_row results7 _ _ (w.heap.size + 1) 32 _ (0, 0) _ rfl (fin_row ((Below.heap_setCell _ _ _ _ (by simp only; omega)).trans hsX) _ _ _) Tryz.underlying32 rfl size32) rfl ⟨?_, ((((hbelow.setCell (by simp only; omega) _).setCell (by simp only; omega) _).setCell (by simp only; omega) _).setCell (by simp only; omega) _)⟩
            rw [hR]
    · as_aux_lemma =>
        have hpn1 := hnext (by decide) (by decide) (by decide)
        have hbb : (bt : Int) + 1 ≤ 9223372036854775807 := by omega
        have hp : pn ≤ met := by have := hpe.out; omega
        go_wp2
        have hst : step ar ⟨args.length, R, len, op, ds, a, b, n, to⟩ pn ⟨pc, dn, bt, met, regs⟩ = .inl (3, 0, (met : Int)) := by simp [step, hopH.out, hp]
        have hR : RES = (3, 0, (met : Int)) := hrun.out.symm.trans (runS_inl hst)
        refine bodyPost_ret_by (results_cell_row results7 _ _ (w.heap.size + 1) 32 _ (0, 0) _ rfl (fin_row ((Below.heap_setCell _ _ _ _ (by simp only; omega)).trans hsX) _ _ _) Tryz.underlying32 rfl size32) rfl ⟨?_, ((((hbelow.setCell (by simp only; omega) _).setCell (by simp only; omega) _).setCell (by simp only; omega) _).setCell (by simp only; omega) _)⟩
        rw [hR]
end Go.Proofs.YtondggcbldnhcaaGreat.irx
