/-
  x86.read, walked: operations of the classes al0 al1 al4 al42.
-/
import Derived.Test.YtpcocfdgcihpdaaRdHdr
set_option maxHeartbeats 64000000
set_option maxRecDepth 1000000
set_option linter.unusedVariables false
set_option linter.unusedSimpArgs false
namespace Go.Proofs.Ytpcocfdgcihpdaa.rdw
open Go Go.RowKit
open Go.Proofs.Ytpcocfdgcihpdaa Go.Proofs.Ytpcocfdgcihpdaa.wr
set_option linter.unusedVariables false
set_option linter.unusedSimpArgs false
theorem rd_al0_full (kk : Nat) (c : Int) (hf : RD.form kk = RD.alone 0 [c]) (hof : OfC kk 1 false false 0 false 0 0 false) (bb oo cap : Nat) (x : List Int) (w : World) (hL : 0 < x.length) (hL2 : x.length ≤ 9223372036854775807) (hx : RD.isBytes x) (hr : Row w bb oo x)
   (hlen : RD.off x + 1 ≤ x.length) : ReadC kk bb oo cap x w := by
  unfold ReadC
  have hb := hr.1
  have h0 := hr.2 0 hL
  rw [Nat.add_zero] at h0
  have hbyte : ∀ j, j < x.length → 0 ≤ x.getD j 0 ∧ x.getD j 0 ≤ 255 := by
    intro j hj
    have e : x.getD j 0 = x[j] := by simp [List.getD, hj]
    rw [e]; exact hx _ (List.getElem_mem hj)
  obtain ⟨r0, r1⟩ := hbyte 0 hL
  have hoff : RD.ahead x = (if x.getD 0 0 / 16 = 4 then x.getD 0 0 else 0) := rfl
  have hoff2 : RD.off x = (if x.getD 0 0 / 16 = 4 then 1 else 0) := rfl
  have hb2 := bits240 _ r0 r1
  have eneed : RD.need kk x = RD.off x + 1 := by simp [RD.need, hf, RD.two, RD.one, RD.alone]
  have hz : True := trivial
  have eA : RD.rdA kk x = 0 := by simp only [RD.rdA, RD.rdB, RD.rdN, RD.need, RD.rmid, RD.rlast, hf, RD.two, RD.one, RD.alone]; simp
  have eB : RD.rdB kk x = 0 := by simp only [RD.rdA, RD.rdB, RD.rdN, RD.need, RD.rmid, RD.rlast, hf, RD.two, RD.one, RD.alone]; simp
  have eN : RD.rdN kk x = 0 := by
    unfold RD.rdN
    rw [eneed, if_pos hlen, show (RD.form kk).nb = 0 by rw [hf]; rfl]
    rfl
  rw [eA, eB, eN, eneed]
  clear eA eB eN eneed hz
  generalize hv : x.getD 0 0 = v0 at *
  have ho : (RD.off x : Int) ≤ 1 := by rw [hoff2]; split <;> simp
  have ha0 : 0 ≤ RD.ahead x := by rw [hoff]; split <;> omega
  have ha1 : RD.ahead x ≤ 255 := by rw [hoff]; split <;> omega
  have H1 := Lib.hid hoff; have H2 := Lib.hid hoff2; have H3 := Lib.hid hv; clear hoff hoff2 hv
  have HR := Lib.hid hr; clear hr
  have HB := Lib.hid hbyte; clear hbyte
  have HX := Lib.hid hx; clear hx
  have HF := Lib.hid hf; clear hf
  have q1 := bitsI (RD.ahead x / 4) (by omega) (by omega)
  have q2 := bitsI (RD.ahead x) (by omega) (by omega)
  go_enter Try.func50, Try.ntmps50
  go_upto_if 40 with (go_at_call 55; refine (hof _).mono ?_; rintro e w1 ⟨⟨fb, fc, rfl⟩, hb1⟩; have hbl : Below w.heap.size w w1 := ((Below.refl _ _).alloc (Nat.le_refl _) _).trans (hb1.mono (by simp)); have hsz := hbl.size; have hq1 : bb < w1.heap.size := Nat.lt_of_lt_of_le hb hsz; have hq2 : bb < w1.heap.size + 1 := Nat.lt_succ_of_lt hq1; have hq3 : bb < w1.heap.size + 1 + 1 := Nat.lt_succ_of_lt hq2; have hq4 : bb < w1.heap.size + 1 + 1 + 1 := Nat.lt_succ_of_lt hq3; have hq5 : bb < w1.heap.size + 1 + 1 + 1 + 1 := Nat.lt_succ_of_lt hq4; have hq6 : bb ≠ w1.heap.size + 1 := Nat.ne_of_lt hq2; have hq7 : w1.heap.size + 1 ≠ bb := fun e => hq6 e.symm; have e0 := (hbl.cell (p := ⟨bb, oo, none⟩) hb).trans h0; have h4 : w1.heap[w.heap.size]? = some Z4 := (hb1.block w.heap.size (by simp)).trans (heap_alloc_new w _); have hlt4 : w.heap.size < w1.heap.size := (by have := hb1.size; simp at this; omega); clear hb1)
  go_cut [10, 11] (fun s10 s11 wx => s10 = .int .i64 (RD.ahead x) ∧ s11 = .int .i64 ((RD.off x : Nat) : Int) ∧ wx = (w1.alloc (.cells #[.slice (some ⟨fb, 0, none⟩) 1 fc, .bool false, .bool false, .int .i64 0, .bool false, .int .i64 0, .int .i64 0, .bool false] 96)).alloc (.cells #[.int .i64 (kk : Int), .int .i64 0, .int .i64 0, .int .i32 0] 30))
  case first =>
    by_cases hc : v0 / 16 = 4
    · rw [decide_eq_true hc] at hb2
      go_wp2
      go_meet
      case rel => exact ⟨by rw [H1.out, if_pos hc], by rw [H2.out, if_pos hc]; rfl, rfl⟩
    · rw [decide_eq_false hc] at hb2
      go_wp2
      go_meet
      case rel => exact ⟨by rw [H1.out, if_neg hc], by rw [H2.out, if_neg hc]; rfl, rfl⟩
  case rest =>
    obtain ⟨rfl, rfl, rfl⟩ := hcut
    clear e0 h0 hb2
    have hW4 : Hid (w1.heap[w.heap.size]? = some Z4) := h4
    clear h4
    have hn' : decide ((RD.off x : Int) + 1 ≤ (x.length : Int)) = true := by simp; omega
    go_wp2_with fail
    refine wp_loop_rounds 1 ?_
    rw [rounds_succ]
    go_wp2_with fail
    go_wp2_with (go_at_call 56; refine (enc12W kk (0) (0) (0) (w := w) (w1 := w1) HR.out ?cS).mono ?_)
    case cS =>
      apply Exists.intro
      apply And.intro
      repeat first
        | with_reducible exact Sh.start hbl hW4.out hlt4 _ _
        | with_reducible apply Sh.alloc
        | with_reducible apply Sh.set
        | with_reducible apply Sh.drewN
      rfl
    rintro e w2 ⟨v, E, bs, rfl, hEB, hby, hB2, h42, h92, hr2, hs2⟩
    have c0 : w2.cell? ⟨w1.heap.size + 1, 0, none⟩ = some (.int .i64 (kk : Int)) := by simp [World.cell?, h92]
    have c1 : w2.cell? ⟨w1.heap.size + 1, 1, none⟩ = some (.int .i64 (0)) := by simp [World.cell?, h92]
    have c2 : w2.cell? ⟨w1.heap.size + 1, 2, none⟩ = some (.int .i64 (0)) := by simp [World.cell?, h92]
    have c3 : w2.cell? ⟨w1.heap.size + 1, 3, none⟩ = some (.int .i32 (0)) := by simp [World.cell?, h92]
    have d0 : w2.cell? ⟨w.heap.size, 0, none⟩ = some (.int .i64 0) := by simp [World.cell?, h42]
    have d1 : w2.cell? ⟨w.heap.size, 1, none⟩ = some (.int .i64 0) := by simp [World.cell?, h42]
    have d2 : w2.cell? ⟨w.heap.size, 2, none⟩ = some (.int .i64 0) := by simp [World.cell?, h42]
    have d3 : w2.cell? ⟨w.heap.size, 3, none⟩ = some (.int .i32 0) := by simp [World.cell?, h42]
    have f0 : w2.frozen? ⟨w.heap.size, 0, none⟩ = false := by simp [World.frozen?, h42]
    have f1 : w2.frozen? ⟨w.heap.size, 1, none⟩ = false := by simp [World.frozen?, h42]
    have f2 : w2.frozen? ⟨w.heap.size, 2, none⟩ = false := by simp [World.frozen?, h42]
    have f3 : w2.frozen? ⟨w.heap.size, 3, none⟩ = false := by simp [World.frozen?, h42]
    have H5 := Lib.hid h42; have H6 := Lib.hid h92; clear h42 h92
    by_cases hE : E = 0
    · obtain ⟨e1, e2⟩ := hEB.out
      have hne : bs ≠ [] := by
        rcases enc_fit kk (0) (0) (0) with ⟨_, q⟩ | ⟨q, _⟩
        · rw [e2]; exact q
        · exact absurd (e1.symm.trans hE) q
      have hS : Hid (same_ kk (0) (0) (0) x = RD.common bs x) := by
        unfold same_; rw [← e1, if_pos hE, ← e2]; exact Lib.hid rfl
      have hs10 : bs.length ≤ 10 := by rw [e2]; exact enc_short _ _ _ _
      clear hEB
      obtain ⟨blk, base, cp, rfl, hb2, hb3, hb4⟩ := (hby.resolve_left (fun h => hne h.1)).2
      have HC := Lib.hid hb4; clear hb4 hby e1 e2
      subst hE
      obtain ⟨M, hM, hM1, hM2, hM3⟩ : ∃ M : Int, (if x.length < bs.length then ((x.length : Nat) : Int) else ((bs.length : Nat) : Int)) = M ∧ M ≤ (x.length : Int) ∧ M ≤ (bs.length : Int) ∧ (M = (x.length : Int) ∨ M = (bs.length : Int)) := by
        refine ⟨_, rfl, ?_, ?_, ?_⟩ <;> split <;> omega
      go_wp2_with fail
      go_loopw [23] (fun s wr => ∃ k j : Nat, s = .int .i64 k ∧ wr = w2.drewN j ∧ k ≤ RD.common bs x) (fun s _ => RD.common bs x - (intOf s).toNat)
      case atStart => exact ⟨0, 0, rfl, rfl, Nat.zero_le _⟩
      case round =>
        obtain ⟨k, j, rfl, rfl, hk⟩ := hrel
        have hcl := RD.common_le bs x
        by_cases hlt : k < RD.common bs x
        · obtain ⟨k1, k2, k3⟩ := common_lt hlt
          have z1 := HC.out k k1
          have z2 := hr2.2 k k2
          rw [← k3] at z2
          have hd : decide ((k : Int) < M) = true := by simp; omega
          clear k3 hM3
          go_wp2_with fail
          go_quiet (fail)
          go_wp2_with fail
          go_roundw
          case rel => exact ⟨k + 1, _, by go_num, rfl, by omega⟩
          case measure => simp [intOf]; omega
        · obtain rfl : k = RD.common bs x := by omega
          have G := fun n => cells4 (fin4 (w := w2.drewN n) H5.out (.int .i64 (kk : Int)) (.int .i64 (0)) (.int .i64 (0)) (.int .i32 (0)))
          have HG := Lib.hid G; clear G
          by_cases hge : M ≤ (RD.common bs x : Int)
          · have hd : decide ((RD.common bs x : Int) < M) = false := by simp; omega
            clear hM3 hge
            go_wp2_with fail
            go_quiet (fail)
            go_wp2_with fail
            refine bodyPost_ret (v := .tuple #[.agg #[.int .i64 (kk : Int), .int .i64 (0), .int .i64 (0), .int .i32 (0)], .int .i64 (RD.common bs x), .int .i64 ((RD.off x + 1 : Nat) : Int)]) (by simp [results, results32, go_sem, fun n => (HG.out n).1, fun n => (HG.out n).2.1, fun n => (HG.out n).2.2.1, fun n => (HG.out n).2.2.2] <;> omega) rfl ⟨?_, ?_⟩
            · rw [hS.out]
            · exact ((((below_drewN hB2 _).setCell (Nat.le_refl _) _).setCell (Nat.le_refl _) _).setCell (Nat.le_refl _) _).setCell (Nat.le_refl _) _
          · have k1 : RD.common bs x < bs.length := by omega
            have k2 : RD.common bs x < x.length := by omega
            have z1 := HC.out _ k1
            have z2 := hr2.2 _ k2
            have k3 : (bs.getD (RD.common bs x) 0 == x.getD (RD.common bs x) 0) = false := by rw [beq_eq_false_iff_ne]; exact common_end k1 k2
            generalize bs.getD (RD.common bs x) 0 = u1 at z1 k3
            generalize x.getD (RD.common bs x) 0 = u2 at z2 k3
            have hd : decide ((RD.common bs x : Int) < M) = true := by simp; omega
            clear hM3 hge
            go_wp2_with fail
            go_quiet (fail)
            go_wp2_with fail
            refine bodyPost_ret (v := .tuple #[.agg #[.int .i64 (kk : Int), .int .i64 (0), .int .i64 (0), .int .i32 (0)], .int .i64 (RD.common bs x), .int .i64 ((RD.off x + 1 : Nat) : Int)]) (by simp [results, results32, go_sem, fun n => (HG.out n).1, fun n => (HG.out n).2.1, fun n => (HG.out n).2.2.1, fun n => (HG.out n).2.2.2] <;> omega) rfl ⟨?_, ?_⟩
            · rw [hS.out]
            · exact ((((below_drewN hB2 _).setCell (Nat.le_refl _) _).setCell (Nat.le_refl _) _).setCell (Nat.le_refl _) _).setCell (Nat.le_refl _) _
    · have hE1 : (E == 0) = false := by simpa using hE
      have hE2 : (E != 0) = true := by simpa using hE
      go_wp2_with fail
      obtain ⟨g0, g1, g2, g3⟩ := cells4 (fin4 H5.out (.int .i64 (kk : Int)) (.int .i64 (0)) (.int .i64 (0)) (.int .i32 (0)))
      refine bodyPost_ret (v := .tuple #[.agg #[.int .i64 (kk : Int), .int .i64 (0), .int .i64 (0), .int .i32 (0)], .int .i64 0, .int .i64 ((RD.off x + 1 : Nat) : Int)]) (by simp [results, results32, go_sem, g0, g1, g2, g3] <;> omega) rfl ⟨?_, ?_⟩
      · obtain ⟨e1, e2⟩ := hEB.out
        simp only [same_, ← e1, if_neg hE]; rfl
      · exact (((hB2.setCell (Nat.le_refl _) _).setCell (Nat.le_refl _) _).setCell (Nat.le_refl _) _).setCell (Nat.le_refl _) _
theorem rd_al0_none (kk : Nat) (c : Int) (hf : RD.form kk = RD.alone 0 [c]) (hof : OfC kk 1 false false 0 false 0 0 false) (bb oo cap : Nat) (x : List Int) (w : World) (hL : 0 < x.length) (hL2 : x.length ≤ 9223372036854775807) (hx : RD.isBytes x) (hr : Row w bb oo x)
   (hlen : x.length < RD.off x + 1) : ReadC kk bb oo cap x w := by
  unfold ReadC
  have hb := hr.1
  have h0 := hr.2 0 hL
  rw [Nat.add_zero] at h0
  have hbyte : ∀ j, j < x.length → 0 ≤ x.getD j 0 ∧ x.getD j 0 ≤ 255 := by
    intro j hj
    have e : x.getD j 0 = x[j] := by simp [List.getD, hj]
    rw [e]; exact hx _ (List.getElem_mem hj)
  obtain ⟨r0, r1⟩ := hbyte 0 hL
  have hoff : RD.ahead x = (if x.getD 0 0 / 16 = 4 then x.getD 0 0 else 0) := rfl
  have hoff2 : RD.off x = (if x.getD 0 0 / 16 = 4 then 1 else 0) := rfl
  have hb2 := bits240 _ r0 r1
  have eneed : RD.need kk x = RD.off x + 1 := by simp [RD.need, hf, RD.two, RD.one, RD.alone]
  have hz : True := trivial
  have eA : RD.rdA kk x = 0 := by simp only [RD.rdA, RD.rdB, RD.rdN, RD.need, RD.rmid, RD.rlast, hf, RD.two, RD.one, RD.alone]; simp
  have eB : RD.rdB kk x = 0 := by simp only [RD.rdA, RD.rdB, RD.rdN, RD.need, RD.rmid, RD.rlast, hf, RD.two, RD.one, RD.alone]; simp
  have eN : RD.rdN kk x = 0 := by
    unfold RD.rdN
    rw [eneed]
    rw [if_neg (by omega)]
  rw [eA, eB, eN, eneed]
  clear eA eB eN eneed hz
  generalize hv : x.getD 0 0 = v0 at *
  have ho : (RD.off x : Int) ≤ 1 := by rw [hoff2]; split <;> simp
  have ha0 : 0 ≤ RD.ahead x := by rw [hoff]; split <;> omega
  have ha1 : RD.ahead x ≤ 255 := by rw [hoff]; split <;> omega
  have H1 := Lib.hid hoff; have H2 := Lib.hid hoff2; have H3 := Lib.hid hv; clear hoff hoff2 hv
  have HR := Lib.hid hr; clear hr
  have HB := Lib.hid hbyte; clear hbyte
  have HX := Lib.hid hx; clear hx
  have HF := Lib.hid hf; clear hf
  have q1 := bitsI (RD.ahead x / 4) (by omega) (by omega)
  have q2 := bitsI (RD.ahead x) (by omega) (by omega)
  go_enter Try.func50, Try.ntmps50
  go_upto_if 40 with (go_at_call 55; refine (hof _).mono ?_; rintro e w1 ⟨⟨fb, fc, rfl⟩, hb1⟩; have hbl : Below w.heap.size w w1 := ((Below.refl _ _).alloc (Nat.le_refl _) _).trans (hb1.mono (by simp)); have hsz := hbl.size; have hq1 : bb < w1.heap.size := Nat.lt_of_lt_of_le hb hsz; have hq2 : bb < w1.heap.size + 1 := Nat.lt_succ_of_lt hq1; have hq3 : bb < w1.heap.size + 1 + 1 := Nat.lt_succ_of_lt hq2; have hq4 : bb < w1.heap.size + 1 + 1 + 1 := Nat.lt_succ_of_lt hq3; have hq5 : bb < w1.heap.size + 1 + 1 + 1 + 1 := Nat.lt_succ_of_lt hq4; have hq6 : bb ≠ w1.heap.size + 1 := Nat.ne_of_lt hq2; have hq7 : w1.heap.size + 1 ≠ bb := fun e => hq6 e.symm; have e0 := (hbl.cell (p := ⟨bb, oo, none⟩) hb).trans h0; have h4 : w1.heap[w.heap.size]? = some Z4 := (hb1.block w.heap.size (by simp)).trans (heap_alloc_new w _); have hlt4 : w.heap.size < w1.heap.size := (by have := hb1.size; simp at this; omega); clear hb1)
  go_cut [10, 11] (fun s10 s11 wx => s10 = .int .i64 (RD.ahead x) ∧ s11 = .int .i64 ((RD.off x : Nat) : Int) ∧ wx = (w1.alloc (.cells #[.slice (some ⟨fb, 0, none⟩) 1 fc, .bool false, .bool false, .int .i64 0, .bool false, .int .i64 0, .int .i64 0, .bool false] 96)).alloc (.cells #[.int .i64 (kk : Int), .int .i64 0, .int .i64 0, .int .i32 0] 30))
  case first =>
    by_cases hc : v0 / 16 = 4
    · rw [decide_eq_true hc] at hb2
      go_wp2
      go_meet
      case rel => exact ⟨by rw [H1.out, if_pos hc], by rw [H2.out, if_pos hc]; rfl, rfl⟩
    · rw [decide_eq_false hc] at hb2
      go_wp2
      go_meet
      case rel => exact ⟨by rw [H1.out, if_neg hc], by rw [H2.out, if_neg hc]; rfl, rfl⟩
  case rest =>
    obtain ⟨rfl, rfl, rfl⟩ := hcut
    clear e0 h0 hb2
    have hW4 : Hid (w1.heap[w.heap.size]? = some Z4) := h4
    clear h4
    have hn' : decide ((RD.off x : Int) + 1 ≤ (x.length : Int)) = false := by simp; omega
    go_wp2_with fail
    go_wp2_with (go_at_call 56; refine (enc12W kk (0) (0) (0) (w := w) (w1 := w1) HR.out ?cS).mono ?_)
    case cS =>
      apply Exists.intro
      apply And.intro
      repeat first
        | with_reducible exact Sh.start hbl hW4.out hlt4 _ _
        | with_reducible apply Sh.alloc
        | with_reducible apply Sh.set
        | with_reducible apply Sh.drewN
      rfl
    rintro e w2 ⟨v, E, bs, rfl, hEB, hby, hB2, h42, h92, hr2, hs2⟩
    have c0 : w2.cell? ⟨w1.heap.size + 1, 0, none⟩ = some (.int .i64 (kk : Int)) := by simp [World.cell?, h92]
    have c1 : w2.cell? ⟨w1.heap.size + 1, 1, none⟩ = some (.int .i64 (0)) := by simp [World.cell?, h92]
    have c2 : w2.cell? ⟨w1.heap.size + 1, 2, none⟩ = some (.int .i64 (0)) := by simp [World.cell?, h92]
    have c3 : w2.cell? ⟨w1.heap.size + 1, 3, none⟩ = some (.int .i32 (0)) := by simp [World.cell?, h92]
    have d0 : w2.cell? ⟨w.heap.size, 0, none⟩ = some (.int .i64 0) := by simp [World.cell?, h42]
    have d1 : w2.cell? ⟨w.heap.size, 1, none⟩ = some (.int .i64 0) := by simp [World.cell?, h42]
    have d2 : w2.cell? ⟨w.heap.size, 2, none⟩ = some (.int .i64 0) := by simp [World.cell?, h42]
    have d3 : w2.cell? ⟨w.heap.size, 3, none⟩ = some (.int .i32 0) := by simp [World.cell?, h42]
    have f0 : w2.frozen? ⟨w.heap.size, 0, none⟩ = false := by simp [World.frozen?, h42]
    have f1 : w2.frozen? ⟨w.heap.size, 1, none⟩ = false := by simp [World.frozen?, h42]
    have f2 : w2.frozen? ⟨w.heap.size, 2, none⟩ = false := by simp [World.frozen?, h42]
    have f3 : w2.frozen? ⟨w.heap.size, 3, none⟩ = false := by simp [World.frozen?, h42]
    have H5 := Lib.hid h42; have H6 := Lib.hid h92; clear h42 h92
    by_cases hE : E = 0
    · obtain ⟨e1, e2⟩ := hEB.out
      have hne : bs ≠ [] := by
        rcases enc_fit kk (0) (0) (0) with ⟨_, q⟩ | ⟨q, _⟩
        · rw [e2]; exact q
        · exact absurd (e1.symm.trans hE) q
      have hS : Hid (same_ kk (0) (0) (0) x = RD.common bs x) := by
        unfold same_; rw [← e1, if_pos hE, ← e2]; exact Lib.hid rfl
      have hs10 : bs.length ≤ 10 := by rw [e2]; exact enc_short _ _ _ _
      clear hEB
      obtain ⟨blk, base, cp, rfl, hb2, hb3, hb4⟩ := (hby.resolve_left (fun h => hne h.1)).2
      have HC := Lib.hid hb4; clear hb4 hby e1 e2
      subst hE
      obtain ⟨M, hM, hM1, hM2, hM3⟩ : ∃ M : Int, (if x.length < bs.length then ((x.length : Nat) : Int) else ((bs.length : Nat) : Int)) = M ∧ M ≤ (x.length : Int) ∧ M ≤ (bs.length : Int) ∧ (M = (x.length : Int) ∨ M = (bs.length : Int)) := by
        refine ⟨_, rfl, ?_, ?_, ?_⟩ <;> split <;> omega
      go_wp2_with fail
      go_loopw [23] (fun s wr => ∃ k j : Nat, s = .int .i64 k ∧ wr = w2.drewN j ∧ k ≤ RD.common bs x) (fun s _ => RD.common bs x - (intOf s).toNat)
      case atStart => exact ⟨0, 0, rfl, rfl, Nat.zero_le _⟩
      case round =>
        obtain ⟨k, j, rfl, rfl, hk⟩ := hrel
        have hcl := RD.common_le bs x
        by_cases hlt : k < RD.common bs x
        · obtain ⟨k1, k2, k3⟩ := common_lt hlt
          have z1 := HC.out k k1
          have z2 := hr2.2 k k2
          rw [← k3] at z2
          have hd : decide ((k : Int) < M) = true := by simp; omega
          clear k3 hM3
          go_wp2_with fail
          go_quiet (fail)
          go_wp2_with fail
          go_roundw
          case rel => exact ⟨k + 1, _, by go_num, rfl, by omega⟩
          case measure => simp [intOf]; omega
        · obtain rfl : k = RD.common bs x := by omega
          have G := fun n => cells4 (fin4 (w := w2.drewN n) H5.out (.int .i64 (kk : Int)) (.int .i64 (0)) (.int .i64 (0)) (.int .i32 (0)))
          have HG := Lib.hid G; clear G
          by_cases hge : M ≤ (RD.common bs x : Int)
          · have hd : decide ((RD.common bs x : Int) < M) = false := by simp; omega
            clear hM3 hge
            go_wp2_with fail
            go_quiet (fail)
            go_wp2_with fail
            refine bodyPost_ret (v := .tuple #[.agg #[.int .i64 (kk : Int), .int .i64 (0), .int .i64 (0), .int .i32 (0)], .int .i64 (RD.common bs x), .int .i64 ((RD.off x + 1 : Nat) : Int)]) (by simp [results, results32, go_sem, fun n => (HG.out n).1, fun n => (HG.out n).2.1, fun n => (HG.out n).2.2.1, fun n => (HG.out n).2.2.2] <;> omega) rfl ⟨?_, ?_⟩
            · rw [hS.out]
            · exact ((((below_drewN hB2 _).setCell (Nat.le_refl _) _).setCell (Nat.le_refl _) _).setCell (Nat.le_refl _) _).setCell (Nat.le_refl _) _
          · have k1 : RD.common bs x < bs.length := by omega
            have k2 : RD.common bs x < x.length := by omega
            have z1 := HC.out _ k1
            have z2 := hr2.2 _ k2
            have k3 : (bs.getD (RD.common bs x) 0 == x.getD (RD.common bs x) 0) = false := by rw [beq_eq_false_iff_ne]; exact common_end k1 k2
            generalize bs.getD (RD.common bs x) 0 = u1 at z1 k3
            generalize x.getD (RD.common bs x) 0 = u2 at z2 k3
            have hd : decide ((RD.common bs x : Int) < M) = true := by simp; omega
            clear hM3 hge
            go_wp2_with fail
            go_quiet (fail)
            go_wp2_with fail
            refine bodyPost_ret (v := .tuple #[.agg #[.int .i64 (kk : Int), .int .i64 (0), .int .i64 (0), .int .i32 (0)], .int .i64 (RD.common bs x), .int .i64 ((RD.off x + 1 : Nat) : Int)]) (by simp [results, results32, go_sem, fun n => (HG.out n).1, fun n => (HG.out n).2.1, fun n => (HG.out n).2.2.1, fun n => (HG.out n).2.2.2] <;> omega) rfl ⟨?_, ?_⟩
            · rw [hS.out]
            · exact ((((below_drewN hB2 _).setCell (Nat.le_refl _) _).setCell (Nat.le_refl _) _).setCell (Nat.le_refl _) _).setCell (Nat.le_refl _) _
    · have hE1 : (E == 0) = false := by simpa using hE
      have hE2 : (E != 0) = true := by simpa using hE
      go_wp2_with fail
      obtain ⟨g0, g1, g2, g3⟩ := cells4 (fin4 H5.out (.int .i64 (kk : Int)) (.int .i64 (0)) (.int .i64 (0)) (.int .i32 (0)))
      refine bodyPost_ret (v := .tuple #[.agg #[.int .i64 (kk : Int), .int .i64 (0), .int .i64 (0), .int .i32 (0)], .int .i64 0, .int .i64 ((RD.off x + 1 : Nat) : Int)]) (by simp [results, results32, go_sem, g0, g1, g2, g3] <;> omega) rfl ⟨?_, ?_⟩
      · obtain ⟨e1, e2⟩ := hEB.out
        simp only [same_, ← e1, if_neg hE]; rfl
      · exact (((hB2.setCell (Nat.le_refl _) _).setCell (Nat.le_refl _) _).setCell (Nat.le_refl _) _).setCell (Nat.le_refl _) _
theorem rd_al1_full (kk : Nat) (c : Int) (hf : RD.form kk = RD.alone 1 [c]) (hof : OfC kk 1 false false 1 false 0 0 false) (bb oo cap : Nat) (x : List Int) (w : World) (hL : 0 < x.length) (hL2 : x.length ≤ 9223372036854775807) (hx : RD.isBytes x) (hr : Row w bb oo x)
   (hlen : RD.off x + 2 ≤ x.length) : ReadC kk bb oo cap x w := by
  unfold ReadC
  have hb := hr.1
  have h0 := hr.2 0 hL
  rw [Nat.add_zero] at h0
  have hbyte : ∀ j, j < x.length → 0 ≤ x.getD j 0 ∧ x.getD j 0 ≤ 255 := by
    intro j hj
    have e : x.getD j 0 = x[j] := by simp [List.getD, hj]
    rw [e]; exact hx _ (List.getElem_mem hj)
  obtain ⟨r0, r1⟩ := hbyte 0 hL
  have hoff : RD.ahead x = (if x.getD 0 0 / 16 = 4 then x.getD 0 0 else 0) := rfl
  have hoff2 : RD.off x = (if x.getD 0 0 / 16 = 4 then 1 else 0) := rfl
  have hb2 := bits240 _ r0 r1
  have hn0' : RD.off x + 1 < x.length := by omega
  obtain ⟨s0, t0⟩ := hbyte _ hn0'
  have hbn0 := hr.2 _ hn0'
  have eneed : RD.need kk x = RD.off x + 2 := by simp [RD.need, hf, RD.two, RD.one, RD.alone]
  have hz : True := trivial
  have eA : RD.rdA kk x = 0 := by simp only [RD.rdA, RD.rdB, RD.rdN, RD.need, RD.rmid, RD.rlast, hf, RD.two, RD.one, RD.alone]; simp
  have eB : RD.rdB kk x = 0 := by simp only [RD.rdA, RD.rdB, RD.rdN, RD.need, RD.rmid, RD.rlast, hf, RD.two, RD.one, RD.alone]; simp
  have eN : RD.rdN kk x = x.getD (RD.off x + 1) 0 := by
    unfold RD.rdN
    rw [eneed, if_pos hlen, show (RD.form kk).nb = 1 by rw [hf]; rfl]
    simp only [RD.val, show RD.off x + 2 - 1 = RD.off x + 1 by omega]
  rw [eA, eB, eN, eneed]
  clear eA eB eN eneed hz
  generalize hv : x.getD 0 0 = v0 at *
  generalize hvn0 : x.getD (RD.off x + 1) 0 = n0 at *
  have ho : (RD.off x : Int) ≤ 1 := by rw [hoff2]; split <;> simp
  have ha0 : 0 ≤ RD.ahead x := by rw [hoff]; split <;> omega
  have ha1 : RD.ahead x ≤ 255 := by rw [hoff]; split <;> omega
  have H1 := Lib.hid hoff; have H2 := Lib.hid hoff2; have H3 := Lib.hid hv; clear hoff hoff2 hv
  have HN0 := Lib.hid hvn0; clear hvn0
  have HR := Lib.hid hr; clear hr
  have HB := Lib.hid hbyte; clear hbyte
  have HX := Lib.hid hx; clear hx
  have HF := Lib.hid hf; clear hf
  have q1 := bitsI (RD.ahead x / 4) (by omega) (by omega)
  have q2 := bitsI (RD.ahead x) (by omega) (by omega)
  obtain ⟨nn, qN, qM⟩ : ∃ nn : Int, wrap32 (bits BinOp.or IntKind.u32 0 n0) = nn ∧ Hid (nn = n0) := ⟨_, rfl, Lib.hid (or1 n0 (by omega) (by omega))⟩
  rw [← qM.out]
  go_enter Try.func50, Try.ntmps50
  go_upto_if 40 with (go_at_call 55; refine (hof _).mono ?_; rintro e w1 ⟨⟨fb, fc, rfl⟩, hb1⟩; have hbl : Below w.heap.size w w1 := ((Below.refl _ _).alloc (Nat.le_refl _) _).trans (hb1.mono (by simp)); have hsz := hbl.size; have hq1 : bb < w1.heap.size := Nat.lt_of_lt_of_le hb hsz; have hq2 : bb < w1.heap.size + 1 := Nat.lt_succ_of_lt hq1; have hq3 : bb < w1.heap.size + 1 + 1 := Nat.lt_succ_of_lt hq2; have hq4 : bb < w1.heap.size + 1 + 1 + 1 := Nat.lt_succ_of_lt hq3; have hq5 : bb < w1.heap.size + 1 + 1 + 1 + 1 := Nat.lt_succ_of_lt hq4; have hq6 : bb ≠ w1.heap.size + 1 := Nat.ne_of_lt hq2; have hq7 : w1.heap.size + 1 ≠ bb := fun e => hq6 e.symm; have e0 := (hbl.cell (p := ⟨bb, oo, none⟩) hb).trans h0; have en0_0 : w1.cell? ⟨bb, oo + (RD.off x + 1), none⟩ = some (.int .u8 n0) := (hbl.cell (p := ⟨bb, oo + (RD.off x + 1), none⟩) hb).trans (by rw [show RD.off x + 1 = RD.off x + 1 by omega]; exact hbn0); have h4 : w1.heap[w.heap.size]? = some Z4 := (hb1.block w.heap.size (by simp)).trans (heap_alloc_new w _); have hlt4 : w.heap.size < w1.heap.size := (by have := hb1.size; simp at this; omega); clear hb1)
  go_cut [10, 11] (fun s10 s11 wx => s10 = .int .i64 (RD.ahead x) ∧ s11 = .int .i64 ((RD.off x : Nat) : Int) ∧ wx = (w1.alloc (.cells #[.slice (some ⟨fb, 0, none⟩) 1 fc, .bool false, .bool false, .int .i64 1, .bool false, .int .i64 0, .int .i64 0, .bool false] 96)).alloc (.cells #[.int .i64 (kk : Int), .int .i64 0, .int .i64 0, .int .i32 0] 30))
  case first =>
    by_cases hc : v0 / 16 = 4
    · rw [decide_eq_true hc] at hb2
      go_wp2
      go_meet
      case rel => exact ⟨by rw [H1.out, if_pos hc], by rw [H2.out, if_pos hc]; rfl, rfl⟩
    · rw [decide_eq_false hc] at hb2
      go_wp2
      go_meet
      case rel => exact ⟨by rw [H1.out, if_neg hc], by rw [H2.out, if_neg hc]; rfl, rfl⟩
  case rest =>
    obtain ⟨rfl, rfl, rfl⟩ := hcut
    clear e0 h0 hb2
    have hW4 : Hid (w1.heap[w.heap.size]? = some Z4) := h4
    clear h4
    have hn' : decide ((RD.off x : Int) + 2 ≤ (x.length : Int)) = true := by simp; omega
    go_wp2_with fail
    refine wp_loop_rounds 2 ?_
    rw [rounds_succ]
    go_wp2_with fail
    rw [rounds_succ]
    go_wp2_with fail
    go_wp2_with (go_at_call 56; refine (enc12W kk (0) (0) (nn) (w := w) (w1 := w1) HR.out ?cS).mono ?_)
    case cS =>
      apply Exists.intro
      apply And.intro
      repeat first
        | with_reducible exact Sh.start hbl hW4.out hlt4 _ _
        | with_reducible apply Sh.alloc
        | with_reducible apply Sh.set
        | with_reducible apply Sh.drewN
      rfl
    rintro e w2 ⟨v, E, bs, rfl, hEB, hby, hB2, h42, h92, hr2, hs2⟩
    have c0 : w2.cell? ⟨w1.heap.size + 1, 0, none⟩ = some (.int .i64 (kk : Int)) := by simp [World.cell?, h92]
    have c1 : w2.cell? ⟨w1.heap.size + 1, 1, none⟩ = some (.int .i64 (0)) := by simp [World.cell?, h92]
    have c2 : w2.cell? ⟨w1.heap.size + 1, 2, none⟩ = some (.int .i64 (0)) := by simp [World.cell?, h92]
    have c3 : w2.cell? ⟨w1.heap.size + 1, 3, none⟩ = some (.int .i32 (nn)) := by simp [World.cell?, h92]
    have d0 : w2.cell? ⟨w.heap.size, 0, none⟩ = some (.int .i64 0) := by simp [World.cell?, h42]
    have d1 : w2.cell? ⟨w.heap.size, 1, none⟩ = some (.int .i64 0) := by simp [World.cell?, h42]
    have d2 : w2.cell? ⟨w.heap.size, 2, none⟩ = some (.int .i64 0) := by simp [World.cell?, h42]
    have d3 : w2.cell? ⟨w.heap.size, 3, none⟩ = some (.int .i32 0) := by simp [World.cell?, h42]
    have f0 : w2.frozen? ⟨w.heap.size, 0, none⟩ = false := by simp [World.frozen?, h42]
    have f1 : w2.frozen? ⟨w.heap.size, 1, none⟩ = false := by simp [World.frozen?, h42]
    have f2 : w2.frozen? ⟨w.heap.size, 2, none⟩ = false := by simp [World.frozen?, h42]
    have f3 : w2.frozen? ⟨w.heap.size, 3, none⟩ = false := by simp [World.frozen?, h42]
    have H5 := Lib.hid h42; have H6 := Lib.hid h92; clear h42 h92
    by_cases hE : E = 0
    · obtain ⟨e1, e2⟩ := hEB.out
      have hne : bs ≠ [] := by
        rcases enc_fit kk (0) (0) (nn) with ⟨_, q⟩ | ⟨q, _⟩
        · rw [e2]; exact q
        · exact absurd (e1.symm.trans hE) q
      have hS : Hid (same_ kk (0) (0) (nn) x = RD.common bs x) := by
        unfold same_; rw [← e1, if_pos hE, ← e2]; exact Lib.hid rfl
      have hs10 : bs.length ≤ 10 := by rw [e2]; exact enc_short _ _ _ _
      clear hEB
      obtain ⟨blk, base, cp, rfl, hb2, hb3, hb4⟩ := (hby.resolve_left (fun h => hne h.1)).2
      have HC := Lib.hid hb4; clear hb4 hby e1 e2
      subst hE
      obtain ⟨M, hM, hM1, hM2, hM3⟩ : ∃ M : Int, (if x.length < bs.length then ((x.length : Nat) : Int) else ((bs.length : Nat) : Int)) = M ∧ M ≤ (x.length : Int) ∧ M ≤ (bs.length : Int) ∧ (M = (x.length : Int) ∨ M = (bs.length : Int)) := by
        refine ⟨_, rfl, ?_, ?_, ?_⟩ <;> split <;> omega
      go_wp2_with fail
      go_loopw [23] (fun s wr => ∃ k j : Nat, s = .int .i64 k ∧ wr = w2.drewN j ∧ k ≤ RD.common bs x) (fun s _ => RD.common bs x - (intOf s).toNat)
      case atStart => exact ⟨0, 0, rfl, rfl, Nat.zero_le _⟩
      case round =>
        obtain ⟨k, j, rfl, rfl, hk⟩ := hrel
        have hcl := RD.common_le bs x
        by_cases hlt : k < RD.common bs x
        · obtain ⟨k1, k2, k3⟩ := common_lt hlt
          have z1 := HC.out k k1
          have z2 := hr2.2 k k2
          rw [← k3] at z2
          have hd : decide ((k : Int) < M) = true := by simp; omega
          clear k3 hM3
          go_wp2_with fail
          go_quiet (fail)
          go_wp2_with fail
          go_roundw
          case rel => exact ⟨k + 1, _, by go_num, rfl, by omega⟩
          case measure => simp [intOf]; omega
        · obtain rfl : k = RD.common bs x := by omega
          have G := fun n => cells4 (fin4 (w := w2.drewN n) H5.out (.int .i64 (kk : Int)) (.int .i64 (0)) (.int .i64 (0)) (.int .i32 (nn)))
          have HG := Lib.hid G; clear G
          by_cases hge : M ≤ (RD.common bs x : Int)
          · have hd : decide ((RD.common bs x : Int) < M) = false := by simp; omega
            clear hM3 hge
            go_wp2_with fail
            go_quiet (fail)
            go_wp2_with fail
            refine bodyPost_ret (v := .tuple #[.agg #[.int .i64 (kk : Int), .int .i64 (0), .int .i64 (0), .int .i32 (nn)], .int .i64 (RD.common bs x), .int .i64 ((RD.off x + 2 : Nat) : Int)]) (by simp [results, results32, go_sem, fun n => (HG.out n).1, fun n => (HG.out n).2.1, fun n => (HG.out n).2.2.1, fun n => (HG.out n).2.2.2] <;> omega) rfl ⟨?_, ?_⟩
            · rw [hS.out]
            · exact ((((below_drewN hB2 _).setCell (Nat.le_refl _) _).setCell (Nat.le_refl _) _).setCell (Nat.le_refl _) _).setCell (Nat.le_refl _) _
          · have k1 : RD.common bs x < bs.length := by omega
            have k2 : RD.common bs x < x.length := by omega
            have z1 := HC.out _ k1
            have z2 := hr2.2 _ k2
            have k3 : (bs.getD (RD.common bs x) 0 == x.getD (RD.common bs x) 0) = false := by rw [beq_eq_false_iff_ne]; exact common_end k1 k2
            generalize bs.getD (RD.common bs x) 0 = u1 at z1 k3
            generalize x.getD (RD.common bs x) 0 = u2 at z2 k3
            have hd : decide ((RD.common bs x : Int) < M) = true := by simp; omega
            clear hM3 hge
            go_wp2_with fail
            go_quiet (fail)
            go_wp2_with fail
            refine bodyPost_ret (v := .tuple #[.agg #[.int .i64 (kk : Int), .int .i64 (0), .int .i64 (0), .int .i32 (nn)], .int .i64 (RD.common bs x), .int .i64 ((RD.off x + 2 : Nat) : Int)]) (by simp [results, results32, go_sem, fun n => (HG.out n).1, fun n => (HG.out n).2.1, fun n => (HG.out n).2.2.1, fun n => (HG.out n).2.2.2] <;> omega) rfl ⟨?_, ?_⟩
            · rw [hS.out]
            · exact ((((below_drewN hB2 _).setCell (Nat.le_refl _) _).setCell (Nat.le_refl _) _).setCell (Nat.le_refl _) _).setCell (Nat.le_refl _) _
    · have hE1 : (E == 0) = false := by simpa using hE
      have hE2 : (E != 0) = true := by simpa using hE
      go_wp2_with fail
      obtain ⟨g0, g1, g2, g3⟩ := cells4 (fin4 H5.out (.int .i64 (kk : Int)) (.int .i64 (0)) (.int .i64 (0)) (.int .i32 (nn)))
      refine bodyPost_ret (v := .tuple #[.agg #[.int .i64 (kk : Int), .int .i64 (0), .int .i64 (0), .int .i32 (nn)], .int .i64 0, .int .i64 ((RD.off x + 2 : Nat) : Int)]) (by simp [results, results32, go_sem, g0, g1, g2, g3] <;> omega) rfl ⟨?_, ?_⟩
      · obtain ⟨e1, e2⟩ := hEB.out
        simp only [same_, ← e1, if_neg hE]; rfl
      · exact (((hB2.setCell (Nat.le_refl _) _).setCell (Nat.le_refl _) _).setCell (Nat.le_refl _) _).setCell (Nat.le_refl _) _
theorem rd_al1_none (kk : Nat) (c : Int) (hf : RD.form kk = RD.alone 1 [c]) (hof : OfC kk 1 false false 1 false 0 0 false) (bb oo cap : Nat) (x : List Int) (w : World) (hL : 0 < x.length) (hL2 : x.length ≤ 9223372036854775807) (hx : RD.isBytes x) (hr : Row w bb oo x)
   (hlen : x.length < RD.off x + 2) : ReadC kk bb oo cap x w := by
  unfold ReadC
  have hb := hr.1
  have h0 := hr.2 0 hL
  rw [Nat.add_zero] at h0
  have hbyte : ∀ j, j < x.length → 0 ≤ x.getD j 0 ∧ x.getD j 0 ≤ 255 := by
    intro j hj
    have e : x.getD j 0 = x[j] := by simp [List.getD, hj]
    rw [e]; exact hx _ (List.getElem_mem hj)
  obtain ⟨r0, r1⟩ := hbyte 0 hL
  have hoff : RD.ahead x = (if x.getD 0 0 / 16 = 4 then x.getD 0 0 else 0) := rfl
  have hoff2 : RD.off x = (if x.getD 0 0 / 16 = 4 then 1 else 0) := rfl
  have hb2 := bits240 _ r0 r1
  have eneed : RD.need kk x = RD.off x + 2 := by simp [RD.need, hf, RD.two, RD.one, RD.alone]
  have hz : True := trivial
  have eA : RD.rdA kk x = 0 := by simp only [RD.rdA, RD.rdB, RD.rdN, RD.need, RD.rmid, RD.rlast, hf, RD.two, RD.one, RD.alone]; simp
  have eB : RD.rdB kk x = 0 := by simp only [RD.rdA, RD.rdB, RD.rdN, RD.need, RD.rmid, RD.rlast, hf, RD.two, RD.one, RD.alone]; simp
  have eN : RD.rdN kk x = 0 := by
    unfold RD.rdN
    rw [eneed]
    rw [if_neg (by omega)]
  rw [eA, eB, eN, eneed]
  clear eA eB eN eneed hz
  generalize hv : x.getD 0 0 = v0 at *
  have ho : (RD.off x : Int) ≤ 1 := by rw [hoff2]; split <;> simp
  have ha0 : 0 ≤ RD.ahead x := by rw [hoff]; split <;> omega
  have ha1 : RD.ahead x ≤ 255 := by rw [hoff]; split <;> omega
  have H1 := Lib.hid hoff; have H2 := Lib.hid hoff2; have H3 := Lib.hid hv; clear hoff hoff2 hv
  have HR := Lib.hid hr; clear hr
  have HB := Lib.hid hbyte; clear hbyte
  have HX := Lib.hid hx; clear hx
  have HF := Lib.hid hf; clear hf
  have q1 := bitsI (RD.ahead x / 4) (by omega) (by omega)
  have q2 := bitsI (RD.ahead x) (by omega) (by omega)
  go_enter Try.func50, Try.ntmps50
  go_upto_if 40 with (go_at_call 55; refine (hof _).mono ?_; rintro e w1 ⟨⟨fb, fc, rfl⟩, hb1⟩; have hbl : Below w.heap.size w w1 := ((Below.refl _ _).alloc (Nat.le_refl _) _).trans (hb1.mono (by simp)); have hsz := hbl.size; have hq1 : bb < w1.heap.size := Nat.lt_of_lt_of_le hb hsz; have hq2 : bb < w1.heap.size + 1 := Nat.lt_succ_of_lt hq1; have hq3 : bb < w1.heap.size + 1 + 1 := Nat.lt_succ_of_lt hq2; have hq4 : bb < w1.heap.size + 1 + 1 + 1 := Nat.lt_succ_of_lt hq3; have hq5 : bb < w1.heap.size + 1 + 1 + 1 + 1 := Nat.lt_succ_of_lt hq4; have hq6 : bb ≠ w1.heap.size + 1 := Nat.ne_of_lt hq2; have hq7 : w1.heap.size + 1 ≠ bb := fun e => hq6 e.symm; have e0 := (hbl.cell (p := ⟨bb, oo, none⟩) hb).trans h0; have h4 : w1.heap[w.heap.size]? = some Z4 := (hb1.block w.heap.size (by simp)).trans (heap_alloc_new w _); have hlt4 : w.heap.size < w1.heap.size := (by have := hb1.size; simp at this; omega); clear hb1)
  go_cut [10, 11] (fun s10 s11 wx => s10 = .int .i64 (RD.ahead x) ∧ s11 = .int .i64 ((RD.off x : Nat) : Int) ∧ wx = (w1.alloc (.cells #[.slice (some ⟨fb, 0, none⟩) 1 fc, .bool false, .bool false, .int .i64 1, .bool false, .int .i64 0, .int .i64 0, .bool false] 96)).alloc (.cells #[.int .i64 (kk : Int), .int .i64 0, .int .i64 0, .int .i32 0] 30))
  case first =>
    by_cases hc : v0 / 16 = 4
    · rw [decide_eq_true hc] at hb2
      go_wp2
      go_meet
      case rel => exact ⟨by rw [H1.out, if_pos hc], by rw [H2.out, if_pos hc]; rfl, rfl⟩
    · rw [decide_eq_false hc] at hb2
      go_wp2
      go_meet
      case rel => exact ⟨by rw [H1.out, if_neg hc], by rw [H2.out, if_neg hc]; rfl, rfl⟩
  case rest =>
    obtain ⟨rfl, rfl, rfl⟩ := hcut
    clear e0 h0 hb2
    have hW4 : Hid (w1.heap[w.heap.size]? = some Z4) := h4
    clear h4
    have hn' : decide ((RD.off x : Int) + 2 ≤ (x.length : Int)) = false := by simp; omega
    go_wp2_with fail
    go_wp2_with (go_at_call 56; refine (enc12W kk (0) (0) (0) (w := w) (w1 := w1) HR.out ?cS).mono ?_)
    case cS =>
      apply Exists.intro
      apply And.intro
      repeat first
        | with_reducible exact Sh.start hbl hW4.out hlt4 _ _
        | with_reducible apply Sh.alloc
        | with_reducible apply Sh.set
        | with_reducible apply Sh.drewN
      rfl
    rintro e w2 ⟨v, E, bs, rfl, hEB, hby, hB2, h42, h92, hr2, hs2⟩
    have c0 : w2.cell? ⟨w1.heap.size + 1, 0, none⟩ = some (.int .i64 (kk : Int)) := by simp [World.cell?, h92]
    have c1 : w2.cell? ⟨w1.heap.size + 1, 1, none⟩ = some (.int .i64 (0)) := by simp [World.cell?, h92]
    have c2 : w2.cell? ⟨w1.heap.size + 1, 2, none⟩ = some (.int .i64 (0)) := by simp [World.cell?, h92]
    have c3 : w2.cell? ⟨w1.heap.size + 1, 3, none⟩ = some (.int .i32 (0)) := by simp [World.cell?, h92]
    have d0 : w2.cell? ⟨w.heap.size, 0, none⟩ = some (.int .i64 0) := by simp [World.cell?, h42]
    have d1 : w2.cell? ⟨w.heap.size, 1, none⟩ = some (.int .i64 0) := by simp [World.cell?, h42]
    have d2 : w2.cell? ⟨w.heap.size, 2, none⟩ = some (.int .i64 0) := by simp [World.cell?, h42]
    have d3 : w2.cell? ⟨w.heap.size, 3, none⟩ = some (.int .i32 0) := by simp [World.cell?, h42]
    have f0 : w2.frozen? ⟨w.heap.size, 0, none⟩ = false := by simp [World.frozen?, h42]
    have f1 : w2.frozen? ⟨w.heap.size, 1, none⟩ = false := by simp [World.frozen?, h42]
    have f2 : w2.frozen? ⟨w.heap.size, 2, none⟩ = false := by simp [World.frozen?, h42]
    have f3 : w2.frozen? ⟨w.heap.size, 3, none⟩ = false := by simp [World.frozen?, h42]
    have H5 := Lib.hid h42; have H6 := Lib.hid h92; clear h42 h92
    by_cases hE : E = 0
    · obtain ⟨e1, e2⟩ := hEB.out
      have hne : bs ≠ [] := by
        rcases enc_fit kk (0) (0) (0) with ⟨_, q⟩ | ⟨q, _⟩
        · rw [e2]; exact q
        · exact absurd (e1.symm.trans hE) q
      have hS : Hid (same_ kk (0) (0) (0) x = RD.common bs x) := by
        unfold same_; rw [← e1, if_pos hE, ← e2]; exact Lib.hid rfl
      have hs10 : bs.length ≤ 10 := by rw [e2]; exact enc_short _ _ _ _
      clear hEB
      obtain ⟨blk, base, cp, rfl, hb2, hb3, hb4⟩ := (hby.resolve_left (fun h => hne h.1)).2
      have HC := Lib.hid hb4; clear hb4 hby e1 e2
      subst hE
      obtain ⟨M, hM, hM1, hM2, hM3⟩ : ∃ M : Int, (if x.length < bs.length then ((x.length : Nat) : Int) else ((bs.length : Nat) : Int)) = M ∧ M ≤ (x.length : Int) ∧ M ≤ (bs.length : Int) ∧ (M = (x.length : Int) ∨ M = (bs.length : Int)) := by
        refine ⟨_, rfl, ?_, ?_, ?_⟩ <;> split <;> omega
      go_wp2_with fail
      go_loopw [23] (fun s wr => ∃ k j : Nat, s = .int .i64 k ∧ wr = w2.drewN j ∧ k ≤ RD.common bs x) (fun s _ => RD.common bs x - (intOf s).toNat)
      case atStart => exact ⟨0, 0, rfl, rfl, Nat.zero_le _⟩
      case round =>
        obtain ⟨k, j, rfl, rfl, hk⟩ := hrel
        have hcl := RD.common_le bs x
        by_cases hlt : k < RD.common bs x
        · obtain ⟨k1, k2, k3⟩ := common_lt hlt
          have z1 := HC.out k k1
          have z2 := hr2.2 k k2
          rw [← k3] at z2
          have hd : decide ((k : Int) < M) = true := by simp; omega
          clear k3 hM3
          go_wp2_with fail
          go_quiet (fail)
          go_wp2_with fail
          go_roundw
          case rel => exact ⟨k + 1, _, by go_num, rfl, by omega⟩
          case measure => simp [intOf]; omega
        · obtain rfl : k = RD.common bs x := by omega
          have G := fun n => cells4 (fin4 (w := w2.drewN n) H5.out (.int .i64 (kk : Int)) (.int .i64 (0)) (.int .i64 (0)) (.int .i32 (0)))
          have HG := Lib.hid G; clear G
          by_cases hge : M ≤ (RD.common bs x : Int)
          · have hd : decide ((RD.common bs x : Int) < M) = false := by simp; omega
            clear hM3 hge
            go_wp2_with fail
            go_quiet (fail)
            go_wp2_with fail
            refine bodyPost_ret (v := .tuple #[.agg #[.int .i64 (kk : Int), .int .i64 (0), .int .i64 (0), .int .i32 (0)], .int .i64 (RD.common bs x), .int .i64 ((RD.off x + 2 : Nat) : Int)]) (by simp [results, results32, go_sem, fun n => (HG.out n).1, fun n => (HG.out n).2.1, fun n => (HG.out n).2.2.1, fun n => (HG.out n).2.2.2] <;> omega) rfl ⟨?_, ?_⟩
            · rw [hS.out]
            · exact ((((below_drewN hB2 _).setCell (Nat.le_refl _) _).setCell (Nat.le_refl _) _).setCell (Nat.le_refl _) _).setCell (Nat.le_refl _) _
          · have k1 : RD.common bs x < bs.length := by omega
            have k2 : RD.common bs x < x.length := by omega
            have z1 := HC.out _ k1
            have z2 := hr2.2 _ k2
            have k3 : (bs.getD (RD.common bs x) 0 == x.getD (RD.common bs x) 0) = false := by rw [beq_eq_false_iff_ne]; exact common_end k1 k2
            generalize bs.getD (RD.common bs x) 0 = u1 at z1 k3
            generalize x.getD (RD.common bs x) 0 = u2 at z2 k3
            have hd : decide ((RD.common bs x : Int) < M) = true := by simp; omega
            clear hM3 hge
            go_wp2_with fail
            go_quiet (fail)
            go_wp2_with fail
            refine bodyPost_ret (v := .tuple #[.agg #[.int .i64 (kk : Int), .int .i64 (0), .int .i64 (0), .int .i32 (0)], .int .i64 (RD.common bs x), .int .i64 ((RD.off x + 2 : Nat) : Int)]) (by simp [results, results32, go_sem, fun n => (HG.out n).1, fun n => (HG.out n).2.1, fun n => (HG.out n).2.2.1, fun n => (HG.out n).2.2.2] <;> omega) rfl ⟨?_, ?_⟩
            · rw [hS.out]
            · exact ((((below_drewN hB2 _).setCell (Nat.le_refl _) _).setCell (Nat.le_refl _) _).setCell (Nat.le_refl _) _).setCell (Nat.le_refl _) _
    · have hE1 : (E == 0) = false := by simpa using hE
      have hE2 : (E != 0) = true := by simpa using hE
      go_wp2_with fail
      obtain ⟨g0, g1, g2, g3⟩ := cells4 (fin4 H5.out (.int .i64 (kk : Int)) (.int .i64 (0)) (.int .i64 (0)) (.int .i32 (0)))
      refine bodyPost_ret (v := .tuple #[.agg #[.int .i64 (kk : Int), .int .i64 (0), .int .i64 (0), .int .i32 (0)], .int .i64 0, .int .i64 ((RD.off x + 2 : Nat) : Int)]) (by simp [results, results32, go_sem, g0, g1, g2, g3] <;> omega) rfl ⟨?_, ?_⟩
      · obtain ⟨e1, e2⟩ := hEB.out
        simp only [same_, ← e1, if_neg hE]; rfl
      · exact (((hB2.setCell (Nat.le_refl _) _).setCell (Nat.le_refl _) _).setCell (Nat.le_refl _) _).setCell (Nat.le_refl _) _
theorem rd_al4_full (kk : Nat) (c : Int) (hf : RD.form kk = RD.alone 4 [c]) (hof : OfC kk 1 false false 4 false 0 0 false) (bb oo cap : Nat) (x : List Int) (w : World) (hL : 0 < x.length) (hL2 : x.length ≤ 9223372036854775807) (hx : RD.isBytes x) (hr : Row w bb oo x)
   (hlen : RD.off x + 5 ≤ x.length) : ReadC kk bb oo cap x w := by
  unfold ReadC
  have hb := hr.1
  have h0 := hr.2 0 hL
  rw [Nat.add_zero] at h0
  have hbyte : ∀ j, j < x.length → 0 ≤ x.getD j 0 ∧ x.getD j 0 ≤ 255 := by
    intro j hj
    have e : x.getD j 0 = x[j] := by simp [List.getD, hj]
    rw [e]; exact hx _ (List.getElem_mem hj)
  obtain ⟨r0, r1⟩ := hbyte 0 hL
  have hoff : RD.ahead x = (if x.getD 0 0 / 16 = 4 then x.getD 0 0 else 0) := rfl
  have hoff2 : RD.off x = (if x.getD 0 0 / 16 = 4 then 1 else 0) := rfl
  have hb2 := bits240 _ r0 r1
  have hn0' : RD.off x + 1 < x.length := by omega
  obtain ⟨s0, t0⟩ := hbyte _ hn0'
  have hbn0 := hr.2 _ hn0'
  have hn1' : RD.off x + 2 < x.length := by omega
  obtain ⟨s1, t1⟩ := hbyte _ hn1'
  have hbn1 := hr.2 _ hn1'
  have hn2' : RD.off x + 3 < x.length := by omega
  obtain ⟨s2, t2⟩ := hbyte _ hn2'
  have hbn2 := hr.2 _ hn2'
  have hn3' : RD.off x + 4 < x.length := by omega
  obtain ⟨s3, t3⟩ := hbyte _ hn3'
  have hbn3 := hr.2 _ hn3'
  have eneed : RD.need kk x = RD.off x + 5 := by simp [RD.need, hf, RD.two, RD.one, RD.alone]
  have hz : True := trivial
  have eA : RD.rdA kk x = 0 := by simp only [RD.rdA, RD.rdB, RD.rdN, RD.need, RD.rmid, RD.rlast, hf, RD.two, RD.one, RD.alone]; simp
  have eB : RD.rdB kk x = 0 := by simp only [RD.rdA, RD.rdB, RD.rdN, RD.need, RD.rmid, RD.rlast, hf, RD.two, RD.one, RD.alone]; simp
  have eN : RD.rdN kk x = RD.s32 (x.getD (RD.off x + 1) 0 + 256 * x.getD (RD.off x + 2) 0 + 65536 * x.getD (RD.off x + 3) 0 + 16777216 * x.getD (RD.off x + 4) 0) := by
    unfold RD.rdN
    rw [eneed, if_pos hlen, show (RD.form kk).nb = 4 by rw [hf]; rfl]
    simp only [RD.val, show RD.off x + 5 - 4 = RD.off x + 1 by omega]
  rw [eA, eB, eN, eneed]
  clear eA eB eN eneed hz
  generalize hv : x.getD 0 0 = v0 at *
  generalize hvn0 : x.getD (RD.off x + 1) 0 = n0 at *
  generalize hvn1 : x.getD (RD.off x + 2) 0 = n1 at *
  generalize hvn2 : x.getD (RD.off x + 3) 0 = n2 at *
  generalize hvn3 : x.getD (RD.off x + 4) 0 = n3 at *
  have ho : (RD.off x : Int) ≤ 1 := by rw [hoff2]; split <;> simp
  have ha0 : 0 ≤ RD.ahead x := by rw [hoff]; split <;> omega
  have ha1 : RD.ahead x ≤ 255 := by rw [hoff]; split <;> omega
  have H1 := Lib.hid hoff; have H2 := Lib.hid hoff2; have H3 := Lib.hid hv; clear hoff hoff2 hv
  have HN0 := Lib.hid hvn0; clear hvn0
  have HN1 := Lib.hid hvn1; clear hvn1
  have HN2 := Lib.hid hvn2; clear hvn2
  have HN3 := Lib.hid hvn3; clear hvn3
  have HR := Lib.hid hr; clear hr
  have HB := Lib.hid hbyte; clear hbyte
  have HX := Lib.hid hx; clear hx
  have HF := Lib.hid hf; clear hf
  have q1 := bitsI (RD.ahead x / 4) (by omega) (by omega)
  have q2 := bitsI (RD.ahead x) (by omega) (by omega)
  have qN := or4 n0 n1 n2 n3 (by omega) (by omega) (by omega) (by omega) (by omega) (by omega) (by omega) (by omega)
  go_enter Try.func50, Try.ntmps50
  go_upto_if 40 with (go_at_call 55; refine (hof _).mono ?_; rintro e w1 ⟨⟨fb, fc, rfl⟩, hb1⟩; have hbl : Below w.heap.size w w1 := ((Below.refl _ _).alloc (Nat.le_refl _) _).trans (hb1.mono (by simp)); have hsz := hbl.size; have hq1 : bb < w1.heap.size := Nat.lt_of_lt_of_le hb hsz; have hq2 : bb < w1.heap.size + 1 := Nat.lt_succ_of_lt hq1; have hq3 : bb < w1.heap.size + 1 + 1 := Nat.lt_succ_of_lt hq2; have hq4 : bb < w1.heap.size + 1 + 1 + 1 := Nat.lt_succ_of_lt hq3; have hq5 : bb < w1.heap.size + 1 + 1 + 1 + 1 := Nat.lt_succ_of_lt hq4; have hq6 : bb ≠ w1.heap.size + 1 := Nat.ne_of_lt hq2; have hq7 : w1.heap.size + 1 ≠ bb := fun e => hq6 e.symm; have e0 := (hbl.cell (p := ⟨bb, oo, none⟩) hb).trans h0; have en0_0 : w1.cell? ⟨bb, oo + (RD.off x + 1), none⟩ = some (.int .u8 n0) := (hbl.cell (p := ⟨bb, oo + (RD.off x + 1), none⟩) hb).trans (by rw [show RD.off x + 1 = RD.off x + 1 by omega]; exact hbn0); have en1_0 : w1.cell? ⟨bb, oo + (RD.off x + 1 + 1), none⟩ = some (.int .u8 n1) := (hbl.cell (p := ⟨bb, oo + (RD.off x + 1 + 1), none⟩) hb).trans (by rw [show RD.off x + 1 + 1 = RD.off x + 2 by omega]; exact hbn1); have en2_0 : w1.cell? ⟨bb, oo + (RD.off x + 1 + 2), none⟩ = some (.int .u8 n2) := (hbl.cell (p := ⟨bb, oo + (RD.off x + 1 + 2), none⟩) hb).trans (by rw [show RD.off x + 1 + 2 = RD.off x + 3 by omega]; exact hbn2); have en3_0 : w1.cell? ⟨bb, oo + (RD.off x + 1 + 3), none⟩ = some (.int .u8 n3) := (hbl.cell (p := ⟨bb, oo + (RD.off x + 1 + 3), none⟩) hb).trans (by rw [show RD.off x + 1 + 3 = RD.off x + 4 by omega]; exact hbn3); have h4 : w1.heap[w.heap.size]? = some Z4 := (hb1.block w.heap.size (by simp)).trans (heap_alloc_new w _); have hlt4 : w.heap.size < w1.heap.size := (by have := hb1.size; simp at this; omega); clear hb1)
  go_cut [10, 11] (fun s10 s11 wx => s10 = .int .i64 (RD.ahead x) ∧ s11 = .int .i64 ((RD.off x : Nat) : Int) ∧ wx = (w1.alloc (.cells #[.slice (some ⟨fb, 0, none⟩) 1 fc, .bool false, .bool false, .int .i64 4, .bool false, .int .i64 0, .int .i64 0, .bool false] 96)).alloc (.cells #[.int .i64 (kk : Int), .int .i64 0, .int .i64 0, .int .i32 0] 30))
  case first =>
    by_cases hc : v0 / 16 = 4
    · rw [decide_eq_true hc] at hb2
      go_wp2
      go_meet
      case rel => exact ⟨by rw [H1.out, if_pos hc], by rw [H2.out, if_pos hc]; rfl, rfl⟩
    · rw [decide_eq_false hc] at hb2
      go_wp2
      go_meet
      case rel => exact ⟨by rw [H1.out, if_neg hc], by rw [H2.out, if_neg hc]; rfl, rfl⟩
  case rest =>
    obtain ⟨rfl, rfl, rfl⟩ := hcut
    clear e0 h0 hb2
    have hW4 : Hid (w1.heap[w.heap.size]? = some Z4) := h4
    clear h4
    have hn' : decide ((RD.off x : Int) + 5 ≤ (x.length : Int)) = true := by simp; omega
    go_wp2_with fail
    refine wp_loop_rounds 5 ?_
    rw [rounds_succ]
    go_wp2_with fail
    rw [rounds_succ]
    go_wp2_with fail
    rw [rounds_succ]
    go_wp2_with fail
    rw [rounds_succ]
    go_wp2_with fail
    rw [rounds_succ]
    go_wp2_with fail
    go_wp2_with (go_at_call 56; refine (enc12W kk (0) (0) (RD.s32 (n0 + 256 * n1 + 65536 * n2 + 16777216 * n3)) (w := w) (w1 := w1) HR.out ?cS).mono ?_)
    case cS =>
      apply Exists.intro
      apply And.intro
      repeat first
        | with_reducible exact Sh.start hbl hW4.out hlt4 _ _
        | with_reducible apply Sh.alloc
        | with_reducible apply Sh.set
        | with_reducible apply Sh.drewN
      rfl
    rintro e w2 ⟨v, E, bs, rfl, hEB, hby, hB2, h42, h92, hr2, hs2⟩
    have c0 : w2.cell? ⟨w1.heap.size + 1, 0, none⟩ = some (.int .i64 (kk : Int)) := by simp [World.cell?, h92]
    have c1 : w2.cell? ⟨w1.heap.size + 1, 1, none⟩ = some (.int .i64 (0)) := by simp [World.cell?, h92]
    have c2 : w2.cell? ⟨w1.heap.size + 1, 2, none⟩ = some (.int .i64 (0)) := by simp [World.cell?, h92]
    have c3 : w2.cell? ⟨w1.heap.size + 1, 3, none⟩ = some (.int .i32 (RD.s32 (n0 + 256 * n1 + 65536 * n2 + 16777216 * n3))) := by simp [World.cell?, h92]
    have d0 : w2.cell? ⟨w.heap.size, 0, none⟩ = some (.int .i64 0) := by simp [World.cell?, h42]
    have d1 : w2.cell? ⟨w.heap.size, 1, none⟩ = some (.int .i64 0) := by simp [World.cell?, h42]
    have d2 : w2.cell? ⟨w.heap.size, 2, none⟩ = some (.int .i64 0) := by simp [World.cell?, h42]
    have d3 : w2.cell? ⟨w.heap.size, 3, none⟩ = some (.int .i32 0) := by simp [World.cell?, h42]
    have f0 : w2.frozen? ⟨w.heap.size, 0, none⟩ = false := by simp [World.frozen?, h42]
    have f1 : w2.frozen? ⟨w.heap.size, 1, none⟩ = false := by simp [World.frozen?, h42]
    have f2 : w2.frozen? ⟨w.heap.size, 2, none⟩ = false := by simp [World.frozen?, h42]
    have f3 : w2.frozen? ⟨w.heap.size, 3, none⟩ = false := by simp [World.frozen?, h42]
    have H5 := Lib.hid h42; have H6 := Lib.hid h92; clear h42 h92
    by_cases hE : E = 0
    · obtain ⟨e1, e2⟩ := hEB.out
      have hne : bs ≠ [] := by
        rcases enc_fit kk (0) (0) (RD.s32 (n0 + 256 * n1 + 65536 * n2 + 16777216 * n3)) with ⟨_, q⟩ | ⟨q, _⟩
        · rw [e2]; exact q
        · exact absurd (e1.symm.trans hE) q
      have hS : Hid (same_ kk (0) (0) (RD.s32 (n0 + 256 * n1 + 65536 * n2 + 16777216 * n3)) x = RD.common bs x) := by
        unfold same_; rw [← e1, if_pos hE, ← e2]; exact Lib.hid rfl
      have hs10 : bs.length ≤ 10 := by rw [e2]; exact enc_short _ _ _ _
      clear hEB
      obtain ⟨blk, base, cp, rfl, hb2, hb3, hb4⟩ := (hby.resolve_left (fun h => hne h.1)).2
      have HC := Lib.hid hb4; clear hb4 hby e1 e2
      subst hE
      obtain ⟨M, hM, hM1, hM2, hM3⟩ : ∃ M : Int, (if x.length < bs.length then ((x.length : Nat) : Int) else ((bs.length : Nat) : Int)) = M ∧ M ≤ (x.length : Int) ∧ M ≤ (bs.length : Int) ∧ (M = (x.length : Int) ∨ M = (bs.length : Int)) := by
        refine ⟨_, rfl, ?_, ?_, ?_⟩ <;> split <;> omega
      go_wp2_with fail
      go_loopw [23] (fun s wr => ∃ k j : Nat, s = .int .i64 k ∧ wr = w2.drewN j ∧ k ≤ RD.common bs x) (fun s _ => RD.common bs x - (intOf s).toNat)
      case atStart => exact ⟨0, 0, rfl, rfl, Nat.zero_le _⟩
      case round =>
        obtain ⟨k, j, rfl, rfl, hk⟩ := hrel
        have hcl := RD.common_le bs x
        by_cases hlt : k < RD.common bs x
        · obtain ⟨k1, k2, k3⟩ := common_lt hlt
          have z1 := HC.out k k1
          have z2 := hr2.2 k k2
          rw [← k3] at z2
          have hd : decide ((k : Int) < M) = true := by simp; omega
          clear k3 hM3
          go_wp2_with fail
          go_quiet (fail)
          go_wp2_with fail
          go_roundw
          case rel => exact ⟨k + 1, _, by go_num, rfl, by omega⟩
          case measure => simp [intOf]; omega
        · obtain rfl : k = RD.common bs x := by omega
          have G := fun n => cells4 (fin4 (w := w2.drewN n) H5.out (.int .i64 (kk : Int)) (.int .i64 (0)) (.int .i64 (0)) (.int .i32 (RD.s32 (n0 + 256 * n1 + 65536 * n2 + 16777216 * n3))))
          have HG := Lib.hid G; clear G
          by_cases hge : M ≤ (RD.common bs x : Int)
          · have hd : decide ((RD.common bs x : Int) < M) = false := by simp; omega
            clear hM3 hge
            go_wp2_with fail
            go_quiet (fail)
            go_wp2_with fail
            refine bodyPost_ret (v := .tuple #[.agg #[.int .i64 (kk : Int), .int .i64 (0), .int .i64 (0), .int .i32 (RD.s32 (n0 + 256 * n1 + 65536 * n2 + 16777216 * n3))], .int .i64 (RD.common bs x), .int .i64 ((RD.off x + 5 : Nat) : Int)]) (by simp [results, results32, go_sem, fun n => (HG.out n).1, fun n => (HG.out n).2.1, fun n => (HG.out n).2.2.1, fun n => (HG.out n).2.2.2] <;> omega) rfl ⟨?_, ?_⟩
            · rw [hS.out]
            · exact ((((below_drewN hB2 _).setCell (Nat.le_refl _) _).setCell (Nat.le_refl _) _).setCell (Nat.le_refl _) _).setCell (Nat.le_refl _) _
          · have k1 : RD.common bs x < bs.length := by omega
            have k2 : RD.common bs x < x.length := by omega
            have z1 := HC.out _ k1
            have z2 := hr2.2 _ k2
            have k3 : (bs.getD (RD.common bs x) 0 == x.getD (RD.common bs x) 0) = false := by rw [beq_eq_false_iff_ne]; exact common_end k1 k2
            generalize bs.getD (RD.common bs x) 0 = u1 at z1 k3
            generalize x.getD (RD.common bs x) 0 = u2 at z2 k3
            have hd : decide ((RD.common bs x : Int) < M) = true := by simp; omega
            clear hM3 hge
            go_wp2_with fail
            go_quiet (fail)
            go_wp2_with fail
            refine bodyPost_ret (v := .tuple #[.agg #[.int .i64 (kk : Int), .int .i64 (0), .int .i64 (0), .int .i32 (RD.s32 (n0 + 256 * n1 + 65536 * n2 + 16777216 * n3))], .int .i64 (RD.common bs x), .int .i64 ((RD.off x + 5 : Nat) : Int)]) (by simp [results, results32, go_sem, fun n => (HG.out n).1, fun n => (HG.out n).2.1, fun n => (HG.out n).2.2.1, fun n => (HG.out n).2.2.2] <;> omega) rfl ⟨?_, ?_⟩
            · rw [hS.out]
            · exact ((((below_drewN hB2 _).setCell (Nat.le_refl _) _).setCell (Nat.le_refl _) _).setCell (Nat.le_refl _) _).setCell (Nat.le_refl _) _
    · have hE1 : (E == 0) = false := by simpa using hE
      have hE2 : (E != 0) = true := by simpa using hE
      go_wp2_with fail
      obtain ⟨g0, g1, g2, g3⟩ := cells4 (fin4 H5.out (.int .i64 (kk : Int)) (.int .i64 (0)) (.int .i64 (0)) (.int .i32 (RD.s32 (n0 + 256 * n1 + 65536 * n2 + 16777216 * n3))))
      refine bodyPost_ret (v := .tuple #[.agg #[.int .i64 (kk : Int), .int .i64 (0), .int .i64 (0), .int .i32 (RD.s32 (n0 + 256 * n1 + 65536 * n2 + 16777216 * n3))], .int .i64 0, .int .i64 ((RD.off x + 5 : Nat) : Int)]) (by simp [results, results32, go_sem, g0, g1, g2, g3] <;> omega) rfl ⟨?_, ?_⟩
      · obtain ⟨e1, e2⟩ := hEB.out
        simp only [same_, ← e1, if_neg hE]; rfl
      · exact (((hB2.setCell (Nat.le_refl _) _).setCell (Nat.le_refl _) _).setCell (Nat.le_refl _) _).setCell (Nat.le_refl _) _
theorem rd_al4_none (kk : Nat) (c : Int) (hf : RD.form kk = RD.alone 4 [c]) (hof : OfC kk 1 false false 4 false 0 0 false) (bb oo cap : Nat) (x : List Int) (w : World) (hL : 0 < x.length) (hL2 : x.length ≤ 9223372036854775807) (hx : RD.isBytes x) (hr : Row w bb oo x)
   (hlen : x.length < RD.off x + 5) : ReadC kk bb oo cap x w := by
  unfold ReadC
  have hb := hr.1
  have h0 := hr.2 0 hL
  rw [Nat.add_zero] at h0
  have hbyte : ∀ j, j < x.length → 0 ≤ x.getD j 0 ∧ x.getD j 0 ≤ 255 := by
    intro j hj
    have e : x.getD j 0 = x[j] := by simp [List.getD, hj]
    rw [e]; exact hx _ (List.getElem_mem hj)
  obtain ⟨r0, r1⟩ := hbyte 0 hL
  have hoff : RD.ahead x = (if x.getD 0 0 / 16 = 4 then x.getD 0 0 else 0) := rfl
  have hoff2 : RD.off x = (if x.getD 0 0 / 16 = 4 then 1 else 0) := rfl
  have hb2 := bits240 _ r0 r1
  have eneed : RD.need kk x = RD.off x + 5 := by simp [RD.need, hf, RD.two, RD.one, RD.alone]
  have hz : True := trivial
  have eA : RD.rdA kk x = 0 := by simp only [RD.rdA, RD.rdB, RD.rdN, RD.need, RD.rmid, RD.rlast, hf, RD.two, RD.one, RD.alone]; simp
  have eB : RD.rdB kk x = 0 := by simp only [RD.rdA, RD.rdB, RD.rdN, RD.need, RD.rmid, RD.rlast, hf, RD.two, RD.one, RD.alone]; simp
  have eN : RD.rdN kk x = 0 := by
    unfold RD.rdN
    rw [eneed]
    rw [if_neg (by omega)]
  rw [eA, eB, eN, eneed]
  clear eA eB eN eneed hz
  generalize hv : x.getD 0 0 = v0 at *
  have ho : (RD.off x : Int) ≤ 1 := by rw [hoff2]; split <;> simp
  have ha0 : 0 ≤ RD.ahead x := by rw [hoff]; split <;> omega
  have ha1 : RD.ahead x ≤ 255 := by rw [hoff]; split <;> omega
  have H1 := Lib.hid hoff; have H2 := Lib.hid hoff2; have H3 := Lib.hid hv; clear hoff hoff2 hv
  have HR := Lib.hid hr; clear hr
  have HB := Lib.hid hbyte; clear hbyte
  have HX := Lib.hid hx; clear hx
  have HF := Lib.hid hf; clear hf
  have q1 := bitsI (RD.ahead x / 4) (by omega) (by omega)
  have q2 := bitsI (RD.ahead x) (by omega) (by omega)
  go_enter Try.func50, Try.ntmps50
  go_upto_if 40 with (go_at_call 55; refine (hof _).mono ?_; rintro e w1 ⟨⟨fb, fc, rfl⟩, hb1⟩; have hbl : Below w.heap.size w w1 := ((Below.refl _ _).alloc (Nat.le_refl _) _).trans (hb1.mono (by simp)); have hsz := hbl.size; have hq1 : bb < w1.heap.size := Nat.lt_of_lt_of_le hb hsz; have hq2 : bb < w1.heap.size + 1 := Nat.lt_succ_of_lt hq1; have hq3 : bb < w1.heap.size + 1 + 1 := Nat.lt_succ_of_lt hq2; have hq4 : bb < w1.heap.size + 1 + 1 + 1 := Nat.lt_succ_of_lt hq3; have hq5 : bb < w1.heap.size + 1 + 1 + 1 + 1 := Nat.lt_succ_of_lt hq4; have hq6 : bb ≠ w1.heap.size + 1 := Nat.ne_of_lt hq2; have hq7 : w1.heap.size + 1 ≠ bb := fun e => hq6 e.symm; have e0 := (hbl.cell (p := ⟨bb, oo, none⟩) hb).trans h0; have h4 : w1.heap[w.heap.size]? = some Z4 := (hb1.block w.heap.size (by simp)).trans (heap_alloc_new w _); have hlt4 : w.heap.size < w1.heap.size := (by have := hb1.size; simp at this; omega); clear hb1)
  go_cut [10, 11] (fun s10 s11 wx => s10 = .int .i64 (RD.ahead x) ∧ s11 = .int .i64 ((RD.off x : Nat) : Int) ∧ wx = (w1.alloc (.cells #[.slice (some ⟨fb, 0, none⟩) 1 fc, .bool false, .bool false, .int .i64 4, .bool false, .int .i64 0, .int .i64 0, .bool false] 96)).alloc (.cells #[.int .i64 (kk : Int), .int .i64 0, .int .i64 0, .int .i32 0] 30))
  case first =>
    by_cases hc : v0 / 16 = 4
    · rw [decide_eq_true hc] at hb2
      go_wp2
      go_meet
      case rel => exact ⟨by rw [H1.out, if_pos hc], by rw [H2.out, if_pos hc]; rfl, rfl⟩
    · rw [decide_eq_false hc] at hb2
      go_wp2
      go_meet
      case rel => exact ⟨by rw [H1.out, if_neg hc], by rw [H2.out, if_neg hc]; rfl, rfl⟩
  case rest =>
    obtain ⟨rfl, rfl, rfl⟩ := hcut
    clear e0 h0 hb2
    have hW4 : Hid (w1.heap[w.heap.size]? = some Z4) := h4
    clear h4
    have hn' : decide ((RD.off x : Int) + 5 ≤ (x.length : Int)) = false := by simp; omega
    go_wp2_with fail
    go_wp2_with (go_at_call 56; refine (enc12W kk (0) (0) (0) (w := w) (w1 := w1) HR.out ?cS).mono ?_)
    case cS =>
      apply Exists.intro
      apply And.intro
      repeat first
        | with_reducible exact Sh.start hbl hW4.out hlt4 _ _
        | with_reducible apply Sh.alloc
        | with_reducible apply Sh.set
        | with_reducible apply Sh.drewN
      rfl
    rintro e w2 ⟨v, E, bs, rfl, hEB, hby, hB2, h42, h92, hr2, hs2⟩
    have c0 : w2.cell? ⟨w1.heap.size + 1, 0, none⟩ = some (.int .i64 (kk : Int)) := by simp [World.cell?, h92]
    have c1 : w2.cell? ⟨w1.heap.size + 1, 1, none⟩ = some (.int .i64 (0)) := by simp [World.cell?, h92]
    have c2 : w2.cell? ⟨w1.heap.size + 1, 2, none⟩ = some (.int .i64 (0)) := by simp [World.cell?, h92]
    have c3 : w2.cell? ⟨w1.heap.size + 1, 3, none⟩ = some (.int .i32 (0)) := by simp [World.cell?, h92]
    have d0 : w2.cell? ⟨w.heap.size, 0, none⟩ = some (.int .i64 0) := by simp [World.cell?, h42]
    have d1 : w2.cell? ⟨w.heap.size, 1, none⟩ = some (.int .i64 0) := by simp [World.cell?, h42]
    have d2 : w2.cell? ⟨w.heap.size, 2, none⟩ = some (.int .i64 0) := by simp [World.cell?, h42]
    have d3 : w2.cell? ⟨w.heap.size, 3, none⟩ = some (.int .i32 0) := by simp [World.cell?, h42]
    have f0 : w2.frozen? ⟨w.heap.size, 0, none⟩ = false := by simp [World.frozen?, h42]
    have f1 : w2.frozen? ⟨w.heap.size, 1, none⟩ = false := by simp [World.frozen?, h42]
    have f2 : w2.frozen? ⟨w.heap.size, 2, none⟩ = false := by simp [World.frozen?, h42]
    have f3 : w2.frozen? ⟨w.heap.size, 3, none⟩ = false := by simp [World.frozen?, h42]
    have H5 := Lib.hid h42; have H6 := Lib.hid h92; clear h42 h92
    by_cases hE : E = 0
    · obtain ⟨e1, e2⟩ := hEB.out
      have hne : bs ≠ [] := by
        rcases enc_fit kk (0) (0) (0) with ⟨_, q⟩ | ⟨q, _⟩
        · rw [e2]; exact q
        · exact absurd (e1.symm.trans hE) q
      have hS : Hid (same_ kk (0) (0) (0) x = RD.common bs x) := by
        unfold same_; rw [← e1, if_pos hE, ← e2]; exact Lib.hid rfl
      have hs10 : bs.length ≤ 10 := by rw [e2]; exact enc_short _ _ _ _
      clear hEB
      obtain ⟨blk, base, cp, rfl, hb2, hb3, hb4⟩ := (hby.resolve_left (fun h => hne h.1)).2
      have HC := Lib.hid hb4; clear hb4 hby e1 e2
      subst hE
      obtain ⟨M, hM, hM1, hM2, hM3⟩ : ∃ M : Int, (if x.length < bs.length then ((x.length : Nat) : Int) else ((bs.length : Nat) : Int)) = M ∧ M ≤ (x.length : Int) ∧ M ≤ (bs.length : Int) ∧ (M = (x.length : Int) ∨ M = (bs.length : Int)) := by
        refine ⟨_, rfl, ?_, ?_, ?_⟩ <;> split <;> omega
      go_wp2_with fail
      go_loopw [23] (fun s wr => ∃ k j : Nat, s = .int .i64 k ∧ wr = w2.drewN j ∧ k ≤ RD.common bs x) (fun s _ => RD.common bs x - (intOf s).toNat)
      case atStart => exact ⟨0, 0, rfl, rfl, Nat.zero_le _⟩
      case round =>
        obtain ⟨k, j, rfl, rfl, hk⟩ := hrel
        have hcl := RD.common_le bs x
        by_cases hlt : k < RD.common bs x
        · obtain ⟨k1, k2, k3⟩ := common_lt hlt
          have z1 := HC.out k k1
          have z2 := hr2.2 k k2
          rw [← k3] at z2
          have hd : decide ((k : Int) < M) = true := by simp; omega
          clear k3 hM3
          go_wp2_with fail
          go_quiet (fail)
          go_wp2_with fail
          go_roundw
          case rel => exact ⟨k + 1, _, by go_num, rfl, by omega⟩
          case measure => simp [intOf]; omega
        · obtain rfl : k = RD.common bs x := by omega
          have G := fun n => cells4 (fin4 (w := w2.drewN n) H5.out (.int .i64 (kk : Int)) (.int .i64 (0)) (.int .i64 (0)) (.int .i32 (0)))
          have HG := Lib.hid G; clear G
          by_cases hge : M ≤ (RD.common bs x : Int)
          · have hd : decide ((RD.common bs x : Int) < M) = false := by simp; omega
            clear hM3 hge
            go_wp2_with fail
            go_quiet (fail)
            go_wp2_with fail
            refine bodyPost_ret (v := .tuple #[.agg #[.int .i64 (kk : Int), .int .i64 (0), .int .i64 (0), .int .i32 (0)], .int .i64 (RD.common bs x), .int .i64 ((RD.off x + 5 : Nat) : Int)]) (by simp [results, results32, go_sem, fun n => (HG.out n).1, fun n => (HG.out n).2.1, fun n => (HG.out n).2.2.1, fun n => (HG.out n).2.2.2] <;> omega) rfl ⟨?_, ?_⟩
            · rw [hS.out]
            · exact ((((below_drewN hB2 _).setCell (Nat.le_refl _) _).setCell (Nat.le_refl _) _).setCell (Nat.le_refl _) _).setCell (Nat.le_refl _) _
          · have k1 : RD.common bs x < bs.length := by omega
            have k2 : RD.common bs x < x.length := by omega
            have z1 := HC.out _ k1
            have z2 := hr2.2 _ k2
            have k3 : (bs.getD (RD.common bs x) 0 == x.getD (RD.common bs x) 0) = false := by rw [beq_eq_false_iff_ne]; exact common_end k1 k2
            generalize bs.getD (RD.common bs x) 0 = u1 at z1 k3
            generalize x.getD (RD.common bs x) 0 = u2 at z2 k3
            have hd : decide ((RD.common bs x : Int) < M) = true := by simp; omega
            clear hM3 hge
            go_wp2_with fail
            go_quiet (fail)
            go_wp2_with fail
            refine bodyPost_ret (v := .tuple #[.agg #[.int .i64 (kk : Int), .int .i64 (0), .int .i64 (0), .int .i32 (0)], .int .i64 (RD.common bs x), .int .i64 ((RD.off x + 5 : Nat) : Int)]) (by simp [results, results32, go_sem, fun n => (HG.out n).1, fun n => (HG.out n).2.1, fun n => (HG.out n).2.2.1, fun n => (HG.out n).2.2.2] <;> omega) rfl ⟨?_, ?_⟩
            · rw [hS.out]
            · exact ((((below_drewN hB2 _).setCell (Nat.le_refl _) _).setCell (Nat.le_refl _) _).setCell (Nat.le_refl _) _).setCell (Nat.le_refl _) _
    · have hE1 : (E == 0) = false := by simpa using hE
      have hE2 : (E != 0) = true := by simpa using hE
      go_wp2_with fail
      obtain ⟨g0, g1, g2, g3⟩ := cells4 (fin4 H5.out (.int .i64 (kk : Int)) (.int .i64 (0)) (.int .i64 (0)) (.int .i32 (0)))
      refine bodyPost_ret (v := .tuple #[.agg #[.int .i64 (kk : Int), .int .i64 (0), .int .i64 (0), .int .i32 (0)], .int .i64 0, .int .i64 ((RD.off x + 5 : Nat) : Int)]) (by simp [results, results32, go_sem, g0, g1, g2, g3] <;> omega) rfl ⟨?_, ?_⟩
      · obtain ⟨e1, e2⟩ := hEB.out
        simp only [same_, ← e1, if_neg hE]; rfl
      · exact (((hB2.setCell (Nat.le_refl _) _).setCell (Nat.le_refl _) _).setCell (Nat.le_refl _) _).setCell (Nat.le_refl _) _
theorem rd_al42_full (kk : Nat) (c d : Int) (hf : RD.form kk = RD.alone 4 [c, d]) (hof : OfC kk 2 false false 4 false 0 0 false) (bb oo cap : Nat) (x : List Int) (w : World) (hL : 0 < x.length) (hL2 : x.length ≤ 9223372036854775807) (hx : RD.isBytes x) (hr : Row w bb oo x)
   (hlen : RD.off x + 6 ≤ x.length) : ReadC kk bb oo cap x w := by
  unfold ReadC
  have hb := hr.1
  have h0 := hr.2 0 hL
  rw [Nat.add_zero] at h0
  have hbyte : ∀ j, j < x.length → 0 ≤ x.getD j 0 ∧ x.getD j 0 ≤ 255 := by
    intro j hj
    have e : x.getD j 0 = x[j] := by simp [List.getD, hj]
    rw [e]; exact hx _ (List.getElem_mem hj)
  obtain ⟨r0, r1⟩ := hbyte 0 hL
  have hoff : RD.ahead x = (if x.getD 0 0 / 16 = 4 then x.getD 0 0 else 0) := rfl
  have hoff2 : RD.off x = (if x.getD 0 0 / 16 = 4 then 1 else 0) := rfl
  have hb2 := bits240 _ r0 r1
  have hn0' : RD.off x + 2 < x.length := by omega
  obtain ⟨s0, t0⟩ := hbyte _ hn0'
  have hbn0 := hr.2 _ hn0'
  have hn1' : RD.off x + 3 < x.length := by omega
  obtain ⟨s1, t1⟩ := hbyte _ hn1'
  have hbn1 := hr.2 _ hn1'
  have hn2' : RD.off x + 4 < x.length := by omega
  obtain ⟨s2, t2⟩ := hbyte _ hn2'
  have hbn2 := hr.2 _ hn2'
  have hn3' : RD.off x + 5 < x.length := by omega
  obtain ⟨s3, t3⟩ := hbyte _ hn3'
  have hbn3 := hr.2 _ hn3'
  have eneed : RD.need kk x = RD.off x + 6 := by simp [RD.need, hf, RD.two, RD.one, RD.alone]
  have hz : True := trivial
  have eA : RD.rdA kk x = 0 := by simp only [RD.rdA, RD.rdB, RD.rdN, RD.need, RD.rmid, RD.rlast, hf, RD.two, RD.one, RD.alone]; simp
  have eB : RD.rdB kk x = 0 := by simp only [RD.rdA, RD.rdB, RD.rdN, RD.need, RD.rmid, RD.rlast, hf, RD.two, RD.one, RD.alone]; simp
  have eN : RD.rdN kk x = RD.s32 (x.getD (RD.off x + 2) 0 + 256 * x.getD (RD.off x + 3) 0 + 65536 * x.getD (RD.off x + 4) 0 + 16777216 * x.getD (RD.off x + 5) 0) := by
    unfold RD.rdN
    rw [eneed, if_pos hlen, show (RD.form kk).nb = 4 by rw [hf]; rfl]
    simp only [RD.val, show RD.off x + 6 - 4 = RD.off x + 2 by omega]
  rw [eA, eB, eN, eneed]
  clear eA eB eN eneed hz
  generalize hv : x.getD 0 0 = v0 at *
  generalize hvn0 : x.getD (RD.off x + 2) 0 = n0 at *
  generalize hvn1 : x.getD (RD.off x + 3) 0 = n1 at *
  generalize hvn2 : x.getD (RD.off x + 4) 0 = n2 at *
  generalize hvn3 : x.getD (RD.off x + 5) 0 = n3 at *
  have ho : (RD.off x : Int) ≤ 1 := by rw [hoff2]; split <;> simp
  have ha0 : 0 ≤ RD.ahead x := by rw [hoff]; split <;> omega
  have ha1 : RD.ahead x ≤ 255 := by rw [hoff]; split <;> omega
  have H1 := Lib.hid hoff; have H2 := Lib.hid hoff2; have H3 := Lib.hid hv; clear hoff hoff2 hv
  have HN0 := Lib.hid hvn0; clear hvn0
  have HN1 := Lib.hid hvn1; clear hvn1
  have HN2 := Lib.hid hvn2; clear hvn2
  have HN3 := Lib.hid hvn3; clear hvn3
  have HR := Lib.hid hr; clear hr
  have HB := Lib.hid hbyte; clear hbyte
  have HX := Lib.hid hx; clear hx
  have HF := Lib.hid hf; clear hf
  have q1 := bitsI (RD.ahead x / 4) (by omega) (by omega)
  have q2 := bitsI (RD.ahead x) (by omega) (by omega)
  have qN := or4 n0 n1 n2 n3 (by omega) (by omega) (by omega) (by omega) (by omega) (by omega) (by omega) (by omega)
  go_enter Try.func50, Try.ntmps50
  go_upto_if 40 with (go_at_call 55; refine (hof _).mono ?_; rintro e w1 ⟨⟨fb, fc, rfl⟩, hb1⟩; have hbl : Below w.heap.size w w1 := ((Below.refl _ _).alloc (Nat.le_refl _) _).trans (hb1.mono (by simp)); have hsz := hbl.size; have hq1 : bb < w1.heap.size := Nat.lt_of_lt_of_le hb hsz; have hq2 : bb < w1.heap.size + 1 := Nat.lt_succ_of_lt hq1; have hq3 : bb < w1.heap.size + 1 + 1 := Nat.lt_succ_of_lt hq2; have hq4 : bb < w1.heap.size + 1 + 1 + 1 := Nat.lt_succ_of_lt hq3; have hq5 : bb < w1.heap.size + 1 + 1 + 1 + 1 := Nat.lt_succ_of_lt hq4; have hq6 : bb ≠ w1.heap.size + 1 := Nat.ne_of_lt hq2; have hq7 : w1.heap.size + 1 ≠ bb := fun e => hq6 e.symm; have e0 := (hbl.cell (p := ⟨bb, oo, none⟩) hb).trans h0; have en0_0 : w1.cell? ⟨bb, oo + (RD.off x + 2), none⟩ = some (.int .u8 n0) := (hbl.cell (p := ⟨bb, oo + (RD.off x + 2), none⟩) hb).trans (by rw [show RD.off x + 2 = RD.off x + 2 by omega]; exact hbn0); have en1_0 : w1.cell? ⟨bb, oo + (RD.off x + 2 + 1), none⟩ = some (.int .u8 n1) := (hbl.cell (p := ⟨bb, oo + (RD.off x + 2 + 1), none⟩) hb).trans (by rw [show RD.off x + 2 + 1 = RD.off x + 3 by omega]; exact hbn1); have en2_0 : w1.cell? ⟨bb, oo + (RD.off x + 2 + 2), none⟩ = some (.int .u8 n2) := (hbl.cell (p := ⟨bb, oo + (RD.off x + 2 + 2), none⟩) hb).trans (by rw [show RD.off x + 2 + 2 = RD.off x + 4 by omega]; exact hbn2); have en3_0 : w1.cell? ⟨bb, oo + (RD.off x + 2 + 3), none⟩ = some (.int .u8 n3) := (hbl.cell (p := ⟨bb, oo + (RD.off x + 2 + 3), none⟩) hb).trans (by rw [show RD.off x + 2 + 3 = RD.off x + 5 by omega]; exact hbn3); have h4 : w1.heap[w.heap.size]? = some Z4 := (hb1.block w.heap.size (by simp)).trans (heap_alloc_new w _); have hlt4 : w.heap.size < w1.heap.size := (by have := hb1.size; simp at this; omega); clear hb1)
  go_cut [10, 11] (fun s10 s11 wx => s10 = .int .i64 (RD.ahead x) ∧ s11 = .int .i64 ((RD.off x : Nat) : Int) ∧ wx = (w1.alloc (.cells #[.slice (some ⟨fb, 0, none⟩) 2 fc, .bool false, .bool false, .int .i64 4, .bool false, .int .i64 0, .int .i64 0, .bool false] 96)).alloc (.cells #[.int .i64 (kk : Int), .int .i64 0, .int .i64 0, .int .i32 0] 30))
  case first =>
    by_cases hc : v0 / 16 = 4
    · rw [decide_eq_true hc] at hb2
      go_wp2
      go_meet
      case rel => exact ⟨by rw [H1.out, if_pos hc], by rw [H2.out, if_pos hc]; rfl, rfl⟩
    · rw [decide_eq_false hc] at hb2
      go_wp2
      go_meet
      case rel => exact ⟨by rw [H1.out, if_neg hc], by rw [H2.out, if_neg hc]; rfl, rfl⟩
  case rest =>
    obtain ⟨rfl, rfl, rfl⟩ := hcut
    clear e0 h0 hb2
    have hW4 : Hid (w1.heap[w.heap.size]? = some Z4) := h4
    clear h4
    have hn' : decide ((RD.off x : Int) + 6 ≤ (x.length : Int)) = true := by simp; omega
    go_wp2_with fail
    refine wp_loop_rounds 5 ?_
    rw [rounds_succ]
    go_wp2_with fail
    rw [rounds_succ]
    go_wp2_with fail
    rw [rounds_succ]
    go_wp2_with fail
    rw [rounds_succ]
    go_wp2_with fail
    rw [rounds_succ]
    go_wp2_with fail
    go_wp2_with (go_at_call 56; refine (enc12W kk (0) (0) (RD.s32 (n0 + 256 * n1 + 65536 * n2 + 16777216 * n3)) (w := w) (w1 := w1) HR.out ?cS).mono ?_)
    case cS =>
      apply Exists.intro
      apply And.intro
      repeat first
        | with_reducible exact Sh.start hbl hW4.out hlt4 _ _
        | with_reducible apply Sh.alloc
        | with_reducible apply Sh.set
        | with_reducible apply Sh.drewN
      rfl
    rintro e w2 ⟨v, E, bs, rfl, hEB, hby, hB2, h42, h92, hr2, hs2⟩
    have c0 : w2.cell? ⟨w1.heap.size + 1, 0, none⟩ = some (.int .i64 (kk : Int)) := by simp [World.cell?, h92]
    have c1 : w2.cell? ⟨w1.heap.size + 1, 1, none⟩ = some (.int .i64 (0)) := by simp [World.cell?, h92]
    have c2 : w2.cell? ⟨w1.heap.size + 1, 2, none⟩ = some (.int .i64 (0)) := by simp [World.cell?, h92]
    have c3 : w2.cell? ⟨w1.heap.size + 1, 3, none⟩ = some (.int .i32 (RD.s32 (n0 + 256 * n1 + 65536 * n2 + 16777216 * n3))) := by simp [World.cell?, h92]
    have d0 : w2.cell? ⟨w.heap.size, 0, none⟩ = some (.int .i64 0) := by simp [World.cell?, h42]
    have d1 : w2.cell? ⟨w.heap.size, 1, none⟩ = some (.int .i64 0) := by simp [World.cell?, h42]
    have d2 : w2.cell? ⟨w.heap.size, 2, none⟩ = some (.int .i64 0) := by simp [World.cell?, h42]
    have d3 : w2.cell? ⟨w.heap.size, 3, none⟩ = some (.int .i32 0) := by simp [World.cell?, h42]
    have f0 : w2.frozen? ⟨w.heap.size, 0, none⟩ = false := by simp [World.frozen?, h42]
    have f1 : w2.frozen? ⟨w.heap.size, 1, none⟩ = false := by simp [World.frozen?, h42]
    have f2 : w2.frozen? ⟨w.heap.size, 2, none⟩ = false := by simp [World.frozen?, h42]
    have f3 : w2.frozen? ⟨w.heap.size, 3, none⟩ = false := by simp [World.frozen?, h42]
    have H5 := Lib.hid h42; have H6 := Lib.hid h92; clear h42 h92
    by_cases hE : E = 0
    · obtain ⟨e1, e2⟩ := hEB.out
      have hne : bs ≠ [] := by
        rcases enc_fit kk (0) (0) (RD.s32 (n0 + 256 * n1 + 65536 * n2 + 16777216 * n3)) with ⟨_, q⟩ | ⟨q, _⟩
        · rw [e2]; exact q
        · exact absurd (e1.symm.trans hE) q
      have hS : Hid (same_ kk (0) (0) (RD.s32 (n0 + 256 * n1 + 65536 * n2 + 16777216 * n3)) x = RD.common bs x) := by
        unfold same_; rw [← e1, if_pos hE, ← e2]; exact Lib.hid rfl
      have hs10 : bs.length ≤ 10 := by rw [e2]; exact enc_short _ _ _ _
      clear hEB
      obtain ⟨blk, base, cp, rfl, hb2, hb3, hb4⟩ := (hby.resolve_left (fun h => hne h.1)).2
      have HC := Lib.hid hb4; clear hb4 hby e1 e2
      subst hE
      obtain ⟨M, hM, hM1, hM2, hM3⟩ : ∃ M : Int, (if x.length < bs.length then ((x.length : Nat) : Int) else ((bs.length : Nat) : Int)) = M ∧ M ≤ (x.length : Int) ∧ M ≤ (bs.length : Int) ∧ (M = (x.length : Int) ∨ M = (bs.length : Int)) := by
        refine ⟨_, rfl, ?_, ?_, ?_⟩ <;> split <;> omega
      go_wp2_with fail
      go_loopw [23] (fun s wr => ∃ k j : Nat, s = .int .i64 k ∧ wr = w2.drewN j ∧ k ≤ RD.common bs x) (fun s _ => RD.common bs x - (intOf s).toNat)
      case atStart => exact ⟨0, 0, rfl, rfl, Nat.zero_le _⟩
      case round =>
        obtain ⟨k, j, rfl, rfl, hk⟩ := hrel
        have hcl := RD.common_le bs x
        by_cases hlt : k < RD.common bs x
        · obtain ⟨k1, k2, k3⟩ := common_lt hlt
          have z1 := HC.out k k1
          have z2 := hr2.2 k k2
          rw [← k3] at z2
          have hd : decide ((k : Int) < M) = true := by simp; omega
          clear k3 hM3
          go_wp2_with fail
          go_quiet (fail)
          go_wp2_with fail
          go_roundw
          case rel => exact ⟨k + 1, _, by go_num, rfl, by omega⟩
          case measure => simp [intOf]; omega
        · obtain rfl : k = RD.common bs x := by omega
          have G := fun n => cells4 (fin4 (w := w2.drewN n) H5.out (.int .i64 (kk : Int)) (.int .i64 (0)) (.int .i64 (0)) (.int .i32 (RD.s32 (n0 + 256 * n1 + 65536 * n2 + 16777216 * n3))))
          have HG := Lib.hid G; clear G
          by_cases hge : M ≤ (RD.common bs x : Int)
          · have hd : decide ((RD.common bs x : Int) < M) = false := by simp; omega
            clear hM3 hge
            go_wp2_with fail
            go_quiet (fail)
            go_wp2_with fail
            refine bodyPost_ret (v := .tuple #[.agg #[.int .i64 (kk : Int), .int .i64 (0), .int .i64 (0), .int .i32 (RD.s32 (n0 + 256 * n1 + 65536 * n2 + 16777216 * n3))], .int .i64 (RD.common bs x), .int .i64 ((RD.off x + 6 : Nat) : Int)]) (by simp [results, results32, go_sem, fun n => (HG.out n).1, fun n => (HG.out n).2.1, fun n => (HG.out n).2.2.1, fun n => (HG.out n).2.2.2] <;> omega) rfl ⟨?_, ?_⟩
            · rw [hS.out]
            · exact ((((below_drewN hB2 _).setCell (Nat.le_refl _) _).setCell (Nat.le_refl _) _).setCell (Nat.le_refl _) _).setCell (Nat.le_refl _) _
          · have k1 : RD.common bs x < bs.length := by omega
            have k2 : RD.common bs x < x.length := by omega
            have z1 := HC.out _ k1
            have z2 := hr2.2 _ k2
            have k3 : (bs.getD (RD.common bs x) 0 == x.getD (RD.common bs x) 0) = false := by rw [beq_eq_false_iff_ne]; exact common_end k1 k2
            generalize bs.getD (RD.common bs x) 0 = u1 at z1 k3
            generalize x.getD (RD.common bs x) 0 = u2 at z2 k3
            have hd : decide ((RD.common bs x : Int) < M) = true := by simp; omega
            clear hM3 hge
            go_wp2_with fail
            go_quiet (fail)
            go_wp2_with fail
            refine bodyPost_ret (v := .tuple #[.agg #[.int .i64 (kk : Int), .int .i64 (0), .int .i64 (0), .int .i32 (RD.s32 (n0 + 256 * n1 + 65536 * n2 + 16777216 * n3))], .int .i64 (RD.common bs x), .int .i64 ((RD.off x + 6 : Nat) : Int)]) (by simp [results, results32, go_sem, fun n => (HG.out n).1, fun n => (HG.out n).2.1, fun n => (HG.out n).2.2.1, fun n => (HG.out n).2.2.2] <;> omega) rfl ⟨?_, ?_⟩
            · rw [hS.out]
            · exact ((((below_drewN hB2 _).setCell (Nat.le_refl _) _).setCell (Nat.le_refl _) _).setCell (Nat.le_refl _) _).setCell (Nat.le_refl _) _
    · have hE1 : (E == 0) = false := by simpa using hE
      have hE2 : (E != 0) = true := by simpa using hE
      go_wp2_with fail
      obtain ⟨g0, g1, g2, g3⟩ := cells4 (fin4 H5.out (.int .i64 (kk : Int)) (.int .i64 (0)) (.int .i64 (0)) (.int .i32 (RD.s32 (n0 + 256 * n1 + 65536 * n2 + 16777216 * n3))))
      refine bodyPost_ret (v := .tuple #[.agg #[.int .i64 (kk : Int), .int .i64 (0), .int .i64 (0), .int .i32 (RD.s32 (n0 + 256 * n1 + 65536 * n2 + 16777216 * n3))], .int .i64 0, .int .i64 ((RD.off x + 6 : Nat) : Int)]) (by simp [results, results32, go_sem, g0, g1, g2, g3] <;> omega) rfl ⟨?_, ?_⟩
      · obtain ⟨e1, e2⟩ := hEB.out
        simp only [same_, ← e1, if_neg hE]; rfl
      · exact (((hB2.setCell (Nat.le_refl _) _).setCell (Nat.le_refl _) _).setCell (Nat.le_refl _) _).setCell (Nat.le_refl _) _
theorem rd_al42_none (kk : Nat) (c d : Int) (hf : RD.form kk = RD.alone 4 [c, d]) (hof : OfC kk 2 false false 4 false 0 0 false) (bb oo cap : Nat) (x : List Int) (w : World) (hL : 0 < x.length) (hL2 : x.length ≤ 9223372036854775807) (hx : RD.isBytes x) (hr : Row w bb oo x)
   (hlen : x.length < RD.off x + 6) : ReadC kk bb oo cap x w := by
  unfold ReadC
  have hb := hr.1
  have h0 := hr.2 0 hL
  rw [Nat.add_zero] at h0
  have hbyte : ∀ j, j < x.length → 0 ≤ x.getD j 0 ∧ x.getD j 0 ≤ 255 := by
    intro j hj
    have e : x.getD j 0 = x[j] := by simp [List.getD, hj]
    rw [e]; exact hx _ (List.getElem_mem hj)
  obtain ⟨r0, r1⟩ := hbyte 0 hL
  have hoff : RD.ahead x = (if x.getD 0 0 / 16 = 4 then x.getD 0 0 else 0) := rfl
  have hoff2 : RD.off x = (if x.getD 0 0 / 16 = 4 then 1 else 0) := rfl
  have hb2 := bits240 _ r0 r1
  have eneed : RD.need kk x = RD.off x + 6 := by simp [RD.need, hf, RD.two, RD.one, RD.alone]
  have hz : True := trivial
  have eA : RD.rdA kk x = 0 := by simp only [RD.rdA, RD.rdB, RD.rdN, RD.need, RD.rmid, RD.rlast, hf, RD.two, RD.one, RD.alone]; simp
  have eB : RD.rdB kk x = 0 := by simp only [RD.rdA, RD.rdB, RD.rdN, RD.need, RD.rmid, RD.rlast, hf, RD.two, RD.one, RD.alone]; simp
  have eN : RD.rdN kk x = 0 := by
    unfold RD.rdN
    rw [eneed]
    rw [if_neg (by omega)]
  rw [eA, eB, eN, eneed]
  clear eA eB eN eneed hz
  generalize hv : x.getD 0 0 = v0 at *
  have ho : (RD.off x : Int) ≤ 1 := by rw [hoff2]; split <;> simp
  have ha0 : 0 ≤ RD.ahead x := by rw [hoff]; split <;> omega
  have ha1 : RD.ahead x ≤ 255 := by rw [hoff]; split <;> omega
  have H1 := Lib.hid hoff; have H2 := Lib.hid hoff2; have H3 := Lib.hid hv; clear hoff hoff2 hv
  have HR := Lib.hid hr; clear hr
  have HB := Lib.hid hbyte; clear hbyte
  have HX := Lib.hid hx; clear hx
  have HF := Lib.hid hf; clear hf
  have q1 := bitsI (RD.ahead x / 4) (by omega) (by omega)
  have q2 := bitsI (RD.ahead x) (by omega) (by omega)
  go_enter Try.func50, Try.ntmps50
  go_upto_if 40 with (go_at_call 55; refine (hof _).mono ?_; rintro e w1 ⟨⟨fb, fc, rfl⟩, hb1⟩; have hbl : Below w.heap.size w w1 := ((Below.refl _ _).alloc (Nat.le_refl _) _).trans (hb1.mono (by simp)); have hsz := hbl.size; have hq1 : bb < w1.heap.size := Nat.lt_of_lt_of_le hb hsz; have hq2 : bb < w1.heap.size + 1 := Nat.lt_succ_of_lt hq1; have hq3 : bb < w1.heap.size + 1 + 1 := Nat.lt_succ_of_lt hq2; have hq4 : bb < w1.heap.size + 1 + 1 + 1 := Nat.lt_succ_of_lt hq3; have hq5 : bb < w1.heap.size + 1 + 1 + 1 + 1 := Nat.lt_succ_of_lt hq4; have hq6 : bb ≠ w1.heap.size + 1 := Nat.ne_of_lt hq2; have hq7 : w1.heap.size + 1 ≠ bb := fun e => hq6 e.symm; have e0 := (hbl.cell (p := ⟨bb, oo, none⟩) hb).trans h0; have h4 : w1.heap[w.heap.size]? = some Z4 := (hb1.block w.heap.size (by simp)).trans (heap_alloc_new w _); have hlt4 : w.heap.size < w1.heap.size := (by have := hb1.size; simp at this; omega); clear hb1)
  go_cut [10, 11] (fun s10 s11 wx => s10 = .int .i64 (RD.ahead x) ∧ s11 = .int .i64 ((RD.off x : Nat) : Int) ∧ wx = (w1.alloc (.cells #[.slice (some ⟨fb, 0, none⟩) 2 fc, .bool false, .bool false, .int .i64 4, .bool false, .int .i64 0, .int .i64 0, .bool false] 96)).alloc (.cells #[.int .i64 (kk : Int), .int .i64 0, .int .i64 0, .int .i32 0] 30))
  case first =>
    by_cases hc : v0 / 16 = 4
    · rw [decide_eq_true hc] at hb2
      go_wp2
      go_meet
      case rel => exact ⟨by rw [H1.out, if_pos hc], by rw [H2.out, if_pos hc]; rfl, rfl⟩
    · rw [decide_eq_false hc] at hb2
      go_wp2
      go_meet
      case rel => exact ⟨by rw [H1.out, if_neg hc], by rw [H2.out, if_neg hc]; rfl, rfl⟩
  case rest =>
    obtain ⟨rfl, rfl, rfl⟩ := hcut
    clear e0 h0 hb2
    have hW4 : Hid (w1.heap[w.heap.size]? = some Z4) := h4
    clear h4
    have hn' : decide ((RD.off x : Int) + 6 ≤ (x.length : Int)) = false := by simp; omega
    go_wp2_with fail
    go_wp2_with (go_at_call 56; refine (enc12W kk (0) (0) (0) (w := w) (w1 := w1) HR.out ?cS).mono ?_)
    case cS =>
      apply Exists.intro
      apply And.intro
      repeat first
        | with_reducible exact Sh.start hbl hW4.out hlt4 _ _
        | with_reducible apply Sh.alloc
        | with_reducible apply Sh.set
        | with_reducible apply Sh.drewN
      rfl
    rintro e w2 ⟨v, E, bs, rfl, hEB, hby, hB2, h42, h92, hr2, hs2⟩
    have c0 : w2.cell? ⟨w1.heap.size + 1, 0, none⟩ = some (.int .i64 (kk : Int)) := by simp [World.cell?, h92]
    have c1 : w2.cell? ⟨w1.heap.size + 1, 1, none⟩ = some (.int .i64 (0)) := by simp [World.cell?, h92]
    have c2 : w2.cell? ⟨w1.heap.size + 1, 2, none⟩ = some (.int .i64 (0)) := by simp [World.cell?, h92]
    have c3 : w2.cell? ⟨w1.heap.size + 1, 3, none⟩ = some (.int .i32 (0)) := by simp [World.cell?, h92]
    have d0 : w2.cell? ⟨w.heap.size, 0, none⟩ = some (.int .i64 0) := by simp [World.cell?, h42]
    have d1 : w2.cell? ⟨w.heap.size, 1, none⟩ = some (.int .i64 0) := by simp [World.cell?, h42]
    have d2 : w2.cell? ⟨w.heap.size, 2, none⟩ = some (.int .i64 0) := by simp [World.cell?, h42]
    have d3 : w2.cell? ⟨w.heap.size, 3, none⟩ = some (.int .i32 0) := by simp [World.cell?, h42]
    have f0 : w2.frozen? ⟨w.heap.size, 0, none⟩ = false := by simp [World.frozen?, h42]
    have f1 : w2.frozen? ⟨w.heap.size, 1, none⟩ = false := by simp [World.frozen?, h42]
    have f2 : w2.frozen? ⟨w.heap.size, 2, none⟩ = false := by simp [World.frozen?, h42]
    have f3 : w2.frozen? ⟨w.heap.size, 3, none⟩ = false := by simp [World.frozen?, h42]
    have H5 := Lib.hid h42; have H6 := Lib.hid h92; clear h42 h92
    by_cases hE : E = 0
    · obtain ⟨e1, e2⟩ := hEB.out
      have hne : bs ≠ [] := by
        rcases enc_fit kk (0) (0) (0) with ⟨_, q⟩ | ⟨q, _⟩
        · rw [e2]; exact q
        · exact absurd (e1.symm.trans hE) q
      have hS : Hid (same_ kk (0) (0) (0) x = RD.common bs x) := by
        unfold same_; rw [← e1, if_pos hE, ← e2]; exact Lib.hid rfl
      have hs10 : bs.length ≤ 10 := by rw [e2]; exact enc_short _ _ _ _
      clear hEB
      obtain ⟨blk, base, cp, rfl, hb2, hb3, hb4⟩ := (hby.resolve_left (fun h => hne h.1)).2
      have HC := Lib.hid hb4; clear hb4 hby e1 e2
      subst hE
      obtain ⟨M, hM, hM1, hM2, hM3⟩ : ∃ M : Int, (if x.length < bs.length then ((x.length : Nat) : Int) else ((bs.length : Nat) : Int)) = M ∧ M ≤ (x.length : Int) ∧ M ≤ (bs.length : Int) ∧ (M = (x.length : Int) ∨ M = (bs.length : Int)) := by
        refine ⟨_, rfl, ?_, ?_, ?_⟩ <;> split <;> omega
      go_wp2_with fail
      go_loopw [23] (fun s wr => ∃ k j : Nat, s = .int .i64 k ∧ wr = w2.drewN j ∧ k ≤ RD.common bs x) (fun s _ => RD.common bs x - (intOf s).toNat)
      case atStart => exact ⟨0, 0, rfl, rfl, Nat.zero_le _⟩
      case round =>
        obtain ⟨k, j, rfl, rfl, hk⟩ := hrel
        have hcl := RD.common_le bs x
        by_cases hlt : k < RD.common bs x
        · obtain ⟨k1, k2, k3⟩ := common_lt hlt
          have z1 := HC.out k k1
          have z2 := hr2.2 k k2
          rw [← k3] at z2
          have hd : decide ((k : Int) < M) = true := by simp; omega
          clear k3 hM3
          go_wp2_with fail
          go_quiet (fail)
          go_wp2_with fail
          go_roundw
          case rel => exact ⟨k + 1, _, by go_num, rfl, by omega⟩
          case measure => simp [intOf]; omega
        · obtain rfl : k = RD.common bs x := by omega
          have G := fun n => cells4 (fin4 (w := w2.drewN n) H5.out (.int .i64 (kk : Int)) (.int .i64 (0)) (.int .i64 (0)) (.int .i32 (0)))
          have HG := Lib.hid G; clear G
          by_cases hge : M ≤ (RD.common bs x : Int)
          · have hd : decide ((RD.common bs x : Int) < M) = false := by simp; omega
            clear hM3 hge
            go_wp2_with fail
            go_quiet (fail)
            go_wp2_with fail
            refine bodyPost_ret (v := .tuple #[.agg #[.int .i64 (kk : Int), .int .i64 (0), .int .i64 (0), .int .i32 (0)], .int .i64 (RD.common bs x), .int .i64 ((RD.off x + 6 : Nat) : Int)]) (by simp [results, results32, go_sem, fun n => (HG.out n).1, fun n => (HG.out n).2.1, fun n => (HG.out n).2.2.1, fun n => (HG.out n).2.2.2] <;> omega) rfl ⟨?_, ?_⟩
            · rw [hS.out]
            · exact ((((below_drewN hB2 _).setCell (Nat.le_refl _) _).setCell (Nat.le_refl _) _).setCell (Nat.le_refl _) _).setCell (Nat.le_refl _) _
          · have k1 : RD.common bs x < bs.length := by omega
            have k2 : RD.common bs x < x.length := by omega
            have z1 := HC.out _ k1
            have z2 := hr2.2 _ k2
            have k3 : (bs.getD (RD.common bs x) 0 == x.getD (RD.common bs x) 0) = false := by rw [beq_eq_false_iff_ne]; exact common_end k1 k2
            generalize bs.getD (RD.common bs x) 0 = u1 at z1 k3
            generalize x.getD (RD.common bs x) 0 = u2 at z2 k3
            have hd : decide ((RD.common bs x : Int) < M) = true := by simp; omega
            clear hM3 hge
            go_wp2_with fail
            go_quiet (fail)
            go_wp2_with fail
            refine bodyPost_ret (v := .tuple #[.agg #[.int .i64 (kk : Int), .int .i64 (0), .int .i64 (0), .int .i32 (0)], .int .i64 (RD.common bs x), .int .i64 ((RD.off x + 6 : Nat) : Int)]) (by simp [results, results32, go_sem, fun n => (HG.out n).1, fun n => (HG.out n).2.1, fun n => (HG.out n).2.2.1, fun n => (HG.out n).2.2.2] <;> omega) rfl ⟨?_, ?_⟩
            · rw [hS.out]
            · exact ((((below_drewN hB2 _).setCell (Nat.le_refl _) _).setCell (Nat.le_refl _) _).setCell (Nat.le_refl _) _).setCell (Nat.le_refl _) _
    · have hE1 : (E == 0) = false := by simpa using hE
      have hE2 : (E != 0) = true := by simpa using hE
      go_wp2_with fail
      obtain ⟨g0, g1, g2, g3⟩ := cells4 (fin4 H5.out (.int .i64 (kk : Int)) (.int .i64 (0)) (.int .i64 (0)) (.int .i32 (0)))
      refine bodyPost_ret (v := .tuple #[.agg #[.int .i64 (kk : Int), .int .i64 (0), .int .i64 (0), .int .i32 (0)], .int .i64 0, .int .i64 ((RD.off x + 6 : Nat) : Int)]) (by simp [results, results32, go_sem, g0, g1, g2, g3] <;> omega) rfl ⟨?_, ?_⟩
      · obtain ⟨e1, e2⟩ := hEB.out
        simp only [same_, ← e1, if_neg hE]; rfl
      · exact (((hB2.setCell (Nat.le_refl _) _).setCell (Nat.le_refl _) _).setCell (Nat.le_refl _) _).setCell (Nat.le_refl _) _
end Go.Proofs.Ytpcocfdgcihpdaa.rdw
