/-
  carafelaw20.code: the bytes of some instructions.
-/
import Derived.Test.YtpcocfdgcihpdaaSmKit
import Derived.Test.YtpcocfdgcihpdaaSmKnown
set_option maxHeartbeats 64000000
set_option maxRecDepth 1000000
set_option linter.unusedVariables false
set_option linter.unusedSimpArgs false
namespace Go.Proofs.Ytpcocfdgcihpdaa.rdw
open Go Go.RowKit Go.BigFrame
open Go.Proofs.Ytpcocfdgcihpdaa Go.Proofs.Ytpcocfdgcihpdaa.wr Go.Proofs.Ytpcocfdgcihpdaa.x86enc
set_option linter.unusedVariables false
set_option linter.unusedSimpArgs false
theorem code10 (ad : Option Addr) (n cap : Nat) (O A X M : Nat → Int) (w : World) (h : Ins w w.heap.size ad n O A X M) :
    Calls Try.prog 10 #[.slice ad n cap] w fun e w' => ∃ (m : Nat) (v : Value), m ≤ n ∧ m ≤ 60 ∧ (m = n ∨ m = 60) ∧ e = .returned v ∧ w'.ownsRow w.heap.size 5 1 v (cat (fun i => encB (O i) (A i) (X i) (M i)) m).length (u8s (cat (fun i => encB (O i) (A i) (X i) (M i)) m)) ∧ Below w.heap.size w w' := by
  obtain ⟨i0, hi, hz0, hz1, hz2⟩ := info_parts info5
  go_enter Try.func10, Try.ntmps10
  go_wp2
  go_loopw [3, 4] (fun v i wq => ∃ k : Nat, k ≤ n ∧ k ≤ 60 ∧ i = .int .i64 k ∧ wq.ownsRow w.heap.size 5 1 v (cat (fun i => encB (O i) (A i) (X i) (M i)) k).length (u8s (cat (fun i => encB (O i) (A i) (X i) (M i)) k)) ∧ Below w.heap.size w wq)
    (fun _ i _ => 60 - (intOf i).toNat)
  case atStart => exact ⟨0, Nat.zero_le _, Nat.zero_le _, rfl, World.ownsRow_nil _ _ _ _, Below.refl _ _⟩
  case round =>
    obtain ⟨k, hk, hk6, rfl, hown, hbel⟩ := hrel
    by_cases hc : k < n ∧ k < 60
    · obtain ⟨hk1, hk2⟩ := hc
      have t1 : decide ((k : Int) < (n : Int)) = true := by simp; omega
      have t2 : decide ((k : Int) < 60) = true := by simp; omega
      obtain ⟨b, off, he, hb, hat⟩ := h k hk1
      cases he
      obtain ⟨d0, d1, d2, d3⟩ := hat.mono hbel hb
      have hsh := enc_short (O k) (A k) (X k) (M k)
      have hle := cat_le (fun i => encB (O i) (A i) (X i) (M i)) (fun i => enc_short _ _ _ _) k
      have hsz := hbel.size
      obtain ⟨bs, hbs⟩ : ∃ bs, encB (O k) (A k) (X k) (M k) = bs := ⟨_, rfl⟩
      have hcs : cat (fun i => encB (O i) (A i) (X i) (M i)) (k + 1) = cat (fun i => encB (O i) (A i) (X i) (M i)) k ++ bs := by rw [cat_succ, hbs]
      generalize cat (fun i => encB (O i) (A i) (X i) (M i)) k = ck at *
      have HCS := Lib.hid hcs; clear hcs
      rcases enc_fit (O k) (A k) (X k) (M k) with ⟨hE, hBn⟩ | ⟨hE, hBn⟩
      · rw [hbs] at hsh hBn
        have C := Lib.hid (fun w => enc13Y (O k) (A k) (X k) (M k) bs hE hbs hBn w)
        clear hE hbs hBn h
        go_wp2_with fail
        go_cut [5, 6] (fun v5 v6 wc => ∃ blk base cp : Nat, v5 = .slice (some ⟨blk, base, none⟩) bs.length cp ∧ v6 = .int .i64 0 ∧ blk < wc.heap.size ∧ Hid (∀ j, j < bs.length → wc.cell? ⟨blk, base + j, none⟩ = some (.int .u8 (bs.getD j 0))) ∧ Below wr.heap.size wr wc)
        case first =>
          go_region_law (go_simp; go_at_call 27; refine (C.out _).mono ?_; rintro e w2 ⟨blk, base, cp, rfl, hblk, q4, hb2⟩; have hb3 : Below wr.heap.size wr w2 := ⟨hb2.os, hb2.tape, hb2.output, hb2.size, hb2.block⟩)
          all_goals go_wp2
          all_goals go_meet
          all_goals
            case rel => exact ⟨_, _, _, rfl, rfl, hblk, q4, hb3⟩
        case rest =>
          obtain ⟨blk, base, cp, rfl, rfl, hblk, q4, hb3⟩ := hcut
          have hbel2 := hbel.trans (hb3.mono hbel.size)
          have hown2 := own_below hown hb3
          clear hbel hown d0 d1 d2 d3 hat hsz
          go_wp2_with (at_builtin; refine wpList_append_own _ rfl _ _ 27 rfl w.heap.size 5 i0 (.int .u8 0) 1 1 Try.underlying27 hi hz0 hz1 hz2 rfl (by decide) _ _ _ rfl hown2 ⟨blk, base, none⟩ _ cp (u8s bs) rfl (by simp [u8s]) (src_bytes q4.out) (one_u8s bs) (by unfold maxLen; omega) (by omega) hbel2.size ?_; intro v3 w3 hv3 hgrow3 _; have hbel3 := hbel2.grown hgrow3 hbel2.size (fun j hj => (hown2.lt j hj).1); clear hgrow3)
          have hv4 : w3.ownsRow w.heap.size 5 1 v3 (cat (fun i => encB (O i) (A i) (X i) (M i)) (k + 1)).length (u8s (cat (fun i => encB (O i) (A i) (X i) (M i)) (k + 1))) := by
            rw [HCS.out, u8s_append, List.length_append]; exact hv3
          refine ⟨⟨k + 1, by omega, by omega, by go_num, hv4, hbel3⟩, ?_⟩
          simp [intOf]; omega
      · obtain ⟨E, hE2⟩ : ∃ E, encE (O k) (A k) (X k) (M k) = E := ⟨_, rfl⟩
        rw [hE2] at hE
        rw [hbs] at hBn
        have C := Lib.hid (fun w => enc13N (O k) (A k) (X k) (M k) E hE2 w)
        have hEd : (E == 0) = false := by simpa using hE
        clear hE hE2 hbs h
        go_wp2_with fail
        go_cut [5, 6] (fun v5 v6 wc => v6 = .int .i64 E ∧ Below wr.heap.size wr wc)
        case first =>
          go_region_law (go_simp; go_at_call 27; refine (C.out _).mono ?_; rintro e w2 ⟨v2, rfl, hb2⟩; have hb3 : Below wr.heap.size wr w2 := ⟨hb2.os, hb2.tape, hb2.output, hb2.size, hb2.block⟩)
          all_goals go_wp2
          all_goals go_meet
          all_goals
            case rel => exact ⟨rfl, hb3⟩
        case rest =>
          obtain ⟨rfl, hb3⟩ := hcut
          have hbel2 := hbel.trans (hb3.mono hbel.size)
          have hown2 := own_below hown hb3
          clear hbel hown d0 d1 d2 d3 hat hsz
          go_wp2_with fail
          refine ⟨⟨k + 1, by omega, by omega, by go_num, by rw [HCS.out, hBn, List.append_nil]; exact hown2, hbel2⟩, ?_⟩
          simp [intOf]; omega
    · by_cases c1 : k < n
      · have t1 : decide ((k : Int) < (n : Int)) = true := by simp; omega
        have t2 : decide ((k : Int) < 60) = false := by simp; omega
        go_wp2_with fail
        go_ret
        exact ⟨k, _, hk, hk6, by omega, rfl, hown, hbel⟩
      · have t1 : decide ((k : Int) < (n : Int)) = false := by simp; omega
        go_wp2_with fail
        go_ret
        exact ⟨k, _, hk, hk6, by omega, rfl, hown, hbel⟩
end Go.Proofs.Ytpcocfdgcihpdaa.rdw
