/-
  What X86Back calls: lists of instructions held against one another, joined; bytes behind their end.
-/
import Derived.Test.YtjcjalmkjncoaaaRdAll
namespace Go.Proofs.Ytjcjalmkjncoaaa.rdw
open Go Go.RowKit
open Go.Proofs.Ytjcjalmkjncoaaa Go.Proofs.Ytjcjalmkjncoaaa.wr
set_option linter.unusedVariables false
set_option linter.unusedSimpArgs false
set_option maxHeartbeats 1600000 in
set_option maxRecDepth 1000000 in
theorem same24 (ad1 ad2 : Option Addr) (n c1 c2 : Nat) (O A X M : Nat → Int) (w : World) (hn : n ≤ 1000) (h1 : Ins w w.heap.size ad1 n O A X M) (h2 : Ins w w.heap.size ad2 n O A X M) :
    Calls Try.prog 24 #[.slice ad1 n c1, .slice ad2 n c2] w fun e w' => e = .returned (.bool true) ∧ ∃ j, w' = w.drewN j := by
  have H1 := Lib.hid h1; clear h1
  have H2 := Lib.hid h2; clear h2
  go_enter Try.func24, Try.ntmps24
  go_wp2
  go_loopw [5] (fun s wq => ∃ i j : Nat, i ≤ n ∧ s = .int .i64 i ∧ wq = w.drewN j) (fun s _ => n - (intOf s).toNat)
  case atStart => exact ⟨0, 0, Nat.zero_le _, rfl, rfl⟩
  case round =>
    obtain ⟨i, j, hi, rfl, rfl⟩ := hrel
    by_cases hi1 : i < n
    · obtain ⟨b, off, rfl, hb, a0, a1, a2, a3⟩ := H1.out i hi1
      obtain ⟨b', off', rfl, hb', d0, d1, d2, d3⟩ := H2.out i hi1
      go_wp2_with fail
      go_quiet (fail)
      go_wp2_with fail
      go_roundw
      case rel => exact ⟨i + 1, _, by omega, by go_num, rfl⟩
      case measure => simp [intOf]; omega
    · obtain rfl : i = n := by omega
      go_wp2_with fail
      go_ret
      exact ⟨rfl, _, rfl⟩
set_option maxHeartbeats 1600000 in
set_option maxRecDepth 1000000 in
theorem decode17_out (ad : Option Addr) (n cap : Nat) (at_ : Int) (w : World) (h : at_ < 0 ∨ (n : Int) ≤ at_) (hn : n ≤ 9223372036854775807) :
    Calls Try.prog 17 #[.slice ad n cap, .int .i64 at_] w fun e w' => e = .returned (decV (.err 1)) ∧ Below w.heap.size w w' := by
  have zz : ((w.alloc (.cells #[.int .i64 0, .int .i64 0, .int .i64 0, .int .i32 0] 32)).heap[w.heap.size]? = some Z4) := heap_alloc_new _ _
  obtain ⟨g0, g1, g2, g3⟩ := cells4 (fin4 zz (.int .i64 0) (.int .i64 0) (.int .i64 0) (.int .i32 0))
  by_cases h1 : at_ < 0
  · go_enter Try.func17, Try.ntmps17
    go_wp2_with fail
    refine bodyPost_ret (v := decV (.err 1)) (by simp [decV, results, results17, go_sem, g0, g1, g2, g3]) rfl ⟨rfl, ?_⟩
    first | exact (Below.refl _ _).alloc (Nat.le_refl _) _ | exact (((((Below.refl _ _).alloc (Nat.le_refl _) _).setCell (Nat.le_refl _) _).setCell (Nat.le_refl _) _).setCell (Nat.le_refl _) _).setCell (Nat.le_refl _) _
  · have h2 : (n : Int) ≤ at_ := by omega
    have h1d : decide (at_ < 0) = false := by simp; omega
    go_enter Try.func17, Try.ntmps17
    go_wp2_with fail
    refine bodyPost_ret (v := decV (.err 1)) (by simp [decV, results, results17, go_sem, g0, g1, g2, g3]) rfl ⟨rfl, ?_⟩
    first | exact (Below.refl _ _).alloc (Nat.le_refl _) _ | exact (((((Below.refl _ _).alloc (Nat.le_refl _) _).setCell (Nat.le_refl _) _).setCell (Nat.le_refl _) _).setCell (Nat.le_refl _) _).setCell (Nat.le_refl _) _
set_option maxHeartbeats 1600000 in
set_option maxRecDepth 1000000 in
theorem join14B (ad : Option Addr) (n cap : Nat) (O A X M : Nat → Int) (w : World) (hn : n ≤ 100) (h : Ins w w.heap.size ad n O A X M) (hall0 : ∀ i, i < n → encE (O i) (A i) (X i) (M i) = 0) :
    Calls Try.prog 14 #[.slice ad n cap] w fun e w' => ∃ v, e = .returned (.tuple #[v, .int .i64 0]) ∧ w'.ownsRow w.heap.size 5 1 v (cat (fun i => encB (O i) (A i) (X i) (M i)) n).length (u8s (cat (fun i => encB (O i) (A i) (X i) (M i)) n)) ∧ Below w.heap.size w w' := by
  obtain ⟨i0, hi, hz0, hz1, hz2⟩ := info_parts info5
  have HALL := Lib.hid hall0; clear hall0
  go_enter Try.func14, Try.ntmps14
  go_wp2
  go_loopw [4, 11] (fun v i wr => ∃ k : Nat, k ≤ n ∧ i = .int .i64 k ∧ wr.ownsRow w.heap.size 5 1 v (cat (fun i => encB (O i) (A i) (X i) (M i)) k).length (u8s (cat (fun i => encB (O i) (A i) (X i) (M i)) k)) ∧ Below w.heap.size w wr ∧ Hid (∀ i, i < k → encE (O i) (A i) (X i) (M i) = 0))
    (fun _ i _ => n - (intOf i).toNat)
  case atStart => exact ⟨0, Nat.zero_le _, rfl, World.ownsRow_nil _ _ _ _, Below.refl _ _, fun i hi => by omega⟩
  case round =>
    obtain ⟨k, hk, rfl, hown, hbel, hall⟩ := hrel
    by_cases hk1 : k < n
    · obtain ⟨b, off, he, hb, hat⟩ := h k hk1
      cases he
      obtain ⟨d0, d1, d2, d3⟩ := hat.mono hbel hb
      have hsh := enc_short (O k) (A k) (X k) (M k)
      have hle := cat_le (fun i => encB (O i) (A i) (X i) (M i)) (fun i => enc_short _ _ _ _) k
      have hsz := hbel.size
      rcases enc_fit (O k) (A k) (X k) (M k) with ⟨hE, hB⟩ | ⟨hE, hB⟩
      · have C := enc12C (O k) (A k) (X k) (M k) (wr.alloc (.cells #[.int .i64 (O k), .int .i64 (A k), .int .i64 (X k), .int .i32 (M k)] 32))
        rw [hE] at C
        go_wp2_with (first | (go_at_call 12; refine C.mono ?_; rintro e w1 ⟨v, rfl, hby, hb1⟩; obtain ⟨blk, base, cp, rfl, hb2, hb3, hb4⟩ := (hby.resolve_left (fun h => hB h.1)).2; have hown1 := own_below (hown.alloc _) hb1; have hbel1 := (hbel.alloc hbel.size _).trans (hb1.mono (by simp; have := hbel.size; omega))) | (at_builtin; refine wpList_append_own _ rfl _ _ 33 rfl w.heap.size 5 i0 (.int .u8 0) 1 1 Try.underlying33 hi hz0 hz1 hz2 rfl (by decide) _ _ _ rfl hown1 ⟨blk, base, none⟩ _ cp (u8s (encB (O k) (A k) (X k) (M k))) rfl (by simp [u8s]) ?c1 ?c2 ?c3 ?c4 ?c5 ?_))
        case c1 =>
          intro j u hj
          rw [u8s, List.getElem?_map] at hj
          rw [Go.WideShapes.add_plain]
          by_cases hlt : j < (encB (O k) (A k) (X k) (M k)).length
          · rw [hb4 j hlt]
            have hbj : (encB (O k) (A k) (X k) (M k))[j]? = some ((encB (O k) (A k) (X k) (M k)).getD j 0) := by simp [List.getD, hlt]
            rw [hbj] at hj
            exact hj
          · have hbj : (encB (O k) (A k) (X k) (M k))[j]? = none := by simp; omega
            rw [hbj] at hj; cases hj
        case c2 => intro u hu; simp only [u8s, List.mem_map] at hu; obtain ⟨_, _, rfl⟩ := hu; rfl
        case c3 => unfold maxLen; omega
        case c4 => omega
        case c5 => have := hbel1.size; omega
        intro v' w2 hown' hgrow _
        have hbel2 : Below w.heap.size w w2 := hbel1.grown hgrow (by have := hbel1.size; omega) (fun j hj => (hown1.lt j hj).1)
        have hown2 : w2.ownsRow w.heap.size 5 1 v' (cat (fun i => encB (O i) (A i) (X i) (M i)) (k + 1)).length (u8s (cat (fun i => encB (O i) (A i) (X i) (M i)) (k + 1))) := by
          rw [cat_succ, u8s_append, List.length_append]; exact hown'
        clear hown' hgrow hown1 hown
        go_wp2
        go_roundw
        case rel => exact ⟨k + 1, by omega, by go_num, hown2, hbel2, all_succ hall.out hE⟩
        case measure => simp [intOf]; omega
      · exact absurd (HALL.out k hk1) hE
    · have hkn : k = n := by omega
      subst hkn
      go_wp2
      go_ret2
      exact ⟨_, rfl, hown, hbel⟩
/-- a row of bytes of the call's own, as one that may be read -/
theorem own_row {w : World} {B n : Nat} {v : Value} {bs : List Int} (h : w.ownsRow B 5 1 v bs.length (u8s bs)) (hn : bs ≠ []) : ∃ g cap, v = .slice (some ⟨g, 0, none⟩) bs.length cap ∧ bs.length ≤ cap ∧ cap ≤ 9223372036854775807 ∧ Row w g 0 bs := by
  have h0 := h
  have hlt := h.lt
  obtain ⟨h1, h2⟩ := h
  rcases h2 with ⟨hv, hn0⟩ | ⟨g, cap, cur, rfl, hg, hh, hn0, hcap, hsz, htake⟩
  · exact absurd (List.length_eq_zero_iff.1 hn0) hn
  · refine ⟨g, cap, rfl, hn0, ?_, (hlt g rfl).2, fun j hj => ?_⟩
    · unfold maxLen at hcap; omega
    · rw [Nat.zero_add, h0.cellAt j (by omega)]
      simp [u8s, List.getD, hj]
end Go.Proofs.Ytjcjalmkjncoaaa.rdw
