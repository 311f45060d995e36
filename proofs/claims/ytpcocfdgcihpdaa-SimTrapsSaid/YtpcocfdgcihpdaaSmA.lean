/-
  carafelaw20: instructions, their bytes; slices.Clone.
-/
import Derived.Test.YtpcocfdgcihpdaaSmKit
import Derived.Test.YtpcocfdgcihpdaaSmKnown
import Derived.WalkSpells
namespace Go.Proofs.Ytpcocfdgcihpdaa.rdw
open Go Go.RowKit Go.BigFrame
open Go.Proofs.Ytpcocfdgcihpdaa Go.Proofs.Ytpcocfdgcihpdaa.wr Go.Proofs.Ytpcocfdgcihpdaa.x86enc
set_option linter.unusedVariables false
set_option linter.unusedSimpArgs false
theorem results11 : Try.f11.results = #[.cell 8 30] := by kernel_rfl
set_option maxHeartbeats 1600000 in
set_option maxRecDepth 1000000 in
theorem in11 (a b c d : Int) (w : World) : Calls Try.prog 11 #[.int .i64 a, .int .i64 b, .int .i64 c, .int .i32 d] w fun e w' => e = .returned (.agg #[.int .i64 a, .int .i64 b, .int .i64 c, .int .i32 d]) ∧ Below w.heap.size w w' := by
  have zz : ((w.alloc (.cells #[.int .i64 0, .int .i64 0, .int .i64 0, .int .i32 0] 30)).heap[w.heap.size]? = some Z4) := heap_alloc_new _ _
  obtain ⟨g0, g1, g2, g3⟩ := cells4 (fin4 zz (.int .i64 a) (.int .i64 b) (.int .i64 c) (.int .i32 d))
  have HG := Lib.hid (And.intro g0 (And.intro g1 (And.intro g2 g3))); clear g0 g1 g2 g3
  obtain ⟨d0, d1, d2, d3⟩ := cells4 zz
  obtain ⟨f0, f1, f2, f3⟩ := froz4 zz
  have HZ := Lib.hid zz; clear zz
  go_enter Try.func11, Try.ntmps11
  go_wp2_with fail
  obtain ⟨g0, g1, g2, g3⟩ := HG.out
  refine bodyPost_ret (v := .agg #[.int .i64 a, .int .i64 b, .int .i64 c, .int .i32 d]) (by simp [results, results11, go_sem, g0, g1, g2, g3]) rfl ⟨rfl, ?_⟩
  first | exact (Below.refl _ _).alloc (Nat.le_refl _) _ | exact (((((Below.refl _ _).alloc (Nat.le_refl _) _).setCell (Nat.le_refl _) _).setCell (Nat.le_refl _) _).setCell (Nat.le_refl _) _).setCell (Nat.le_refl _) _
set_option maxHeartbeats 1600000 in
set_option maxRecDepth 1000000 in
theorem clone26 (bs : List Int) (B : Nat) (v : Value) (w : World) (hB : B ≤ w.heap.size) (h : w.ownsRow B 5 1 v bs.length (u8s bs)) (hne : bs ≠ []) (hlen : bs.length ≤ 100000) :
    Calls Try.prog 26 #[v] w fun e w' => ∃ v', e = .returned v' ∧ w'.ownsRow w.heap.size 5 1 v' bs.length (u8s bs) ∧ Below w.heap.size w w' := by
  obtain ⟨i0, hi, hz0, hz1, hz2⟩ := info_parts info5
  obtain ⟨g, cap, rfl, q1, q2, q3⟩ := own_row (n := 0) h hne
  have Q3 := Lib.hid q3; clear q3
  have he27 := fun w : World => Lib.run_eql_slice_nil (P := Try.prog) w 27 5 (some ⟨g, 0, none⟩) bs.length cap 0 0 Try.underlying27
  go_enter Try.func26, Try.ntmps26
  go_wp2_with (at_builtin; refine wpList_append_own _ rfl _ _ 27 rfl w.heap.size 5 i0 (.int .u8 0) 1 1 Try.underlying27 hi hz0 hz1 hz2 rfl (by decide) _ _ _ rfl (own_empty w w.heap.size (Nat.le_refl _)) ⟨g, 0, none⟩ _ cap (u8s bs) rfl (by simp [u8s]) (src_bytes (fun j hj => (((Below.refl w.heap.size w).alloc (Nat.le_refl _) _).cell Q3.out.1).trans (Q3.out.2 j hj))) (one_u8s bs) (by unfold maxLen; omega) (by omega) (by simp) ?_; intro v3 w3 hv3 hgrow3 _; have hb3 : Below w.heap.size w w3 := ((Below.refl w.heap.size w).alloc (Nat.le_refl _) _).grown hgrow3 (by simp) (fun j hj => by cases hj; simp); clear hgrow3)
  go_ret
  exact ⟨v3, rfl, by simpa using hv3, hb3⟩
end Go.Proofs.Ytpcocfdgcihpdaa.rdw
