/-
  SimReckons ANSWERS TRUE IN EVERY WORLD, for all numbers: the evaluator (EngA to EngZ) runs it with numbers that are not worked out; the kernel checks the run.
-/
import Derived.Test.YtpcocfdgcihpdaaRows
import Derived.Test.YtpcocfdgcihpdaaSimReckonsOk
import Derived.Test.YtpcocfdgcihpdaaREngU
import Derived.WalkKit
import Derived.ProofKit
import Derived.OpenShut
namespace Go.Proofs.Ytpcocfdgcihpdaa.simReckons
open Go.ChangeShapes Go.WideShapes Go.ChangeAt Go.RowKit
set_option linter.unusedVariables false      -- a walk need not use every 'w<i>' (that an integer argument fits its kind)

theorem own : ownKnob Try.prog.godebug = none := by kernel_rfl

open Go.Proofs.YtpcocfdgcihpdaaR
/-! ### the walk -/
theorem answers {c d : Nat} (a b : Int) (w : World) (hrun : Eng.fcallOf (β := Eng.AV) Try.prog (Eng.fexec Try.prog 1000000) 4 [.sint .i32 a c, .sint .i32 b d] Eng.f5 Eng.b0 (fun v _ _ => some v) = some (.bool true)) :
    Calls Try.prog 4 #[.int .i32 a, .int .i32 b] w fun e w' => e = .returned (.bool true) ∧ Below w.heap.size w w' := by
  refine (Eng.calledF 1000000 4 _ _ _ hrun w #[.int .i32 a, .int .i32 b] (by simp [Eng.VRels, Eng.VRel])).mono fun e w' h => ?_
  obtain ⟨⟨v, h', x', cv, μ', h1, rfl, h2, _⟩, hb⟩ := h
  injection h1 with h1
  subst h1
  simp only [Eng.VRel] at h2
  subst h2
  exact ⟨rfl, hb⟩
theorem walk (a0 : Int) (a1 : Int) (w0 : (Lit.int .i32 a0).wf = true) (w1 : (Lit.int .i32 a1).wf = true) (w : World) :
    Calls Try.prog 4 #[.int .i32 a0, .int .i32 a1] w fun e w' => e = .returned (.bool true) ∧ Below w.heap.size w w' := by
  unfold Lit.wf at w0 w1
  rw [Bool.and_eq_true, decide_eq_true_eq, decide_eq_true_eq] at w0 w1
  have ha : -2147483648 ≤ a0 ∧ a0 ≤ 2147483647 := w0
  have hb : -2147483648 ≤ a1 ∧ a1 ≤ 2147483647 := w1
  by_cases hz : a1 = 0
  · exact answers a0 a1 w ((run4 a0 a1).trans (ok4 a0 a1 ha hb hz))
  by_cases hn : a0 < 0
  · obtain ⟨c, rfl⟩ : ∃ c, a0 = -c := ⟨-a0, by omega⟩
    by_cases hm : a1 < 0
    · obtain ⟨d, rfl⟩ : ∃ d, a1 = -d := ⟨-a1, by omega⟩
      by_cases hs : c = 2147483648 ∧ d = 1
      · exact answers _ _ w ((run9 _ _).trans (ok9 c d ha hb hs.1 hs.2))
      · exact answers _ _ w ((run8 _ _).trans (ok8 c d ha hb (by omega) (by omega) (by omega)))
    · exact answers _ _ w ((run6 _ _).trans (ok6 c a1 ha hb (by omega) (by omega)))
  · by_cases hm : a1 < 0
    · obtain ⟨d, rfl⟩ : ∃ d, a1 = -d := ⟨-a1, by omega⟩
      exact answers _ _ w ((run7 _ _).trans (ok7 a0 d ha hb (by omega) (by omega)))
    · exact answers _ _ w ((run5 _ _).trans (ok5 a0 a1 ha hb (by omega) (by omega)))

/-! ### THE ROW's STEP: WRITTEN OUT: LEAVE IT -/
set_option maxRecDepth 100000 in
theorem lifted (os : Os) (started : os.Started) (H : Type) (enc : TypeId × Value → H) :
    ReturnsInHanded {} Try.checked os 4 .any (Rows.simReckonsSpec.pre6 enc Try.prog Try.f4 Rows.simReckonsRow.domain false) (Rows.simReckonsSpec.post enc Try.prog Try.f4 false true false false) := by
  refine returnsInHanded_of_change (C := Try.checked) own started (by kernel_rfl) Try.func4
    (ChangeSpec.witness6 (enc := enc) (C := Try.checked) false ⟨#[], #[.int .i32 0, .int .i32 0], []⟩ 8 (by kernel_rfl) (by kernel_rfl) (by kernel_rfl) (by kernel_rfl)) ?_
  intro W base args ds gs before hval0 hW hcnd _
  have hval : ∀ (j : Nat) t v, Try.f4.params[j]? = some t → args[j]? = some v → Value.okWide Try.prog W .any base t v := hval0
  have hW' := hW
  obtain ⟨p, q, hA0, hV, rfl, hfz, hnd⟩ := hW
  have hA : DataW.TrodAll enc Try.prog W 0 (fun _ => true) true Try.f4.params.toList args.toList ds p := hA0
  rw [Try.params4] at hA hval
  obtain ⟨v0, vs0, d0, ds0, p0, q0, hargs, rfl, rfl, h0, r0⟩ := trodAll_cons hA
  obtain ⟨v1, vs1, d1, ds1, p1, q1, rfl, rfl, rfl, h1, r1⟩ := trodAll_cons r0
  obtain ⟨rfl, rfl, rfl⟩ := trodAll_nil r1
  obtain rfl : args = #[v0, v1] := by cases args; simp_all
  obtain ⟨rfl, rfl⟩ := trodVars_none hV
  obtain ⟨a0, rfl, rfl, rfl, w0⟩ := open_int Try.underlying21 (hval 0 21 v0 rfl rfl) h0
  obtain ⟨a1, rfl, rfl, rfl, w1⟩ := open_int Try.underlying21 (hval 1 21 v1 rfl rfl) h1
  clear hA0 hval0
  simp only [List.append_nil] at hW'
  refine (walk a0 a1 w0 w1 W).mono fun e W' ⟨he, hg⟩ => ?_
  subst he
  exact ⟨_, rfl, YtpcocfdgcihpdaaR.Eng.post_closed hW' (fun _ _ _ => (trodAll_cons_mk (shut_bool Try.underlying4 _) trodAll_mk0)) (fun sp => (trodAll_cons_mk (shut_int Try.underlying21 w0) (trodAll_cons_mk (shut_int Try.underlying21 w1) trodAll_mk0))) (fun _ => rfl) hg
    (ok_one (by kernel_rfl) rfl (okWide_bool_mk Try.underlying4 _))⟩

theorem over : Rows.simReckonsRow.holds Try.pinned (OpenSpec.ofChange Rows.simReckonsSpec) :=
  OpenClaim.holds_of_wide 4 Try.f4 rfl rfl rfl rfl rfl rfl rfl ⟨rfl, rfl, rfl, rfl, rfl⟩ rfl rfl rfl rfl rfl (by kernel_rfl) Try.func4 (by kernel_rfl)
    (of_decide_eq_true (by kernel_rfl)) (by unfold Func.isWrapper; first | (rw [if_pos (by decide +kernel)]; kernel_rfl) | (rw [if_neg (by decide +kernel)]; exact ⟨rfl, rfl⟩))
    (fun os started H enc _ => lifted os started H enc)

/-- ████ THE STATEMENT ████ -/
theorem proved : Rows.SimReckonsSaid :=
  over
#print axioms proved
end Go.Proofs.Ytpcocfdgcihpdaa.simReckons
