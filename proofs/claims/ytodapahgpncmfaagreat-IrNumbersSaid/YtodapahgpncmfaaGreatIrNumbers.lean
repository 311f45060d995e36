/-
  IrNumbers ANSWERS TRUE IN EVERY WORLD: the evaluator (EngA to EngT, quick: EngX, EngY) runs it once in the kernel; what it answers, the call answers.
-/
import Derived.Test.YtodapahgpncmfaaGreatRows
import Derived.Test.YtodapahgpncmfaaGreatEngY
import Derived.Test.YtodapahgpncmfaaGreatEngU
import Derived.KernelRfl
import Derived.WalkKit
import Derived.ProofKit
import Derived.OpenShut
namespace Go.Proofs.YtodapahgpncmfaaGreat.irNumbers
open Go.ChangeShapes Go.WideShapes Go.ChangeAt Go.RowKit
set_option linter.unusedVariables false      -- a walk need not use every 'w<i>' (that an integer argument fits its kind)

theorem own : ownKnob Tryz.prog.godebug = none := by kernel_rfl

/-! ### the run -/
set_option maxHeartbeats 4000000 in
set_option maxRecDepth 1000000 in
theorem ran : Eng.fcallOf (β := Eng.AV) Tryz.prog (Eng.fexec Tryz.prog 1000000) 4 [] Eng.f5 Eng.b0 (fun v _ _ => some v) = some (.bool true) := by kernel_rfl
theorem walk (w : World) : Calls Tryz.prog 4 #[] w fun e w' => e = .returned (.bool true) ∧ Below w.heap.size w w' := by
  refine (Eng.closedF 1000000 4 _ ran w).mono fun e w' h => ?_
  obtain ⟨⟨cv, μ', rfl, hv⟩, hb⟩ := h
  simp only [Eng.VRel] at hv
  subst hv
  exact ⟨rfl, hb⟩

/-! ### THE ROW's STEP: WRITTEN OUT: LEAVE IT -/
set_option maxRecDepth 100000 in
theorem lifted (os : Os) (started : os.Started) (H : Type) (enc : TypeId × Value → H) :
    ReturnsInHanded {} Tryz.checked os 4 .any (Rows.irNumbersSpec.pre6 enc Tryz.prog Tryz.f4 Rows.irNumbersRow.domain false) (Rows.irNumbersSpec.post enc Tryz.prog Tryz.f4 false true false false) := by
  refine returnsInHanded_of_change (C := Tryz.checked) own started (by kernel_rfl) Tryz.func4
    (ChangeSpec.witness6 (enc := enc) (C := Tryz.checked) false ⟨#[], #[], []⟩ 8 (by kernel_rfl) (by kernel_rfl) (by kernel_rfl) (by kernel_rfl)) ?_
  intro W base args ds gs before hval0 hW hcnd _
  have hval : ∀ (j : Nat) t v, Tryz.f4.params[j]? = some t → args[j]? = some v → Value.okWide Tryz.prog W .any base t v := hval0
  have hW' := hW
  obtain ⟨p, q, hA0, hV, rfl, hfz, hnd⟩ := hW
  have hA : DataW.TrodAll enc Tryz.prog W 0 (fun _ => true) true Tryz.f4.params.toList args.toList ds p := hA0
  rw [Tryz.params4] at hA hval
  obtain ⟨rfl, rfl, rfl⟩ := trodAll_none hA
  obtain ⟨rfl, rfl⟩ := trodVars_none hV
  clear hA0 hval0
  simp only [List.append_nil] at hW'
  refine (walk  W).mono fun e W' ⟨he, hg⟩ => ?_
  subst he
  exact ⟨_, rfl, Eng.post_closed hW' (fun _ _ _ => (trodAll_cons_mk (shut_bool Tryz.underlying4 _) trodAll_mk0)) (fun _ => rfl) (fun _ => rfl) hg
    (ok_one (by kernel_rfl) rfl (okWide_bool_mk Tryz.underlying4 _))⟩

theorem over : Rows.irNumbersRow.holds Tryz.pinned (OpenSpec.ofChange Rows.irNumbersSpec) :=
  OpenClaim.holds_of_wide 4 Tryz.f4 rfl rfl rfl rfl rfl rfl rfl ⟨rfl, rfl, rfl, rfl, rfl⟩ rfl rfl rfl rfl rfl (by kernel_rfl) Tryz.func4 (by kernel_rfl)
    (of_decide_eq_true (by kernel_rfl)) (by unfold Func.isWrapper; first | (rw [if_pos (by decide +kernel)]; kernel_rfl) | (rw [if_neg (by decide +kernel)]; exact ⟨rfl, rfl⟩))
    (fun os started H enc _ => lifted os started H enc)

/-- ████ THE STATEMENT ████ -/
theorem proved : Rows.IrNumbersSaid :=
  over
#print axioms proved
end Go.Proofs.YtodapahgpncmfaaGreat.irNumbers
