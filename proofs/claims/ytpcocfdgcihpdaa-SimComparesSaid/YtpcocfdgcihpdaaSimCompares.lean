/-
  SimCompares ANSWERS TRUE IN EVERY WORLD, for all numbers: the evaluator (EngA to EngZ) runs it with numbers that are not worked out; the kernel checks the run.
-/
import Derived.Test.YtpcocfdgcihpdaaRows
import Derived.Test.YtpcocfdgcihpdaaSimComparesRun
import Derived.Test.YtpcocfdgcihpdaaEngU
import Derived.IntWalk
import Derived.WalkKit
import Derived.ProofKit
import Derived.OpenShut
namespace Go.Proofs.Ytpcocfdgcihpdaa.simCompares
open Go.ChangeShapes Go.WideShapes Go.ChangeAt Go.RowKit
set_option linter.unusedVariables false      -- a walk need not use every 'w<i>' (that an integer argument fits its kind)

theorem own : ownKnob Try.prog.godebug = none := by kernel_rfl

set_option linter.unusedSimpArgs false
set_option linter.unusedVariables false
/-! ### the truths -/
theorem w32 (n : Int) (h : -4294967296 ≤ n ∧ n ≤ 4294967295) : (IntKind.i32.wrap n = n ∧ -2147483648 ≤ n ∧ n ≤ 2147483647) ∨ (IntKind.i32.wrap n = n + 4294967296 ∧ n < -2147483648) ∨ (IntKind.i32.wrap n = n - 4294967296 ∧ 2147483647 < n) := by
  rw [IntKind.wrap_i32]; omega
theorem ok1 (a b : Int) (ha : -2147483648 ≤ a ∧ a ≤ 2147483647) (hb : -2147483648 ≤ b ∧ b ≤ 2147483647) (h : a < b) : Eng.chainOK (conds1 a b) := by
  have e1 : IntKind.i64.wrap a = a := IntWalk.i64_in _ (by omega)
  have e2 : IntKind.i64.wrap b = b := IntWalk.i64_in _ (by omega)
  have e3 : IntKind.i64.wrap (a - b) = a - b := IntWalk.i64_in _ (by omega)
  have hV := w32 (a - b) (by omega)
  unfold conds1
  simp only [e1, e2, e3]
  generalize IntKind.i32.wrap (a - b) = V at hV ⊢
  have e4 : IntKind.i64.wrap V = V := IntWalk.i64_in _ (by omega)
  have d1 : decide (a = b) = false := decide_eq_false (by omega)
  have d2 : decide (a < b) = true := decide_eq_true h
  have d3 : decide (b ≤ a) = false := decide_eq_false (by omega)
  have d4 : decide (a ≤ b) = true := decide_eq_true (by omega)
  have d5 : decide (b < a) = false := decide_eq_false (by omega)
  have d6 : decide (V = 0) = false := decide_eq_false (by omega)
  rcases hV with ⟨q, h5⟩ | ⟨q, h5⟩ | ⟨q, h5⟩
  · have d7 : decide (V < 0) = true := decide_eq_true (by omega)
    have d8 : decide (a - b = V) = true := decide_eq_true (by omega)
    simp only [e4, d1, d2, d3, d4, d5, d6, d7, d8, Eng.chainOK, decide_true, Bool.not_true, Bool.not_false, beq_self_eq_true, and_self, and_true, true_and]
    try decide
  · have d7 : decide (V < 0) = false := decide_eq_false (by omega)
    have d8 : decide (a - b = V) = false := decide_eq_false (by omega)
    simp only [e4, d1, d2, d3, d4, d5, d6, d7, d8, Eng.chainOK, decide_true, Bool.not_true, Bool.not_false, beq_self_eq_true, and_self, and_true, true_and]
    try decide
  · omega
theorem ok2 (a b : Int) (ha : -2147483648 ≤ a ∧ a ≤ 2147483647) (hb : -2147483648 ≤ b ∧ b ≤ 2147483647) (h : a = b) : Eng.chainOK (conds2 a b) := by
  have e1 : IntKind.i64.wrap a = a := IntWalk.i64_in _ (by omega)
  have e2 : IntKind.i64.wrap b = b := IntWalk.i64_in _ (by omega)
  have e3 : IntKind.i64.wrap (a - b) = a - b := IntWalk.i64_in _ (by omega)
  have hV := w32 (a - b) (by omega)
  unfold conds2
  simp only [e1, e2, e3]
  generalize IntKind.i32.wrap (a - b) = V at hV ⊢
  have e4 : IntKind.i64.wrap V = V := IntWalk.i64_in _ (by omega)
  have d1 : decide (a = b) = true := decide_eq_true (by omega)
  have d2 : decide (a < b) = false := decide_eq_false (by omega)
  have d3 : decide (b ≤ a) = true := decide_eq_true (by omega)
  have d4 : decide (a ≤ b) = true := decide_eq_true (by omega)
  have d5 : decide (b < a) = false := decide_eq_false (by omega)
  have d6 : decide (V = 0) = true := decide_eq_true (by omega)
  have d7 : decide (V < 0) = false := decide_eq_false (by omega)
  have d8 : decide (a - b = V) = true := decide_eq_true (by omega)
  simp only [e4, d1, d2, d3, d4, d5, d6, d7, d8, Eng.chainOK, decide_true, Bool.not_true, Bool.not_false, beq_self_eq_true, and_self, and_true, true_and]
  try decide
theorem ok3 (a b : Int) (ha : -2147483648 ≤ a ∧ a ≤ 2147483647) (hb : -2147483648 ≤ b ∧ b ≤ 2147483647) (h : b < a) : Eng.chainOK (conds3 a b) := by
  have e1 : IntKind.i64.wrap a = a := IntWalk.i64_in _ (by omega)
  have e2 : IntKind.i64.wrap b = b := IntWalk.i64_in _ (by omega)
  have e3 : IntKind.i64.wrap (a - b) = a - b := IntWalk.i64_in _ (by omega)
  have hV := w32 (a - b) (by omega)
  unfold conds3
  simp only [e1, e2, e3]
  generalize IntKind.i32.wrap (a - b) = V at hV ⊢
  have e4 : IntKind.i64.wrap V = V := IntWalk.i64_in _ (by omega)
  have d1 : decide (a = b) = false := decide_eq_false (by omega)
  have d2 : decide (a < b) = false := decide_eq_false (by omega)
  have d3 : decide (b ≤ a) = true := decide_eq_true (by omega)
  have d4 : decide (a ≤ b) = false := decide_eq_false (by omega)
  have d5 : decide (b < a) = true := decide_eq_true (by omega)
  have d6 : decide (V = 0) = false := decide_eq_false (by omega)
  rcases hV with ⟨q, h5⟩ | ⟨q, h5⟩ | ⟨q, h5⟩
  · have d7 : decide (V < 0) = false := decide_eq_false (by omega)
    have d8 : decide (a - b = V) = true := decide_eq_true (by omega)
    simp only [e4, d1, d2, d3, d4, d5, d6, d7, d8, Eng.chainOK, decide_true, Bool.not_true, Bool.not_false, beq_self_eq_true, and_self, and_true, true_and]
    try decide
  · omega
  · have d7 : decide (V < 0) = true := decide_eq_true (by omega)
    have d8 : decide (a - b = V) = false := decide_eq_false (by omega)
    simp only [e4, d1, d2, d3, d4, d5, d6, d7, d8, Eng.chainOK, decide_true, Bool.not_true, Bool.not_false, beq_self_eq_true, and_self, and_true, true_and]
    try decide

/-! ### the walk -/
theorem answers {c d : Nat} (a b : Int) (w : World) (hrun : Eng.fcallOf (β := Eng.AV) Try.prog (Eng.fexec Try.prog 1000000) 3 [.sint .i32 a c, .sint .i32 b d] Eng.f5 Eng.b0 (fun v _ _ => some v) = some (.bool true)) :
    Calls Try.prog 3 #[.int .i32 a, .int .i32 b] w fun e w' => e = .returned (.bool true) ∧ Below w.heap.size w w' := by
  refine (Eng.calledF 1000000 3 _ _ _ hrun w #[.int .i32 a, .int .i32 b] (by simp [Eng.VRels, Eng.VRel])).mono fun e w' h => ?_
  obtain ⟨⟨v, h', x', cv, μ', h1, rfl, h2, _⟩, hb⟩ := h
  injection h1 with h1
  subst h1
  simp only [Eng.VRel] at h2
  subst h2
  exact ⟨rfl, hb⟩
theorem walk (a0 : Int) (a1 : Int) (w0 : (Lit.int .i32 a0).wf = true) (w1 : (Lit.int .i32 a1).wf = true) (w : World) :
    Calls Try.prog 3 #[.int .i32 a0, .int .i32 a1] w fun e w' => e = .returned (.bool true) ∧ Below w.heap.size w w' := by
  unfold Lit.wf at w0 w1
  rw [Bool.and_eq_true, decide_eq_true_eq, decide_eq_true_eq] at w0 w1
  have ha : -2147483648 ≤ a0 ∧ a0 ≤ 2147483647 := w0
  have hb : -2147483648 ≤ a1 ∧ a1 ≤ 2147483647 := w1
  rcases Int.lt_trichotomy a0 a1 with h | h | h
  · exact answers a0 a1 w ((run1 a0 a1).trans (Eng.chain_ok _ (ok1 a0 a1 ha hb h)))
  · exact answers a0 a1 w ((run2 a0 a1).trans (Eng.chain_ok _ (ok2 a0 a1 ha hb h)))
  · exact answers a0 a1 w ((run3 a0 a1).trans (Eng.chain_ok _ (ok3 a0 a1 ha hb h)))

/-! ### THE ROW's STEP: WRITTEN OUT: LEAVE IT -/
set_option maxRecDepth 100000 in
theorem lifted (os : Os) (started : os.Started) (H : Type) (enc : TypeId × Value → H) :
    ReturnsInHanded {} Try.checked os 3 .any (Rows.simComparesSpec.pre6 enc Try.prog Try.f3 Rows.simComparesRow.domain false) (Rows.simComparesSpec.post enc Try.prog Try.f3 false true false false) := by
  refine returnsInHanded_of_change (C := Try.checked) own started (by kernel_rfl) Try.func3
    (ChangeSpec.witness6 (enc := enc) (C := Try.checked) false ⟨#[], #[.int .i32 0, .int .i32 0], []⟩ 8 (by kernel_rfl) (by kernel_rfl) (by kernel_rfl) (by kernel_rfl)) ?_
  intro W base args ds gs before hval0 hW hcnd _
  have hval : ∀ (j : Nat) t v, Try.f3.params[j]? = some t → args[j]? = some v → Value.okWide Try.prog W .any base t v := hval0
  have hW' := hW
  obtain ⟨p, q, hA0, hV, rfl, hfz, hnd⟩ := hW
  have hA : DataW.TrodAll enc Try.prog W 0 (fun _ => true) true Try.f3.params.toList args.toList ds p := hA0
  rw [Try.params3] at hA hval
  obtain ⟨v0, vs0, d0, ds0, p0, q0, hargs, rfl, rfl, h0, r0⟩ := trodAll_cons hA
  obtain ⟨v1, vs1, d1, ds1, p1, q1, rfl, rfl, rfl, h1, r1⟩ := trodAll_cons r0
  obtain ⟨rfl, rfl, rfl⟩ := trodAll_nil r1
  obtain rfl : args = #[v0, v1] := by cases args; simp_all
  obtain ⟨rfl, rfl⟩ := trodVars_none hV
  obtain ⟨a0, rfl, rfl, rfl, w0⟩ := open_int Try.underlying21 (hval 0 21 v0 rfl rfl) h0
  obtain ⟨a1, rfl, rfl, rfl, w1⟩ := open_int Try.underlying21 (hval 1 21 v1 rfl rfl) h1
  clear hA0 hval0
  simp only [List.append_nil] at hW'
  refine (walk a0 a1 w0 w1 W).mono fun e W' ⟨he, hg⟩ => ?_
  subst he
  exact ⟨_, rfl, Eng.post_closed hW' (fun _ _ _ => (trodAll_cons_mk (shut_bool Try.underlying4 _) trodAll_mk0)) (fun sp => (trodAll_cons_mk (shut_int Try.underlying21 w0) (trodAll_cons_mk (shut_int Try.underlying21 w1) trodAll_mk0))) (fun _ => rfl) hg
    (ok_one (by kernel_rfl) rfl (okWide_bool_mk Try.underlying4 _))⟩

theorem over : Rows.simComparesRow.holds Try.pinned (OpenSpec.ofChange Rows.simComparesSpec) :=
  OpenClaim.holds_of_wide 3 Try.f3 rfl rfl rfl rfl rfl rfl rfl ⟨rfl, rfl, rfl, rfl, rfl⟩ rfl rfl rfl rfl rfl (by kernel_rfl) Try.func3 (by kernel_rfl)
    (of_decide_eq_true (by kernel_rfl)) (by unfold Func.isWrapper; first | (rw [if_pos (by decide +kernel)]; kernel_rfl) | (rw [if_neg (by decide +kernel)]; exact ⟨rfl, rfl⟩))
    (fun os started H enc _ => lifted os started H enc)

/-- ████ THE STATEMENT ████ -/
theorem proved : Rows.SimComparesSaid :=
  over
#print axioms proved
end Go.Proofs.Ytpcocfdgcihpdaa.simCompares
