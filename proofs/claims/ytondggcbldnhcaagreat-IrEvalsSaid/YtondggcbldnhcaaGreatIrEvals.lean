/-
  IrEvals ANSWERS TRUE for every Func, arguments and Polls: ir.Check, ir.Eval and the document's own walked by the kit's tactics against one plain evaluator.
-/
import Derived.Test.YtondggcbldnhcaaGreatRows
import Derived.Test.YtondggcbldnhcaaGreatIrL3
import Derived.Test.YtondggcbldnhcaaGreatIrArgI
import Derived.WalkKit
import Derived.ProofKit
import Derived.OpenShut
namespace Go.Proofs.YtondggcbldnhcaaGreat.irEvals
open Go.ChangeShapes Go.WideShapes Go.ChangeAt Go.RowKit
open Go.Proofs.YtondggcbldnhcaaGreat.irx
set_option linter.unusedVariables false
set_option linter.unusedSimpArgs false

theorem walk (P R : Int) (cad : Option Addr) (len cap : Nat) (op ds a b n to : Nat → Int) (aad : Option Addr) (acap : Nat) (args : List Int) (polls : Int) (w : World) (hlc : len ≤ cap) (hN : ∀ i, I32 (n i))
    (hc : ∀ l, l ≤ len → Code_ w w.heap.size cad ⟨P, R, l, op, ds, a, b, n, to⟩) (hd : 0 < len → ∃ cb off, cad = some ⟨cb, off, none⟩) (ha : ArgsX w w.heap.size aad args) (hac : args.length ≤ acap) (hnone : aad = none → args.length = 0 ∧ acap = 0) (haI : ∀ x ∈ args, I32 x) :
    Calls Tryz.prog 3 #[fval P R cad len cap, .slice aad args.length acap, .int .i64 polls] w fun e w' => e = .returned (.bool true) ∧ Below w.heap.size w w' := by
  by_cases hl : len ≤ 60
  · exact law3 P R len len op ds a b n to cad cap aad acap args polls w hl (fun w => few5 P R cad len cap hl w) hN (hc len (Nat.le_refl _)) ha hac hnone haI
  · obtain ⟨cb, off, rfl⟩ := hd (by omega)
    exact law3 P R 60 len op ds a b n to (some ⟨cb, off, none⟩) cap aad acap args polls w (Nat.le_refl _) (fun w => few5b P R cb off len cap (by omega) hlc w) hN (hc 60 (by omega)) ha hac hnone haI

set_option maxRecDepth 100000 in
theorem lifted (os : Os) (started : os.Started) (H : Type) (enc : TypeId × Value → H) :
    ReturnsInHanded {} Tryz.checked os 3 .any (Rows.irEvalsSpec.pre6 enc Tryz.prog Tryz.f3 Rows.irEvalsRow.domain false) (Rows.irEvalsSpec.post enc Tryz.prog Tryz.f3 false true false false) := by
  refine returnsInHanded_of_change (C := Tryz.checked) own started (by kernel_rfl) Tryz.func3
    (ChangeSpec.witness6 (enc := enc) (C := Tryz.checked) false ⟨#[], #[.agg #[.int .i64 0, .int .i64 0, .slice none 0 0], .slice none 0 0, .int .i64 0], []⟩ 8 (by kernel_rfl) (by kernel_rfl) (by kernel_rfl) (by kernel_rfl)) ?_
  intro W base args ds gs before hval0 hW hcnd _
  have hval : ∀ (j : Nat) t v, Tryz.f3.params[j]? = some t → args[j]? = some v → Value.okWide Tryz.prog W .any base t v := hval0
  have hW' := hW
  obtain ⟨p, q, hA0, hV, rfl, hfz, hnd⟩ := hW
  have hA : DataW.TrodAll enc Tryz.prog W 0 (fun _ => true) true Tryz.f3.params.toList args.toList ds p := hA0
  rw [Tryz.params3] at hA hval
  obtain ⟨v0, vs0, d0, ds0, p0, q0, hargs, rfl, rfl, h0, r0⟩ := trodAll_cons hA
  obtain ⟨v1, vs1, d1, ds1, p1, q1, rfl, rfl, rfl, h1, r1⟩ := trodAll_cons r0
  obtain ⟨v2, vs2, d2, ds2, p2, q2, rfl, rfl, rfl, h2, r2⟩ := trodAll_cons r1
  obtain ⟨rfl, rfl, rfl⟩ := trodAll_nil r2
  obtain rfl : args = #[v0, v1, v2] := by cases args; simp_all
  obtain ⟨rfl, rfl⟩ := trodVars_none hV
  have h0k := h0
  have h1k := h1
  obtain ⟨a2, rfl, rfl, rfl, w2⟩ := open_int Tryz.underlying3 (hval 2 3 v2 rfl rfl) h2
  obtain ⟨x0, x1, x2, y0, y1, y2, k, rfl, rfl, hp, g0, g1, g2⟩ := Go.Joins.open_agg3 Tryz.underlying24 (by kernel_rfl) cells24 (hval 0 24 v0 rfl rfl) h0
  obtain ⟨P, e0, _⟩ := DataW.trod_int Tryz.underlying3 g0
  obtain ⟨R, e1, _⟩ := DataW.trod_int Tryz.underlying3 g1
  injection e0 with e0 _
  injection e1 with e1 _
  subst e0 e1
  obtain ⟨cad, len, cap, op, dd, a, b, n, to, rfl, hlc, hN, hc, hd⟩ := code_argI P R g2
  obtain ⟨sad, slen, scap, rfl⟩ := okWide_slice Tryz.underlying25 (hval 1 25 v1 rfl rfl)
  obtain ⟨fuel, hf⟩ := h1
  obtain ⟨aad, acap, args, ha0, ha, hac, hnone, haI⟩ := args_argI hf
  injection ha0 with e1 e2 e3
  subst e1 e2 e3
  have hlt0 : ∀ x ∈ p0, x.block < W.heap.size := fun x hx => by simpa using hW'.lt x (by simp [hx])
  have hlt1 : ∀ x ∈ p1, x.block < W.heap.size := fun x hx => by simpa using hW'.lt x (by simp [hx])
  clear hA0 hval0
  refine (walk P R cad len cap op dd a b n to sad scap args a2 W hlc hN hc hd ha hac hnone haI).mono fun e W' ⟨he, hnx⟩ => ?_
  subst he
  refine ⟨_, rfl, _, _, _, [], p0 ++ (p1 ++ ([] ++ [])), [], hW', ?_, ?_, rfl, hnx.frame _, fun h => by cases h⟩
  · exact trodAll_cons_mk (shut_bool Tryz.underlying4 _) trodAll_mk0
  · exact trodAll_cons_mk (Below.trod laidOut (by kernel_rfl) (of_decide_eq_true (by kernel_rfl)) h0k hnx hlt0) (trodAll_cons_mk (Below.trod laidOut (by kernel_rfl) (of_decide_eq_true (by kernel_rfl)) h1k hnx hlt1) (trodAll_cons_mk (shut_int Tryz.underlying3 w2) trodAll_mk0))

theorem over : Rows.irEvalsRow.holds Tryz.pinned (OpenSpec.ofChange Rows.irEvalsSpec) :=
  OpenClaim.holds_of_wide 3 Tryz.f3 rfl rfl rfl rfl rfl rfl rfl ⟨rfl, rfl, rfl, rfl, rfl⟩ rfl rfl rfl rfl rfl (by kernel_rfl) Tryz.func3 (by kernel_rfl)
    (of_decide_eq_true (by kernel_rfl)) (by unfold Func.isWrapper; first | (rw [if_pos (by decide +kernel)]; kernel_rfl) | (rw [if_neg (by decide +kernel)]; exact ⟨rfl, rfl⟩))
    (fun os started H enc _ => lifted os started H enc)

/-- ████ THE STATEMENT ████ -/
theorem proved : Rows.IrEvalsSaid :=
  over
#print axioms proved
end Go.Proofs.YtondggcbldnhcaaGreat.irEvals
