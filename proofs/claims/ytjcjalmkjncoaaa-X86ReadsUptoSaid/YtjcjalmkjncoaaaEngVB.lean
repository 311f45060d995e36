/-
  THE ENGINE, PART VB: a call out of the piece that its body is.
-/
import Derived.Test.YtjcjalmkjncoaaaEngV
import Derived.Test.YtjcjalmkjncoaaaEngW
namespace Go.Proofs.Ytjcjalmkjncoaaa.Eng
open Go
set_option linter.unusedVariables false
set_option linter.unusedSimpArgs false
section
variable {P : Program}
/-- what is handed in, in the first slots -/
def actOf (n : Nat) (args : Array Value) : Act := { tmps := args ++ Array.replicate (n - args.size) undef, defers := [] }
theorem piece_call {γ : Type} {f : Nat} {fn : Func} {c : Code} {rs : List RV} {S0 SR : Ck} {e0 : Ex} (hfn : P.funcs[f]? = some fn) (hb : fn.body = some c) (hN : fn.ntmps ≤ 512) (hrs : compRes P fn.ntmps fn.results.toList = some rs)
    (hp : Piece P fn.ntmps c S0 e0 SR) (he : e0 = .ret ∨ e0 = .nrm) {k : List AV → Option γ} {r : γ} (hk : resK rs (tmOf SR.ts) (hpOf SR.hs) k = some r)
    (μ : Inj) (w : World) (args : Array Value) (hr : HR μ (hpOf S0.hs).get w) (ha : TRel μ fn.ntmps (tmOf S0.ts) (actOf fn.ntmps args)) :
    Calls P f args w fun e w' => ∃ vs2 vals μ', k vs2 = some r ∧ VRels μ' vs2 vals ∧ e = .returned (oneV vals.toArray) ∧ HR μ' (hpOf SR.hs).get w' ∧ Fr μ (hpOf S0.hs).get w μ' (hpOf SR.hs).get w' := by
  refine calls_of_wp hfn hb ?_
  refine hp μ (actOf fn.ntmps args) w _ ⟨ha, hr, rfl⟩ fun a' w' μ' hs' hf => ?_
  obtain ⟨vs2, vals, q1, q2, q3⟩ := resK_ok hN hs' _ _ hrs _ hk
  rcases he with rfl | rfl
  · exact ⟨hs'.df, _, run_results q3, vs2, vals, μ', q1, q2, rfl, hs'.hp, hf⟩
  · exact ⟨hs'.df, _, run_results q3, vs2, vals, μ', q1, q2, rfl, hs'.hp, hf⟩
/-- the same, the number of slots told beside -/
theorem piece_callN {γ : Type} {N f : Nat} {fn : Func} {c : Code} {rs : List RV} {S0 SR : Ck} {e0 : Ex} (hfn : P.funcs[f]? = some fn) (hb : fn.body = some c) (hn : fn.ntmps = N) (hN : N ≤ 512) (hrs : compRes P N fn.results.toList = some rs)
    (hp : Piece P N c S0 e0 SR) (he : e0 = .ret ∨ e0 = .nrm) {k : List AV → Option γ} {r : γ} (hk : resK rs (tmOf SR.ts) (hpOf SR.hs) k = some r)
    (μ : Inj) (w : World) (args : Array Value) (hr : HR μ (hpOf S0.hs).get w) (ha : TRel μ N (tmOf S0.ts) (actOf N args)) :
    Calls P f args w fun e w' => ∃ vs2 vals μ', k vs2 = some r ∧ VRels μ' vs2 vals ∧ e = .returned (oneV vals.toArray) ∧ HR μ' (hpOf SR.hs).get w' ∧ Fr μ (hpOf S0.hs).get w μ' (hpOf SR.hs).get w' := by
  subst hn
  exact piece_call hfn hb hN hrs hp he hk μ w args hr ha
end
end Go.Proofs.Ytjcjalmkjncoaaa.Eng
