/-
  X86Lengths RUNS TO TRUE for all numbers: the contracts of Encode, Within and known stand in.
-/
import Derived.Test.YtjcjalmkjncoaaaX86Len
namespace Go.Proofs.Ytjcjalmkjncoaaa.x86enc
open Go Go.RowKit
open Go.Proofs.Ytjcjalmkjncoaaa
set_option maxRecDepth 1000000
set_option linter.unusedVariables false
set_option linter.unusedSimpArgs false
theorem tab3 {β : Type} : Eng.TabOK (β := β) Try.prog T3 := by
  intro call hcall f vs h x k r μ w args hr hv hk
  unfold T3 at hk
  split at hk
  · rename_i hf
    rw [Nat.beq_eq] at hf
    subst hf
    refine ⟨Try.f8, Try.func8, by decide +kernel, by kernel_rfl, ?_⟩
    unfold withinT at hk
    split at hk
    · rename_i a g
      obtain ⟨j, _, hj, hk'⟩ := Eng.forkI_ok hk
      have he : args = #[.int .i64 a, .int .i64 0, .int .i64 13] := by
        simp only [Eng.VRels, Eng.VRel] at hv
        obtain ⟨v0, r0, h0, rfl, v1, r1, rfl, rfl, v2, r2, rfl, rfl, rfl⟩ := hv
        exact Array.toList_inj.1 (by simpa using h0)
      subst he
      refine (within_call a w).mono fun e w' hh => ?_
      obtain ⟨rfl, hb⟩ := hh
      obtain ⟨p1, p2⟩ := plain_ok hr hb
      exact ⟨_, h, x, _, μ, hk', rfl, by simp only [Eng.VRel]; rw [hj]; rfl, p1, p2⟩
    · cases hk
  · split at hk
    · rename_i hf
      rw [Nat.beq_eq] at hf
      subst hf
      refine ⟨Try.f10, Try.func10, by decide +kernel, by kernel_rfl, ?_⟩
      unfold knownT at hk
      split at hk
      · have he : args = #[] := by
          simp only [Eng.VRels] at hv
          exact Array.toList_inj.1 (by simpa using hv)
        subst he
        refine (known_call w).mono fun e w' hh => ?_
        obtain ⟨rfl, hb⟩ := hh
        obtain ⟨p1, p2⟩ := plain_ok hr hb
        exact ⟨_, h, x, _, μ, hk, rfl, by simp only [Eng.VRel], p1, p2⟩
      · cases hk
    · split at hk
      · rename_i hf
        rw [Nat.beq_eq] at hf
        subst hf
        unfold enc12T at hk
        split at hk
        · rename_i op a b n g
          split at hk
          · rename_i e b0 bs he
            refine ⟨Try.f12, Try.func12, by decide +kernel, by kernel_rfl, ?_⟩
            have hargs : args = #[.agg #[.int .i64 op, .int .i64 a, .int .i64 b, .int .i32 n]] := by
              simp only [Eng.VRels, Eng.VRel] at hv
              obtain ⟨v0, r0, ha, ⟨cs, rfl, v1, r1, hc1, rfl, v2, r2, rfl, rfl, v3, r3, rfl, rfl, v4, r4, rfl, rfl, rfl⟩, rfl⟩ := hv
              have hcs : cs = #[.int .i64 op, .int .i64 a, .int .i64 b, .int .i32 n] := Array.toList_inj.1 (by simpa using hc1)
              subst hcs
              exact Array.toList_inj.1 (by simpa using ha)
            subst hargs
            refine (enc12 op a b n e (b0 :: bs) ((encU_eq op a b n).trans he) w).mono fun en w' hh => ?_
            obtain ⟨⟨cv, rfl, hc⟩, hb⟩ := hh
            obtain ⟨v, h', x', μ', q1, q2, q3, q4⟩ := Eng.resG_ok (fun ν => Eng.rels_sints _) (by simp) hr hk hb hc
            exact ⟨v, h', x', cv, μ', q1, rfl, q2, q3, q4⟩
          · cases hk
        · exact tab call hcall 12 vs h x k r μ w args hr hv hk
      · exact tab2 call hcall f vs h x k r μ w args hr hv hk
set_option maxHeartbeats 4000000 in
theorem len_run (a b n : Int) : Eng.fcallOf (β := Eng.AV) Try.prog (Eng.fexecT Try.prog T3 1000000) 3 [.sint .i64 a 1, .sint .i64 b 2, .sint .i32 n 3] Eng.f5 Eng.b0 (fun v _ _ => some v) = Eng.forkI 1 14 (wth a) fun _ => Eng.forkI 2 14 (wth b) fun _ => some (.bool true) := by kernel_rfl
theorem symFork_zero {β : Type} {g : Nat} {b : Bool} {x y : Option β} (hg : Eng.hintOf g = 0) : Eng.symFork g b x y = match b with | true => x | false => y := by
  unfold Eng.symFork Eng.tagB
  rw [hg]
  cases b <;> rfl
theorem fork_all {β : Type} {g : Nat} {y : Option β} : ∀ (n : Nat) (i : Int), (∀ k, k < n → Eng.hintOf (Eng.tg 61 g k) = 0) → 0 ≤ i → i < (n : Int) → Eng.forkI g n i (fun _ => y) = y
  | 0, i, hg, h0, h1 => by omega
  | n + 1, i, hg, h0, h1 => by
    show Eng.symFork (Eng.tg 61 g n) (decide (i = (n : Int))) y (Eng.forkI g n i fun _ => y) = y
    rw [symFork_zero (hg n (by omega))]
    by_cases e : i = (n : Int)
    · rw [decide_eq_true e]
    · rw [decide_eq_false e]
      exact fork_all n i (fun k hk => hg k (by omega)) h0 (by omega)
theorem len_true (a b n : Int) : Eng.fcallOf (β := Eng.AV) Try.prog (Eng.fexecT Try.prog T3 1000000) 3 [.sint .i64 a 1, .sint .i64 b 2, .sint .i32 n 3] Eng.f5 Eng.b0 (fun v _ _ => some v) = some (.bool true) := by
  rw [len_run, fork_all 14 (wth b) (by decide +kernel) (wth_rng b).1 (wth_rng b).2]
  exact fork_all 14 (wth a) (by decide +kernel) (wth_rng a).1 (wth_rng a).2
end Go.Proofs.Ytjcjalmkjncoaaa.x86enc
