/-
  x86.of: the form of each operation; x86.read: what it answers, of every operation.
-/
import Derived.Test.YtpcocfdgcihpdaaRdA
import Derived.Test.YtpcocfdgcihpdaaRdB
import Derived.Test.YtpcocfdgcihpdaaRdC
import Derived.Test.YtpcocfdgcihpdaaRdLink
import Derived.KernelRfl
set_option maxHeartbeats 64000000
set_option maxRecDepth 1000000
set_option linter.unusedVariables false
set_option linter.unusedSimpArgs false
namespace Go.Proofs.Ytpcocfdgcihpdaa.rdw
open Go Go.RowKit
open Go.Proofs.Ytpcocfdgcihpdaa Go.Proofs.Ytpcocfdgcihpdaa.wr
set_option linter.unusedVariables false
set_option linter.unusedSimpArgs false
abbrev FormR := Nat × Bool × Bool × Int × Bool × Int × Int × Bool
def formK : Eng.EK FormR := fun v h _ => match v with
  | .tup [.agg [.slice b .zero n (.ex _), .bool a, .bool bb, .int .i64 nb, .bool md, .int .i64 x, .int .i64 y, .bool ld], .bool true] => match h.get b with
    | .cells _ => some (n, a, bb, nb, md, x, y, ld)
    | _ => none
  | _ => none
theorem formK_ok {v : Eng.AV} {h : Eng.Hp} {x : Eng.Bid} {n : Nat} {a bb : Bool} {nb : Int} {md : Bool} {p q : Int} {ld : Bool} (hk : formK v h x = some (n, a, bb, nb, md, p, q, ld)) :
    ∃ b c l, v = .tup [.agg [.slice b 0 n (.ex c), .bool a, .bool bb, .int .i64 nb, .bool md, .int .i64 p, .int .i64 q, .bool ld], .bool true] ∧ h.get b = .cells l := by
  unfold formK at hk
  split at hk
  · split at hk
    · rename_i hc
      injection hk with hk
      simp only [Prod.mk.injEq] at hk
      obtain ⟨rfl, rfl, rfl, rfl, rfl, rfl, rfl, rfl⟩ := hk
      exact ⟨_, _, _, rfl, hc⟩
    · cases hk
  · cases hk
theorem of_call (k : Nat) {n : Nat} {a bb : Bool} {nb : Int} {md : Bool} {p q : Int} {ld : Bool} (hrun : Eng.fcallOf (β := FormR) Try.prog (Eng.fexec Try.prog 1000000) 55 [.int .i64 (.ofNat k)] Eng.f5 Eng.b0 formK = some (n, a, bb, nb, md, p, q, ld)) : OfC k n a bb nb md p q ld := by
  intro w
  refine (Eng.calledF 1000000 55 _ formK _ hrun w #[.int .i64 k] (by simp [Eng.VRels, Eng.VRel])).mono fun e w' h => ?_
  obtain ⟨⟨v, h', x', cv, μ', h1, rfl, h2, h3, _⟩, hb⟩ := h
  obtain ⟨b, c, l, rfl, hl⟩ := formK_ok h1
  refine ⟨?_, hb⟩
  simp only [Eng.VRel, Eng.VRels, Eng.SlRel] at h2
  obtain ⟨cs, rfl, v1, r1, hcs, ⟨cs1, rfl, u1, s1, hcs1, ⟨lc, hlc, rfl⟩, u2, s2, rfl, rfl, u3, s3, rfl, rfl, u4, s4, rfl, rfl, u5, s5, rfl, rfl, u6, s6, rfl, rfl, u7, s7, rfl, rfl, u8, s8, rfl, rfl, rfl⟩, v2, r2, rfl, rfl, rfl⟩ := h2
  have hbase : lc.base = 0 := by
    have := h3.ok b lc hlc
    rw [hl] at this
    exact this.1
  rw [hbase] at hcs1
  refine ⟨lc.blk, c, ?_⟩
  rw [← Array.toList_inj.1 hcs.symm, ← Array.toList_inj.1 hcs1.symm]
  first | rfl | skip
theorem of_1 : OfC 1 1 true false 4 false 0 (-1) false := of_call 1 (by kernel_rfl)
theorem of_2 : OfC 2 1 true true 0 true (-2) (-1) false := of_call 2 (by kernel_rfl)
theorem of_3 : OfC 3 1 true false 4 true (-1) 0 true := of_call 3 (by kernel_rfl)
theorem of_4 : OfC 4 1 true false 4 true (-1) 0 true := of_call 4 (by kernel_rfl)
theorem of_5 : OfC 5 1 true true 0 true (-2) (-1) false := of_call 5 (by kernel_rfl)
theorem of_6 : OfC 6 1 true true 0 true (-2) (-1) false := of_call 6 (by kernel_rfl)
theorem of_7 : OfC 7 1 true true 0 true (-2) (-1) false := of_call 7 (by kernel_rfl)
theorem of_8 : OfC 8 1 true true 0 true (-2) (-1) false := of_call 8 (by kernel_rfl)
theorem of_9 : OfC 9 1 true true 0 true (-2) (-1) false := of_call 9 (by kernel_rfl)
theorem of_10 : OfC 10 1 true true 0 true (-2) (-1) false := of_call 10 (by kernel_rfl)
theorem of_11 : OfC 11 2 true true 0 true (-1) (-2) false := of_call 11 (by kernel_rfl)
theorem of_12 : OfC 12 1 true false 0 true 3 (-1) false := of_call 12 (by kernel_rfl)
theorem of_13 : OfC 13 1 false false 0 false 0 0 false := of_call 13 (by kernel_rfl)
theorem of_14 : OfC 14 1 true false 0 true 7 (-1) false := of_call 14 (by kernel_rfl)
theorem of_15 : OfC 15 1 true false 0 true 4 (-1) false := of_call 15 (by kernel_rfl)
theorem of_16 : OfC 16 1 true false 0 true 7 (-1) false := of_call 16 (by kernel_rfl)
theorem of_17 : OfC 17 1 true false 0 true 5 (-1) false := of_call 17 (by kernel_rfl)
theorem of_18 : OfC 18 1 false false 4 false 0 0 false := of_call 18 (by kernel_rfl)
theorem of_19 : OfC 19 2 false false 4 false 0 0 false := of_call 19 (by kernel_rfl)
theorem of_20 : OfC 20 2 false false 4 false 0 0 false := of_call 20 (by kernel_rfl)
theorem of_21 : OfC 21 2 false false 4 false 0 0 false := of_call 21 (by kernel_rfl)
theorem of_22 : OfC 22 2 false false 4 false 0 0 false := of_call 22 (by kernel_rfl)
theorem of_23 : OfC 23 2 false false 4 false 0 0 false := of_call 23 (by kernel_rfl)
theorem of_24 : OfC 24 2 false false 4 false 0 0 false := of_call 24 (by kernel_rfl)
theorem of_25 : OfC 25 1 false false 0 false 0 0 false := of_call 25 (by kernel_rfl)
theorem of_26 : OfC 26 1 false false 1 false 0 0 false := of_call 26 (by kernel_rfl)
theorem read_1 (bb oo cap : Nat) (x : List Int) (w : World) (hL : 0 < x.length) (hL2 : x.length ≤ 9223372036854775807) (hx : RD.isBytes x) (hr : Row w bb oo x) : ReadC 1 bb oo cap x w := by
  by_cases h1 : RD.off x + 5 ≤ x.length
  · exact rd_mov_full 1  rfl of_1 bb oo cap x w hL hL2 hx hr h1
  · by_cases h2 : RD.off x + 0 < x.length
    · exact rd_mov_mid 1  rfl of_1 bb oo cap x w hL hL2 hx hr h2 (by omega)
    · exact rd_mov_none 1  rfl of_1 bb oo cap x w hL hL2 hx hr (by omega)
theorem read_2 (bb oo cap : Nat) (x : List Int) (w : World) (hL : 0 < x.length) (hL2 : x.length ≤ 9223372036854775807) (hx : RD.isBytes x) (hr : Row w bb oo x) : ReadC 2 bb oo cap x w := by
  by_cases h1 : RD.off x + 2 ≤ x.length
  · exact rd_two_full 2 _ rfl of_2 bb oo cap x w hL hL2 hx hr h1
  · exact rd_two_none 2 _ rfl of_2 bb oo cap x w hL hL2 hx hr (by omega)
theorem read_3 (bb oo cap : Nat) (x : List Int) (w : World) (hL : 0 < x.length) (hL2 : x.length ≤ 9223372036854775807) (hx : RD.isBytes x) (hr : Row w bb oo x) : ReadC 3 bb oo cap x w := by
  by_cases h1 : RD.off x + 6 ≤ x.length
  · exact rd_load_full 3 _ rfl of_3 bb oo cap x w hL hL2 hx hr h1
  · by_cases h2 : RD.off x + 1 < x.length
    · exact rd_load_mid 3 _ rfl of_3 bb oo cap x w hL hL2 hx hr h2 (by omega)
    · exact rd_load_none 3 _ rfl of_3 bb oo cap x w hL hL2 hx hr (by omega)
theorem read_4 (bb oo cap : Nat) (x : List Int) (w : World) (hL : 0 < x.length) (hL2 : x.length ≤ 9223372036854775807) (hx : RD.isBytes x) (hr : Row w bb oo x) : ReadC 4 bb oo cap x w := by
  by_cases h1 : RD.off x + 6 ≤ x.length
  · exact rd_load_full 4 _ rfl of_4 bb oo cap x w hL hL2 hx hr h1
  · by_cases h2 : RD.off x + 1 < x.length
    · exact rd_load_mid 4 _ rfl of_4 bb oo cap x w hL hL2 hx hr h2 (by omega)
    · exact rd_load_none 4 _ rfl of_4 bb oo cap x w hL hL2 hx hr (by omega)
theorem read_5 (bb oo cap : Nat) (x : List Int) (w : World) (hL : 0 < x.length) (hL2 : x.length ≤ 9223372036854775807) (hx : RD.isBytes x) (hr : Row w bb oo x) : ReadC 5 bb oo cap x w := by
  by_cases h1 : RD.off x + 2 ≤ x.length
  · exact rd_two_full 5 _ rfl of_5 bb oo cap x w hL hL2 hx hr h1
  · exact rd_two_none 5 _ rfl of_5 bb oo cap x w hL hL2 hx hr (by omega)
theorem read_6 (bb oo cap : Nat) (x : List Int) (w : World) (hL : 0 < x.length) (hL2 : x.length ≤ 9223372036854775807) (hx : RD.isBytes x) (hr : Row w bb oo x) : ReadC 6 bb oo cap x w := by
  by_cases h1 : RD.off x + 2 ≤ x.length
  · exact rd_two_full 6 _ rfl of_6 bb oo cap x w hL hL2 hx hr h1
  · exact rd_two_none 6 _ rfl of_6 bb oo cap x w hL hL2 hx hr (by omega)
theorem read_7 (bb oo cap : Nat) (x : List Int) (w : World) (hL : 0 < x.length) (hL2 : x.length ≤ 9223372036854775807) (hx : RD.isBytes x) (hr : Row w bb oo x) : ReadC 7 bb oo cap x w := by
  by_cases h1 : RD.off x + 2 ≤ x.length
  · exact rd_two_full 7 _ rfl of_7 bb oo cap x w hL hL2 hx hr h1
  · exact rd_two_none 7 _ rfl of_7 bb oo cap x w hL hL2 hx hr (by omega)
theorem read_8 (bb oo cap : Nat) (x : List Int) (w : World) (hL : 0 < x.length) (hL2 : x.length ≤ 9223372036854775807) (hx : RD.isBytes x) (hr : Row w bb oo x) : ReadC 8 bb oo cap x w := by
  by_cases h1 : RD.off x + 2 ≤ x.length
  · exact rd_two_full 8 _ rfl of_8 bb oo cap x w hL hL2 hx hr h1
  · exact rd_two_none 8 _ rfl of_8 bb oo cap x w hL hL2 hx hr (by omega)
theorem read_9 (bb oo cap : Nat) (x : List Int) (w : World) (hL : 0 < x.length) (hL2 : x.length ≤ 9223372036854775807) (hx : RD.isBytes x) (hr : Row w bb oo x) : ReadC 9 bb oo cap x w := by
  by_cases h1 : RD.off x + 2 ≤ x.length
  · exact rd_two_full 9 _ rfl of_9 bb oo cap x w hL hL2 hx hr h1
  · exact rd_two_none 9 _ rfl of_9 bb oo cap x w hL hL2 hx hr (by omega)
theorem read_10 (bb oo cap : Nat) (x : List Int) (w : World) (hL : 0 < x.length) (hL2 : x.length ≤ 9223372036854775807) (hx : RD.isBytes x) (hr : Row w bb oo x) : ReadC 10 bb oo cap x w := by
  by_cases h1 : RD.off x + 2 ≤ x.length
  · exact rd_two_full 10 _ rfl of_10 bb oo cap x w hL hL2 hx hr h1
  · exact rd_two_none 10 _ rfl of_10 bb oo cap x w hL hL2 hx hr (by omega)
theorem read_11 (bb oo cap : Nat) (x : List Int) (w : World) (hL : 0 < x.length) (hL2 : x.length ≤ 9223372036854775807) (hx : RD.isBytes x) (hr : Row w bb oo x) : ReadC 11 bb oo cap x w := by
  by_cases h1 : RD.off x + 3 ≤ x.length
  · exact rd_mul_full 11  rfl of_11 bb oo cap x w hL hL2 hx hr h1
  · exact rd_mul_none 11  rfl of_11 bb oo cap x w hL hL2 hx hr (by omega)
theorem read_12 (bb oo cap : Nat) (x : List Int) (w : World) (hL : 0 < x.length) (hL2 : x.length ≤ 9223372036854775807) (hx : RD.isBytes x) (hr : Row w bb oo x) : ReadC 12 bb oo cap x w := by
  by_cases h1 : RD.off x + 2 ≤ x.length
  · exact rd_one_full 12 _ _ (by decide) (by decide) rfl of_12 bb oo cap x w hL hL2 hx hr h1
  · exact rd_one_none 12 _ _ (by decide) (by decide) rfl of_12 bb oo cap x w hL hL2 hx hr (by omega)
theorem read_13 (bb oo cap : Nat) (x : List Int) (w : World) (hL : 0 < x.length) (hL2 : x.length ≤ 9223372036854775807) (hx : RD.isBytes x) (hr : Row w bb oo x) : ReadC 13 bb oo cap x w := by
  by_cases h1 : RD.off x + 1 ≤ x.length
  · exact rd_al0_full 13 _ rfl of_13 bb oo cap x w hL hL2 hx hr h1
  · exact rd_al0_none 13 _ rfl of_13 bb oo cap x w hL hL2 hx hr (by omega)
theorem read_14 (bb oo cap : Nat) (x : List Int) (w : World) (hL : 0 < x.length) (hL2 : x.length ≤ 9223372036854775807) (hx : RD.isBytes x) (hr : Row w bb oo x) : ReadC 14 bb oo cap x w := by
  by_cases h1 : RD.off x + 2 ≤ x.length
  · exact rd_one_full 14 _ _ (by decide) (by decide) rfl of_14 bb oo cap x w hL hL2 hx hr h1
  · exact rd_one_none 14 _ _ (by decide) (by decide) rfl of_14 bb oo cap x w hL hL2 hx hr (by omega)
theorem read_15 (bb oo cap : Nat) (x : List Int) (w : World) (hL : 0 < x.length) (hL2 : x.length ≤ 9223372036854775807) (hx : RD.isBytes x) (hr : Row w bb oo x) : ReadC 15 bb oo cap x w := by
  by_cases h1 : RD.off x + 2 ≤ x.length
  · exact rd_one_full 15 _ _ (by decide) (by decide) rfl of_15 bb oo cap x w hL hL2 hx hr h1
  · exact rd_one_none 15 _ _ (by decide) (by decide) rfl of_15 bb oo cap x w hL hL2 hx hr (by omega)
theorem read_16 (bb oo cap : Nat) (x : List Int) (w : World) (hL : 0 < x.length) (hL2 : x.length ≤ 9223372036854775807) (hx : RD.isBytes x) (hr : Row w bb oo x) : ReadC 16 bb oo cap x w := by
  by_cases h1 : RD.off x + 2 ≤ x.length
  · exact rd_one_full 16 _ _ (by decide) (by decide) rfl of_16 bb oo cap x w hL hL2 hx hr h1
  · exact rd_one_none 16 _ _ (by decide) (by decide) rfl of_16 bb oo cap x w hL hL2 hx hr (by omega)
theorem read_17 (bb oo cap : Nat) (x : List Int) (w : World) (hL : 0 < x.length) (hL2 : x.length ≤ 9223372036854775807) (hx : RD.isBytes x) (hr : Row w bb oo x) : ReadC 17 bb oo cap x w := by
  by_cases h1 : RD.off x + 2 ≤ x.length
  · exact rd_one_full 17 _ _ (by decide) (by decide) rfl of_17 bb oo cap x w hL hL2 hx hr h1
  · exact rd_one_none 17 _ _ (by decide) (by decide) rfl of_17 bb oo cap x w hL hL2 hx hr (by omega)
theorem read_18 (bb oo cap : Nat) (x : List Int) (w : World) (hL : 0 < x.length) (hL2 : x.length ≤ 9223372036854775807) (hx : RD.isBytes x) (hr : Row w bb oo x) : ReadC 18 bb oo cap x w := by
  by_cases h1 : RD.off x + 5 ≤ x.length
  · exact rd_al4_full 18 _ rfl of_18 bb oo cap x w hL hL2 hx hr h1
  · exact rd_al4_none 18 _ rfl of_18 bb oo cap x w hL hL2 hx hr (by omega)
theorem read_19 (bb oo cap : Nat) (x : List Int) (w : World) (hL : 0 < x.length) (hL2 : x.length ≤ 9223372036854775807) (hx : RD.isBytes x) (hr : Row w bb oo x) : ReadC 19 bb oo cap x w := by
  by_cases h1 : RD.off x + 6 ≤ x.length
  · exact rd_al42_full 19 _ _ rfl of_19 bb oo cap x w hL hL2 hx hr h1
  · exact rd_al42_none 19 _ _ rfl of_19 bb oo cap x w hL hL2 hx hr (by omega)
theorem read_20 (bb oo cap : Nat) (x : List Int) (w : World) (hL : 0 < x.length) (hL2 : x.length ≤ 9223372036854775807) (hx : RD.isBytes x) (hr : Row w bb oo x) : ReadC 20 bb oo cap x w := by
  by_cases h1 : RD.off x + 6 ≤ x.length
  · exact rd_al42_full 20 _ _ rfl of_20 bb oo cap x w hL hL2 hx hr h1
  · exact rd_al42_none 20 _ _ rfl of_20 bb oo cap x w hL hL2 hx hr (by omega)
theorem read_21 (bb oo cap : Nat) (x : List Int) (w : World) (hL : 0 < x.length) (hL2 : x.length ≤ 9223372036854775807) (hx : RD.isBytes x) (hr : Row w bb oo x) : ReadC 21 bb oo cap x w := by
  by_cases h1 : RD.off x + 6 ≤ x.length
  · exact rd_al42_full 21 _ _ rfl of_21 bb oo cap x w hL hL2 hx hr h1
  · exact rd_al42_none 21 _ _ rfl of_21 bb oo cap x w hL hL2 hx hr (by omega)
theorem read_22 (bb oo cap : Nat) (x : List Int) (w : World) (hL : 0 < x.length) (hL2 : x.length ≤ 9223372036854775807) (hx : RD.isBytes x) (hr : Row w bb oo x) : ReadC 22 bb oo cap x w := by
  by_cases h1 : RD.off x + 6 ≤ x.length
  · exact rd_al42_full 22 _ _ rfl of_22 bb oo cap x w hL hL2 hx hr h1
  · exact rd_al42_none 22 _ _ rfl of_22 bb oo cap x w hL hL2 hx hr (by omega)
theorem read_23 (bb oo cap : Nat) (x : List Int) (w : World) (hL : 0 < x.length) (hL2 : x.length ≤ 9223372036854775807) (hx : RD.isBytes x) (hr : Row w bb oo x) : ReadC 23 bb oo cap x w := by
  by_cases h1 : RD.off x + 6 ≤ x.length
  · exact rd_al42_full 23 _ _ rfl of_23 bb oo cap x w hL hL2 hx hr h1
  · exact rd_al42_none 23 _ _ rfl of_23 bb oo cap x w hL hL2 hx hr (by omega)
theorem read_24 (bb oo cap : Nat) (x : List Int) (w : World) (hL : 0 < x.length) (hL2 : x.length ≤ 9223372036854775807) (hx : RD.isBytes x) (hr : Row w bb oo x) : ReadC 24 bb oo cap x w := by
  by_cases h1 : RD.off x + 6 ≤ x.length
  · exact rd_al42_full 24 _ _ rfl of_24 bb oo cap x w hL hL2 hx hr h1
  · exact rd_al42_none 24 _ _ rfl of_24 bb oo cap x w hL hL2 hx hr (by omega)
theorem read_25 (bb oo cap : Nat) (x : List Int) (w : World) (hL : 0 < x.length) (hL2 : x.length ≤ 9223372036854775807) (hx : RD.isBytes x) (hr : Row w bb oo x) : ReadC 25 bb oo cap x w := by
  by_cases h1 : RD.off x + 1 ≤ x.length
  · exact rd_al0_full 25 _ rfl of_25 bb oo cap x w hL hL2 hx hr h1
  · exact rd_al0_none 25 _ rfl of_25 bb oo cap x w hL hL2 hx hr (by omega)
theorem read_26 (bb oo cap : Nat) (x : List Int) (w : World) (hL : 0 < x.length) (hL2 : x.length ≤ 9223372036854775807) (hx : RD.isBytes x) (hr : Row w bb oo x) : ReadC 26 bb oo cap x w := by
  by_cases h1 : RD.off x + 2 ≤ x.length
  · exact rd_al1_full 26 _ rfl of_26 bb oo cap x w hL hL2 hx hr h1
  · exact rd_al1_none 26 _ rfl of_26 bb oo cap x w hL hL2 hx hr (by omega)
theorem val_rng {x : List Int} (hx : RD.isBytes x) (j k : Nat) (h : j + (RD.form k).nb ≤ x.length) : -2147483648 ≤ RD.val x j (RD.form k).nb ∧ RD.val x j (RD.form k).nb ≤ 2147483647 := by
  obtain ⟨_, h2⟩ := RD.le_val hx k j h
  rcases RD.nb_cases k with e | e | e <;> rw [e] at h2 ⊢
  · rw [RD.okN_0] at h2; omega
  · rw [RD.okN_1] at h2; omega
  · rw [RD.okN_4] at h2; omega
theorem rdN_rng {x : List Int} (hx : RD.isBytes x) (k : Nat) : -2147483648 ≤ RD.rdN k x ∧ RD.rdN k x ≤ 2147483647 := by
  unfold RD.rdN
  split
  · exact val_rng hx _ _ (by have : (RD.form k).nb ≤ RD.need k x := by unfold RD.need; omega
                             omega)
  · omega
theorem same_eq (k : Nat) (h1 : 1 ≤ k) (h2 : k ≤ 26) {x : List Int} (hx : RD.isBytes x) : same_ k (RD.rdA k x) (RD.rdB k x) (RD.rdN k x) x = RD.same k x := by
  unfold same_ RD.same
  cases hv : RD.valid k (RD.rdA k x) (RD.rdB k x) (RD.rdN k x) with
  | true =>
    obtain ⟨e1, e2⟩ := enc_yes k h1 h2 _ _ _ hv
    rw [e1, e2]; rfl
  | false =>
    obtain ⟨e1, e2⟩ := enc_no k h1 h2 _ _ _ (rdN_rng hx k) hv
    rw [e1]; rfl
theorem read32 (k : Nat) (h1 : 1 ≤ k) (h2 : k ≤ 26) (bb oo cap : Nat) (x : List Int) (w : World) (hL : 0 < x.length) (hL2 : x.length ≤ 9223372036854775807) (hx : RD.isBytes x) (hr : Row w bb oo x) :
    Calls Try.prog 50 #[.int .i64 (k : Int), .slice (some ⟨bb, oo, none⟩) x.length cap] w fun e w' =>
      e = .returned (.tuple #[.agg #[.int .i64 (k : Int), .int .i64 (RD.rdA k x), .int .i64 (RD.rdB k x), .int .i32 (RD.rdN k x)], .int .i64 ((RD.same k x : Nat) : Int), .int .i64 ((RD.need k x : Nat) : Int)]) ∧ Below w.heap.size w w' := by
  rw [← same_eq k h1 h2 hx]
  rcases RD.op_cases k h1 h2 with e | e | e | e | e | e | e | e | e | e | e | e | e | e | e | e | e | e | e | e | e | e | e | e | e | e <;> subst e
  · exact read_1 bb oo cap x w hL hL2 hx hr
  · exact read_2 bb oo cap x w hL hL2 hx hr
  · exact read_3 bb oo cap x w hL hL2 hx hr
  · exact read_4 bb oo cap x w hL hL2 hx hr
  · exact read_5 bb oo cap x w hL hL2 hx hr
  · exact read_6 bb oo cap x w hL hL2 hx hr
  · exact read_7 bb oo cap x w hL hL2 hx hr
  · exact read_8 bb oo cap x w hL hL2 hx hr
  · exact read_9 bb oo cap x w hL hL2 hx hr
  · exact read_10 bb oo cap x w hL hL2 hx hr
  · exact read_11 bb oo cap x w hL hL2 hx hr
  · exact read_12 bb oo cap x w hL hL2 hx hr
  · exact read_13 bb oo cap x w hL hL2 hx hr
  · exact read_14 bb oo cap x w hL hL2 hx hr
  · exact read_15 bb oo cap x w hL hL2 hx hr
  · exact read_16 bb oo cap x w hL hL2 hx hr
  · exact read_17 bb oo cap x w hL hL2 hx hr
  · exact read_18 bb oo cap x w hL hL2 hx hr
  · exact read_19 bb oo cap x w hL hL2 hx hr
  · exact read_20 bb oo cap x w hL hL2 hx hr
  · exact read_21 bb oo cap x w hL hL2 hx hr
  · exact read_22 bb oo cap x w hL hL2 hx hr
  · exact read_23 bb oo cap x w hL hL2 hx hr
  · exact read_24 bb oo cap x w hL hL2 hx hr
  · exact read_25 bb oo cap x w hL hL2 hx hr
  · exact read_26 bb oo cap x w hL hL2 hx hr
end Go.Proofs.Ytpcocfdgcihpdaa.rdw
