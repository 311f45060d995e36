/-
  What both Encode's make, in the words of the plain law.
-/
import Derived.Test.YtpcocfdgcihpdaaRdPlain
import Derived.Test.YtpcocfdgcihpdaaWrParts
import Derived.IntWalk
import Derived.KernelRfl
set_option maxHeartbeats 64000000
set_option maxRecDepth 1000000
set_option linter.unusedVariables false
set_option linter.unusedSimpArgs false
namespace Go.Proofs.Ytpcocfdgcihpdaa.rdw
open Go Go.RowKit
open Go.Proofs.Ytpcocfdgcihpdaa Go.Proofs.Ytpcocfdgcihpdaa.wr Go.Proofs.Ytpcocfdgcihpdaa.x86enc
set_option linter.unusedVariables false
set_option linter.unusedSimpArgs false
theorem nd_ite {α : Type} (p : Prop) [Decidable p] (x y : Option α) : Eng.nd (decide p) x y = if p then x else y := by
  by_cases h : p
  · rw [decide_eq_true h, Eng.nd_true, if_pos h]
  · rw [decide_eq_false h, Eng.nd_false, if_neg h]
theorem nd_not {α : Type} (b : Bool) (x y : Option α) : Eng.nd (!b) x y = Eng.nd b y x := by
  cases b
  · rw [Bool.not_false, Eng.nd_true, Eng.nd_false]
  · rw [Bool.not_true, Eng.nd_true, Eng.nd_false]
def Ref (o : Option (Int × List Int)) (v : Bool) : Prop := v = false → o = some (1, [])
theorem u8_wrap (n : Int) : IntKind.u8.wrap n = n % 256 := by rw [IntKind.wrap_u8]
theorem fdiv_ediv (n : Int) (m : Nat) : n.fdiv ((m : Nat) : Int) = n / (m : Int) := Int.fdiv_eq_ediv_of_nonneg n (Int.natCast_nonneg m)
theorem ite_ref {α : Type} {p : Prop} [Decidable p] {x y r : α} (hx : p → x = r) (hy : ¬ p → y = r) : (if p then x else y) = r := by
  by_cases h : p
  · rw [if_pos h]; exact hx h
  · rw [if_neg h]; exact hy h
theorem mem14 {a : Int} (h : RD.okA true a = true) : a = 0 ∨ a = 1 ∨ a = 2 ∨ a = 3 ∨ a = 6 ∨ a = 7 ∨ a = 8 ∨ a = 9 ∨ a = 10 ∨ a = 11 ∨ a = 12 ∨ a = 13 ∨ a = 14 ∨ a = 15 := by
  have := (RD.mem_regsOf true a).2 h
  simpa [RD.regsOf] using this
theorem no_1 (a b n : Int) (hn : -2147483648 ≤ n ∧ n ≤ 2147483647) : Ref (u1 a b n) (RD.valid 1 a b n) := by
  intro h
  unfold u1
  simp only [nd_not, nd_ite]
  simp [RD.valid, RD.okA, RD.form, RD.two, RD.one, RD.alone, RD.okN, RD.reg] at h
  repeat' (refine ite_ref ?_ ?_ <;> intro _)
  all_goals first | rfl | (exfalso; omega)
theorem yes_1 (a b n : Int) (h : RD.valid 1 a b n = true) : encO 1 a b n = some (0, RD.enc 1 a b n) := by
  obtain ⟨ha, hb, hn⟩ := (RD.valid_iff _ _ _ _).1 h
  have hb : b = 0 := by simpa [RD.okA, RD.form] using hb
  subst hb
  rw [encU_eq]
  have key : ∀ l : List Int, ∀ v0 v1 v2 v3 : Int, v0 = n % 256 → v1 = n / 256 % 256 → v2 = n / 65536 % 256 → v3 = n / 16777216 % 256 → l ++ [v0, v1, v2, v3] = l ++ RD.le n 4 := by
    intro l v0 v1 v2 v3 e0 e1 e2 e3; rw [e0, e1, e2, e3]; rfl
  have k0 := u8_wrap n
  have k1 : IntKind.u8.wrap (n.fdiv (2 ^ min (Int.toNat 8) IntKind.i32.bits)) = n / 256 % 256 := by rw [u8_wrap]; exact congrArg (· % 256) (fdiv_ediv n 256)
  have k2 : IntKind.u8.wrap (n.fdiv (2 ^ min (Int.toNat 16) IntKind.i32.bits)) = n / 65536 % 256 := by rw [u8_wrap]; exact congrArg (· % 256) (fdiv_ediv n 65536)
  have k3 : IntKind.u8.wrap (n.fdiv (2 ^ min (Int.toNat 24) IntKind.i32.bits)) = n / 16777216 % 256 := by rw [u8_wrap]; exact congrArg (· % 256) (fdiv_ediv n 16777216)
  rcases mem14 ha with h | h | h | h | h | h | h | h | h | h | h | h | h | h <;> subst h
  · rw [show encU 1 0 0 n = some ((0 : Int), RD.head 1 0 0 ++ [IntKind.u8.wrap n, IntKind.u8.wrap (n.fdiv (2 ^ min (Int.toNat 8) IntKind.i32.bits)), IntKind.u8.wrap (n.fdiv (2 ^ min (Int.toNat 16) IntKind.i32.bits)), IntKind.u8.wrap (n.fdiv (2 ^ min (Int.toNat 24) IntKind.i32.bits))]) from (by kernel_rfl), key _ _ _ _ _ k0 k1 k2 k3]; rfl
  · rw [show encU 1 1 0 n = some ((0 : Int), RD.head 1 1 0 ++ [IntKind.u8.wrap n, IntKind.u8.wrap (n.fdiv (2 ^ min (Int.toNat 8) IntKind.i32.bits)), IntKind.u8.wrap (n.fdiv (2 ^ min (Int.toNat 16) IntKind.i32.bits)), IntKind.u8.wrap (n.fdiv (2 ^ min (Int.toNat 24) IntKind.i32.bits))]) from (by kernel_rfl), key _ _ _ _ _ k0 k1 k2 k3]; rfl
  · rw [show encU 1 2 0 n = some ((0 : Int), RD.head 1 2 0 ++ [IntKind.u8.wrap n, IntKind.u8.wrap (n.fdiv (2 ^ min (Int.toNat 8) IntKind.i32.bits)), IntKind.u8.wrap (n.fdiv (2 ^ min (Int.toNat 16) IntKind.i32.bits)), IntKind.u8.wrap (n.fdiv (2 ^ min (Int.toNat 24) IntKind.i32.bits))]) from (by kernel_rfl), key _ _ _ _ _ k0 k1 k2 k3]; rfl
  · rw [show encU 1 3 0 n = some ((0 : Int), RD.head 1 3 0 ++ [IntKind.u8.wrap n, IntKind.u8.wrap (n.fdiv (2 ^ min (Int.toNat 8) IntKind.i32.bits)), IntKind.u8.wrap (n.fdiv (2 ^ min (Int.toNat 16) IntKind.i32.bits)), IntKind.u8.wrap (n.fdiv (2 ^ min (Int.toNat 24) IntKind.i32.bits))]) from (by kernel_rfl), key _ _ _ _ _ k0 k1 k2 k3]; rfl
  · rw [show encU 1 6 0 n = some ((0 : Int), RD.head 1 6 0 ++ [IntKind.u8.wrap n, IntKind.u8.wrap (n.fdiv (2 ^ min (Int.toNat 8) IntKind.i32.bits)), IntKind.u8.wrap (n.fdiv (2 ^ min (Int.toNat 16) IntKind.i32.bits)), IntKind.u8.wrap (n.fdiv (2 ^ min (Int.toNat 24) IntKind.i32.bits))]) from (by kernel_rfl), key _ _ _ _ _ k0 k1 k2 k3]; rfl
  · rw [show encU 1 7 0 n = some ((0 : Int), RD.head 1 7 0 ++ [IntKind.u8.wrap n, IntKind.u8.wrap (n.fdiv (2 ^ min (Int.toNat 8) IntKind.i32.bits)), IntKind.u8.wrap (n.fdiv (2 ^ min (Int.toNat 16) IntKind.i32.bits)), IntKind.u8.wrap (n.fdiv (2 ^ min (Int.toNat 24) IntKind.i32.bits))]) from (by kernel_rfl), key _ _ _ _ _ k0 k1 k2 k3]; rfl
  · rw [show encU 1 8 0 n = some ((0 : Int), RD.head 1 8 0 ++ [IntKind.u8.wrap n, IntKind.u8.wrap (n.fdiv (2 ^ min (Int.toNat 8) IntKind.i32.bits)), IntKind.u8.wrap (n.fdiv (2 ^ min (Int.toNat 16) IntKind.i32.bits)), IntKind.u8.wrap (n.fdiv (2 ^ min (Int.toNat 24) IntKind.i32.bits))]) from (by kernel_rfl), key _ _ _ _ _ k0 k1 k2 k3]; rfl
  · rw [show encU 1 9 0 n = some ((0 : Int), RD.head 1 9 0 ++ [IntKind.u8.wrap n, IntKind.u8.wrap (n.fdiv (2 ^ min (Int.toNat 8) IntKind.i32.bits)), IntKind.u8.wrap (n.fdiv (2 ^ min (Int.toNat 16) IntKind.i32.bits)), IntKind.u8.wrap (n.fdiv (2 ^ min (Int.toNat 24) IntKind.i32.bits))]) from (by kernel_rfl), key _ _ _ _ _ k0 k1 k2 k3]; rfl
  · rw [show encU 1 10 0 n = some ((0 : Int), RD.head 1 10 0 ++ [IntKind.u8.wrap n, IntKind.u8.wrap (n.fdiv (2 ^ min (Int.toNat 8) IntKind.i32.bits)), IntKind.u8.wrap (n.fdiv (2 ^ min (Int.toNat 16) IntKind.i32.bits)), IntKind.u8.wrap (n.fdiv (2 ^ min (Int.toNat 24) IntKind.i32.bits))]) from (by kernel_rfl), key _ _ _ _ _ k0 k1 k2 k3]; rfl
  · rw [show encU 1 11 0 n = some ((0 : Int), RD.head 1 11 0 ++ [IntKind.u8.wrap n, IntKind.u8.wrap (n.fdiv (2 ^ min (Int.toNat 8) IntKind.i32.bits)), IntKind.u8.wrap (n.fdiv (2 ^ min (Int.toNat 16) IntKind.i32.bits)), IntKind.u8.wrap (n.fdiv (2 ^ min (Int.toNat 24) IntKind.i32.bits))]) from (by kernel_rfl), key _ _ _ _ _ k0 k1 k2 k3]; rfl
  · rw [show encU 1 12 0 n = some ((0 : Int), RD.head 1 12 0 ++ [IntKind.u8.wrap n, IntKind.u8.wrap (n.fdiv (2 ^ min (Int.toNat 8) IntKind.i32.bits)), IntKind.u8.wrap (n.fdiv (2 ^ min (Int.toNat 16) IntKind.i32.bits)), IntKind.u8.wrap (n.fdiv (2 ^ min (Int.toNat 24) IntKind.i32.bits))]) from (by kernel_rfl), key _ _ _ _ _ k0 k1 k2 k3]; rfl
  · rw [show encU 1 13 0 n = some ((0 : Int), RD.head 1 13 0 ++ [IntKind.u8.wrap n, IntKind.u8.wrap (n.fdiv (2 ^ min (Int.toNat 8) IntKind.i32.bits)), IntKind.u8.wrap (n.fdiv (2 ^ min (Int.toNat 16) IntKind.i32.bits)), IntKind.u8.wrap (n.fdiv (2 ^ min (Int.toNat 24) IntKind.i32.bits))]) from (by kernel_rfl), key _ _ _ _ _ k0 k1 k2 k3]; rfl
  · rw [show encU 1 14 0 n = some ((0 : Int), RD.head 1 14 0 ++ [IntKind.u8.wrap n, IntKind.u8.wrap (n.fdiv (2 ^ min (Int.toNat 8) IntKind.i32.bits)), IntKind.u8.wrap (n.fdiv (2 ^ min (Int.toNat 16) IntKind.i32.bits)), IntKind.u8.wrap (n.fdiv (2 ^ min (Int.toNat 24) IntKind.i32.bits))]) from (by kernel_rfl), key _ _ _ _ _ k0 k1 k2 k3]; rfl
  · rw [show encU 1 15 0 n = some ((0 : Int), RD.head 1 15 0 ++ [IntKind.u8.wrap n, IntKind.u8.wrap (n.fdiv (2 ^ min (Int.toNat 8) IntKind.i32.bits)), IntKind.u8.wrap (n.fdiv (2 ^ min (Int.toNat 16) IntKind.i32.bits)), IntKind.u8.wrap (n.fdiv (2 ^ min (Int.toNat 24) IntKind.i32.bits))]) from (by kernel_rfl), key _ _ _ _ _ k0 k1 k2 k3]; rfl
theorem no_2 (a b n : Int) (hn : -2147483648 ≤ n ∧ n ≤ 2147483647) : Ref (u2 a b n) (RD.valid 2 a b n) := by
  intro h
  unfold u2
  simp only [nd_not, nd_ite]
  simp [RD.valid, RD.okA, RD.form, RD.two, RD.one, RD.alone, RD.okN, RD.reg] at h
  repeat' (refine ite_ref ?_ ?_ <;> intro _)
  all_goals first | rfl | (exfalso; omega)
theorem all_2 : (RD.regsOf true).all (fun a => (RD.regsOf true).all fun b => decide (encO 2 a b 0 = some (0, RD.enc 2 a b 0))) = true := by decide +kernel
theorem yes_2 (a b n : Int) (h : RD.valid 2 a b n = true) : encO 2 a b n = some (0, RD.enc 2 a b n) := by
  obtain ⟨ha, hb, hn⟩ := (RD.valid_iff _ _ _ _).1 h
  have hn : n = 0 := by simpa [RD.okN, RD.form, RD.two] using hn
  subst hn
  have := List.all_eq_true.1 (List.all_eq_true.1 all_2 a ((RD.mem_regsOf true a).2 ha)) b ((RD.mem_regsOf true b).2 hb)
  exact of_decide_eq_true this
theorem no_3 (a b n : Int) (hn : -2147483648 ≤ n ∧ n ≤ 2147483647) : Ref (u3 a b n) (RD.valid 3 a b n) := by
  intro h
  unfold u3
  simp only [nd_not, nd_ite]
  simp [RD.valid, RD.okA, RD.form, RD.two, RD.one, RD.alone, RD.okN, RD.reg] at h
  repeat' (refine ite_ref ?_ ?_ <;> intro _)
  all_goals first | rfl | (exfalso; omega)
theorem yes_3 (a b n : Int) (h : RD.valid 3 a b n = true) : encO 3 a b n = some (0, RD.enc 3 a b n) := by
  obtain ⟨ha, hb, hn⟩ := (RD.valid_iff _ _ _ _).1 h
  have hb : b = 0 := by simpa [RD.okA, RD.form] using hb
  subst hb
  rw [encU_eq]
  have key : ∀ l : List Int, ∀ v0 v1 v2 v3 : Int, v0 = n % 256 → v1 = n / 256 % 256 → v2 = n / 65536 % 256 → v3 = n / 16777216 % 256 → l ++ [v0, v1, v2, v3] = l ++ RD.le n 4 := by
    intro l v0 v1 v2 v3 e0 e1 e2 e3; rw [e0, e1, e2, e3]; rfl
  have k0 := u8_wrap n
  have k1 : IntKind.u8.wrap (n.fdiv (2 ^ min (Int.toNat 8) IntKind.i32.bits)) = n / 256 % 256 := by rw [u8_wrap]; exact congrArg (· % 256) (fdiv_ediv n 256)
  have k2 : IntKind.u8.wrap (n.fdiv (2 ^ min (Int.toNat 16) IntKind.i32.bits)) = n / 65536 % 256 := by rw [u8_wrap]; exact congrArg (· % 256) (fdiv_ediv n 65536)
  have k3 : IntKind.u8.wrap (n.fdiv (2 ^ min (Int.toNat 24) IntKind.i32.bits)) = n / 16777216 % 256 := by rw [u8_wrap]; exact congrArg (· % 256) (fdiv_ediv n 16777216)
  rcases mem14 ha with h | h | h | h | h | h | h | h | h | h | h | h | h | h <;> subst h
  · rw [show encU 3 0 0 n = some ((0 : Int), RD.head 3 0 0 ++ [IntKind.u8.wrap n, IntKind.u8.wrap (n.fdiv (2 ^ min (Int.toNat 8) IntKind.i32.bits)), IntKind.u8.wrap (n.fdiv (2 ^ min (Int.toNat 16) IntKind.i32.bits)), IntKind.u8.wrap (n.fdiv (2 ^ min (Int.toNat 24) IntKind.i32.bits))]) from (by kernel_rfl), key _ _ _ _ _ k0 k1 k2 k3]; rfl
  · rw [show encU 3 1 0 n = some ((0 : Int), RD.head 3 1 0 ++ [IntKind.u8.wrap n, IntKind.u8.wrap (n.fdiv (2 ^ min (Int.toNat 8) IntKind.i32.bits)), IntKind.u8.wrap (n.fdiv (2 ^ min (Int.toNat 16) IntKind.i32.bits)), IntKind.u8.wrap (n.fdiv (2 ^ min (Int.toNat 24) IntKind.i32.bits))]) from (by kernel_rfl), key _ _ _ _ _ k0 k1 k2 k3]; rfl
  · rw [show encU 3 2 0 n = some ((0 : Int), RD.head 3 2 0 ++ [IntKind.u8.wrap n, IntKind.u8.wrap (n.fdiv (2 ^ min (Int.toNat 8) IntKind.i32.bits)), IntKind.u8.wrap (n.fdiv (2 ^ min (Int.toNat 16) IntKind.i32.bits)), IntKind.u8.wrap (n.fdiv (2 ^ min (Int.toNat 24) IntKind.i32.bits))]) from (by kernel_rfl), key _ _ _ _ _ k0 k1 k2 k3]; rfl
  · rw [show encU 3 3 0 n = some ((0 : Int), RD.head 3 3 0 ++ [IntKind.u8.wrap n, IntKind.u8.wrap (n.fdiv (2 ^ min (Int.toNat 8) IntKind.i32.bits)), IntKind.u8.wrap (n.fdiv (2 ^ min (Int.toNat 16) IntKind.i32.bits)), IntKind.u8.wrap (n.fdiv (2 ^ min (Int.toNat 24) IntKind.i32.bits))]) from (by kernel_rfl), key _ _ _ _ _ k0 k1 k2 k3]; rfl
  · rw [show encU 3 6 0 n = some ((0 : Int), RD.head 3 6 0 ++ [IntKind.u8.wrap n, IntKind.u8.wrap (n.fdiv (2 ^ min (Int.toNat 8) IntKind.i32.bits)), IntKind.u8.wrap (n.fdiv (2 ^ min (Int.toNat 16) IntKind.i32.bits)), IntKind.u8.wrap (n.fdiv (2 ^ min (Int.toNat 24) IntKind.i32.bits))]) from (by kernel_rfl), key _ _ _ _ _ k0 k1 k2 k3]; rfl
  · rw [show encU 3 7 0 n = some ((0 : Int), RD.head 3 7 0 ++ [IntKind.u8.wrap n, IntKind.u8.wrap (n.fdiv (2 ^ min (Int.toNat 8) IntKind.i32.bits)), IntKind.u8.wrap (n.fdiv (2 ^ min (Int.toNat 16) IntKind.i32.bits)), IntKind.u8.wrap (n.fdiv (2 ^ min (Int.toNat 24) IntKind.i32.bits))]) from (by kernel_rfl), key _ _ _ _ _ k0 k1 k2 k3]; rfl
  · rw [show encU 3 8 0 n = some ((0 : Int), RD.head 3 8 0 ++ [IntKind.u8.wrap n, IntKind.u8.wrap (n.fdiv (2 ^ min (Int.toNat 8) IntKind.i32.bits)), IntKind.u8.wrap (n.fdiv (2 ^ min (Int.toNat 16) IntKind.i32.bits)), IntKind.u8.wrap (n.fdiv (2 ^ min (Int.toNat 24) IntKind.i32.bits))]) from (by kernel_rfl), key _ _ _ _ _ k0 k1 k2 k3]; rfl
  · rw [show encU 3 9 0 n = some ((0 : Int), RD.head 3 9 0 ++ [IntKind.u8.wrap n, IntKind.u8.wrap (n.fdiv (2 ^ min (Int.toNat 8) IntKind.i32.bits)), IntKind.u8.wrap (n.fdiv (2 ^ min (Int.toNat 16) IntKind.i32.bits)), IntKind.u8.wrap (n.fdiv (2 ^ min (Int.toNat 24) IntKind.i32.bits))]) from (by kernel_rfl), key _ _ _ _ _ k0 k1 k2 k3]; rfl
  · rw [show encU 3 10 0 n = some ((0 : Int), RD.head 3 10 0 ++ [IntKind.u8.wrap n, IntKind.u8.wrap (n.fdiv (2 ^ min (Int.toNat 8) IntKind.i32.bits)), IntKind.u8.wrap (n.fdiv (2 ^ min (Int.toNat 16) IntKind.i32.bits)), IntKind.u8.wrap (n.fdiv (2 ^ min (Int.toNat 24) IntKind.i32.bits))]) from (by kernel_rfl), key _ _ _ _ _ k0 k1 k2 k3]; rfl
  · rw [show encU 3 11 0 n = some ((0 : Int), RD.head 3 11 0 ++ [IntKind.u8.wrap n, IntKind.u8.wrap (n.fdiv (2 ^ min (Int.toNat 8) IntKind.i32.bits)), IntKind.u8.wrap (n.fdiv (2 ^ min (Int.toNat 16) IntKind.i32.bits)), IntKind.u8.wrap (n.fdiv (2 ^ min (Int.toNat 24) IntKind.i32.bits))]) from (by kernel_rfl), key _ _ _ _ _ k0 k1 k2 k3]; rfl
  · rw [show encU 3 12 0 n = some ((0 : Int), RD.head 3 12 0 ++ [IntKind.u8.wrap n, IntKind.u8.wrap (n.fdiv (2 ^ min (Int.toNat 8) IntKind.i32.bits)), IntKind.u8.wrap (n.fdiv (2 ^ min (Int.toNat 16) IntKind.i32.bits)), IntKind.u8.wrap (n.fdiv (2 ^ min (Int.toNat 24) IntKind.i32.bits))]) from (by kernel_rfl), key _ _ _ _ _ k0 k1 k2 k3]; rfl
  · rw [show encU 3 13 0 n = some ((0 : Int), RD.head 3 13 0 ++ [IntKind.u8.wrap n, IntKind.u8.wrap (n.fdiv (2 ^ min (Int.toNat 8) IntKind.i32.bits)), IntKind.u8.wrap (n.fdiv (2 ^ min (Int.toNat 16) IntKind.i32.bits)), IntKind.u8.wrap (n.fdiv (2 ^ min (Int.toNat 24) IntKind.i32.bits))]) from (by kernel_rfl), key _ _ _ _ _ k0 k1 k2 k3]; rfl
  · rw [show encU 3 14 0 n = some ((0 : Int), RD.head 3 14 0 ++ [IntKind.u8.wrap n, IntKind.u8.wrap (n.fdiv (2 ^ min (Int.toNat 8) IntKind.i32.bits)), IntKind.u8.wrap (n.fdiv (2 ^ min (Int.toNat 16) IntKind.i32.bits)), IntKind.u8.wrap (n.fdiv (2 ^ min (Int.toNat 24) IntKind.i32.bits))]) from (by kernel_rfl), key _ _ _ _ _ k0 k1 k2 k3]; rfl
  · rw [show encU 3 15 0 n = some ((0 : Int), RD.head 3 15 0 ++ [IntKind.u8.wrap n, IntKind.u8.wrap (n.fdiv (2 ^ min (Int.toNat 8) IntKind.i32.bits)), IntKind.u8.wrap (n.fdiv (2 ^ min (Int.toNat 16) IntKind.i32.bits)), IntKind.u8.wrap (n.fdiv (2 ^ min (Int.toNat 24) IntKind.i32.bits))]) from (by kernel_rfl), key _ _ _ _ _ k0 k1 k2 k3]; rfl
theorem no_4 (a b n : Int) (hn : -2147483648 ≤ n ∧ n ≤ 2147483647) : Ref (u4 a b n) (RD.valid 4 a b n) := by
  intro h
  unfold u4
  simp only [nd_not, nd_ite]
  simp [RD.valid, RD.okA, RD.form, RD.two, RD.one, RD.alone, RD.okN, RD.reg] at h
  repeat' (refine ite_ref ?_ ?_ <;> intro _)
  all_goals first | rfl | (exfalso; omega)
theorem yes_4 (a b n : Int) (h : RD.valid 4 a b n = true) : encO 4 a b n = some (0, RD.enc 4 a b n) := by
  obtain ⟨ha, hb, hn⟩ := (RD.valid_iff _ _ _ _).1 h
  have hb : b = 0 := by simpa [RD.okA, RD.form] using hb
  subst hb
  rw [encU_eq]
  have key : ∀ l : List Int, ∀ v0 v1 v2 v3 : Int, v0 = n % 256 → v1 = n / 256 % 256 → v2 = n / 65536 % 256 → v3 = n / 16777216 % 256 → l ++ [v0, v1, v2, v3] = l ++ RD.le n 4 := by
    intro l v0 v1 v2 v3 e0 e1 e2 e3; rw [e0, e1, e2, e3]; rfl
  have k0 := u8_wrap n
  have k1 : IntKind.u8.wrap (n.fdiv (2 ^ min (Int.toNat 8) IntKind.i32.bits)) = n / 256 % 256 := by rw [u8_wrap]; exact congrArg (· % 256) (fdiv_ediv n 256)
  have k2 : IntKind.u8.wrap (n.fdiv (2 ^ min (Int.toNat 16) IntKind.i32.bits)) = n / 65536 % 256 := by rw [u8_wrap]; exact congrArg (· % 256) (fdiv_ediv n 65536)
  have k3 : IntKind.u8.wrap (n.fdiv (2 ^ min (Int.toNat 24) IntKind.i32.bits)) = n / 16777216 % 256 := by rw [u8_wrap]; exact congrArg (· % 256) (fdiv_ediv n 16777216)
  rcases mem14 ha with h | h | h | h | h | h | h | h | h | h | h | h | h | h <;> subst h
  · rw [show encU 4 0 0 n = some ((0 : Int), RD.head 4 0 0 ++ [IntKind.u8.wrap n, IntKind.u8.wrap (n.fdiv (2 ^ min (Int.toNat 8) IntKind.i32.bits)), IntKind.u8.wrap (n.fdiv (2 ^ min (Int.toNat 16) IntKind.i32.bits)), IntKind.u8.wrap (n.fdiv (2 ^ min (Int.toNat 24) IntKind.i32.bits))]) from (by kernel_rfl), key _ _ _ _ _ k0 k1 k2 k3]; rfl
  · rw [show encU 4 1 0 n = some ((0 : Int), RD.head 4 1 0 ++ [IntKind.u8.wrap n, IntKind.u8.wrap (n.fdiv (2 ^ min (Int.toNat 8) IntKind.i32.bits)), IntKind.u8.wrap (n.fdiv (2 ^ min (Int.toNat 16) IntKind.i32.bits)), IntKind.u8.wrap (n.fdiv (2 ^ min (Int.toNat 24) IntKind.i32.bits))]) from (by kernel_rfl), key _ _ _ _ _ k0 k1 k2 k3]; rfl
  · rw [show encU 4 2 0 n = some ((0 : Int), RD.head 4 2 0 ++ [IntKind.u8.wrap n, IntKind.u8.wrap (n.fdiv (2 ^ min (Int.toNat 8) IntKind.i32.bits)), IntKind.u8.wrap (n.fdiv (2 ^ min (Int.toNat 16) IntKind.i32.bits)), IntKind.u8.wrap (n.fdiv (2 ^ min (Int.toNat 24) IntKind.i32.bits))]) from (by kernel_rfl), key _ _ _ _ _ k0 k1 k2 k3]; rfl
  · rw [show encU 4 3 0 n = some ((0 : Int), RD.head 4 3 0 ++ [IntKind.u8.wrap n, IntKind.u8.wrap (n.fdiv (2 ^ min (Int.toNat 8) IntKind.i32.bits)), IntKind.u8.wrap (n.fdiv (2 ^ min (Int.toNat 16) IntKind.i32.bits)), IntKind.u8.wrap (n.fdiv (2 ^ min (Int.toNat 24) IntKind.i32.bits))]) from (by kernel_rfl), key _ _ _ _ _ k0 k1 k2 k3]; rfl
  · rw [show encU 4 6 0 n = some ((0 : Int), RD.head 4 6 0 ++ [IntKind.u8.wrap n, IntKind.u8.wrap (n.fdiv (2 ^ min (Int.toNat 8) IntKind.i32.bits)), IntKind.u8.wrap (n.fdiv (2 ^ min (Int.toNat 16) IntKind.i32.bits)), IntKind.u8.wrap (n.fdiv (2 ^ min (Int.toNat 24) IntKind.i32.bits))]) from (by kernel_rfl), key _ _ _ _ _ k0 k1 k2 k3]; rfl
  · rw [show encU 4 7 0 n = some ((0 : Int), RD.head 4 7 0 ++ [IntKind.u8.wrap n, IntKind.u8.wrap (n.fdiv (2 ^ min (Int.toNat 8) IntKind.i32.bits)), IntKind.u8.wrap (n.fdiv (2 ^ min (Int.toNat 16) IntKind.i32.bits)), IntKind.u8.wrap (n.fdiv (2 ^ min (Int.toNat 24) IntKind.i32.bits))]) from (by kernel_rfl), key _ _ _ _ _ k0 k1 k2 k3]; rfl
  · rw [show encU 4 8 0 n = some ((0 : Int), RD.head 4 8 0 ++ [IntKind.u8.wrap n, IntKind.u8.wrap (n.fdiv (2 ^ min (Int.toNat 8) IntKind.i32.bits)), IntKind.u8.wrap (n.fdiv (2 ^ min (Int.toNat 16) IntKind.i32.bits)), IntKind.u8.wrap (n.fdiv (2 ^ min (Int.toNat 24) IntKind.i32.bits))]) from (by kernel_rfl), key _ _ _ _ _ k0 k1 k2 k3]; rfl
  · rw [show encU 4 9 0 n = some ((0 : Int), RD.head 4 9 0 ++ [IntKind.u8.wrap n, IntKind.u8.wrap (n.fdiv (2 ^ min (Int.toNat 8) IntKind.i32.bits)), IntKind.u8.wrap (n.fdiv (2 ^ min (Int.toNat 16) IntKind.i32.bits)), IntKind.u8.wrap (n.fdiv (2 ^ min (Int.toNat 24) IntKind.i32.bits))]) from (by kernel_rfl), key _ _ _ _ _ k0 k1 k2 k3]; rfl
  · rw [show encU 4 10 0 n = some ((0 : Int), RD.head 4 10 0 ++ [IntKind.u8.wrap n, IntKind.u8.wrap (n.fdiv (2 ^ min (Int.toNat 8) IntKind.i32.bits)), IntKind.u8.wrap (n.fdiv (2 ^ min (Int.toNat 16) IntKind.i32.bits)), IntKind.u8.wrap (n.fdiv (2 ^ min (Int.toNat 24) IntKind.i32.bits))]) from (by kernel_rfl), key _ _ _ _ _ k0 k1 k2 k3]; rfl
  · rw [show encU 4 11 0 n = some ((0 : Int), RD.head 4 11 0 ++ [IntKind.u8.wrap n, IntKind.u8.wrap (n.fdiv (2 ^ min (Int.toNat 8) IntKind.i32.bits)), IntKind.u8.wrap (n.fdiv (2 ^ min (Int.toNat 16) IntKind.i32.bits)), IntKind.u8.wrap (n.fdiv (2 ^ min (Int.toNat 24) IntKind.i32.bits))]) from (by kernel_rfl), key _ _ _ _ _ k0 k1 k2 k3]; rfl
  · rw [show encU 4 12 0 n = some ((0 : Int), RD.head 4 12 0 ++ [IntKind.u8.wrap n, IntKind.u8.wrap (n.fdiv (2 ^ min (Int.toNat 8) IntKind.i32.bits)), IntKind.u8.wrap (n.fdiv (2 ^ min (Int.toNat 16) IntKind.i32.bits)), IntKind.u8.wrap (n.fdiv (2 ^ min (Int.toNat 24) IntKind.i32.bits))]) from (by kernel_rfl), key _ _ _ _ _ k0 k1 k2 k3]; rfl
  · rw [show encU 4 13 0 n = some ((0 : Int), RD.head 4 13 0 ++ [IntKind.u8.wrap n, IntKind.u8.wrap (n.fdiv (2 ^ min (Int.toNat 8) IntKind.i32.bits)), IntKind.u8.wrap (n.fdiv (2 ^ min (Int.toNat 16) IntKind.i32.bits)), IntKind.u8.wrap (n.fdiv (2 ^ min (Int.toNat 24) IntKind.i32.bits))]) from (by kernel_rfl), key _ _ _ _ _ k0 k1 k2 k3]; rfl
  · rw [show encU 4 14 0 n = some ((0 : Int), RD.head 4 14 0 ++ [IntKind.u8.wrap n, IntKind.u8.wrap (n.fdiv (2 ^ min (Int.toNat 8) IntKind.i32.bits)), IntKind.u8.wrap (n.fdiv (2 ^ min (Int.toNat 16) IntKind.i32.bits)), IntKind.u8.wrap (n.fdiv (2 ^ min (Int.toNat 24) IntKind.i32.bits))]) from (by kernel_rfl), key _ _ _ _ _ k0 k1 k2 k3]; rfl
  · rw [show encU 4 15 0 n = some ((0 : Int), RD.head 4 15 0 ++ [IntKind.u8.wrap n, IntKind.u8.wrap (n.fdiv (2 ^ min (Int.toNat 8) IntKind.i32.bits)), IntKind.u8.wrap (n.fdiv (2 ^ min (Int.toNat 16) IntKind.i32.bits)), IntKind.u8.wrap (n.fdiv (2 ^ min (Int.toNat 24) IntKind.i32.bits))]) from (by kernel_rfl), key _ _ _ _ _ k0 k1 k2 k3]; rfl
theorem no_5 (a b n : Int) (hn : -2147483648 ≤ n ∧ n ≤ 2147483647) : Ref (u5 a b n) (RD.valid 5 a b n) := by
  intro h
  unfold u5
  simp only [nd_not, nd_ite]
  simp [RD.valid, RD.okA, RD.form, RD.two, RD.one, RD.alone, RD.okN, RD.reg] at h
  repeat' (refine ite_ref ?_ ?_ <;> intro _)
  all_goals first | rfl | (exfalso; omega)
theorem all_5 : (RD.regsOf true).all (fun a => (RD.regsOf true).all fun b => decide (encO 5 a b 0 = some (0, RD.enc 5 a b 0))) = true := by decide +kernel
theorem yes_5 (a b n : Int) (h : RD.valid 5 a b n = true) : encO 5 a b n = some (0, RD.enc 5 a b n) := by
  obtain ⟨ha, hb, hn⟩ := (RD.valid_iff _ _ _ _).1 h
  have hn : n = 0 := by simpa [RD.okN, RD.form, RD.two] using hn
  subst hn
  have := List.all_eq_true.1 (List.all_eq_true.1 all_5 a ((RD.mem_regsOf true a).2 ha)) b ((RD.mem_regsOf true b).2 hb)
  exact of_decide_eq_true this
theorem no_6 (a b n : Int) (hn : -2147483648 ≤ n ∧ n ≤ 2147483647) : Ref (u6 a b n) (RD.valid 6 a b n) := by
  intro h
  unfold u6
  simp only [nd_not, nd_ite]
  simp [RD.valid, RD.okA, RD.form, RD.two, RD.one, RD.alone, RD.okN, RD.reg] at h
  repeat' (refine ite_ref ?_ ?_ <;> intro _)
  all_goals first | rfl | (exfalso; omega)
theorem all_6 : (RD.regsOf true).all (fun a => (RD.regsOf true).all fun b => decide (encO 6 a b 0 = some (0, RD.enc 6 a b 0))) = true := by decide +kernel
theorem yes_6 (a b n : Int) (h : RD.valid 6 a b n = true) : encO 6 a b n = some (0, RD.enc 6 a b n) := by
  obtain ⟨ha, hb, hn⟩ := (RD.valid_iff _ _ _ _).1 h
  have hn : n = 0 := by simpa [RD.okN, RD.form, RD.two] using hn
  subst hn
  have := List.all_eq_true.1 (List.all_eq_true.1 all_6 a ((RD.mem_regsOf true a).2 ha)) b ((RD.mem_regsOf true b).2 hb)
  exact of_decide_eq_true this
theorem no_7 (a b n : Int) (hn : -2147483648 ≤ n ∧ n ≤ 2147483647) : Ref (u7 a b n) (RD.valid 7 a b n) := by
  intro h
  unfold u7
  simp only [nd_not, nd_ite]
  simp [RD.valid, RD.okA, RD.form, RD.two, RD.one, RD.alone, RD.okN, RD.reg] at h
  repeat' (refine ite_ref ?_ ?_ <;> intro _)
  all_goals first | rfl | (exfalso; omega)
theorem all_7 : (RD.regsOf true).all (fun a => (RD.regsOf true).all fun b => decide (encO 7 a b 0 = some (0, RD.enc 7 a b 0))) = true := by decide +kernel
theorem yes_7 (a b n : Int) (h : RD.valid 7 a b n = true) : encO 7 a b n = some (0, RD.enc 7 a b n) := by
  obtain ⟨ha, hb, hn⟩ := (RD.valid_iff _ _ _ _).1 h
  have hn : n = 0 := by simpa [RD.okN, RD.form, RD.two] using hn
  subst hn
  have := List.all_eq_true.1 (List.all_eq_true.1 all_7 a ((RD.mem_regsOf true a).2 ha)) b ((RD.mem_regsOf true b).2 hb)
  exact of_decide_eq_true this
theorem no_8 (a b n : Int) (hn : -2147483648 ≤ n ∧ n ≤ 2147483647) : Ref (u8 a b n) (RD.valid 8 a b n) := by
  intro h
  unfold u8
  simp only [nd_not, nd_ite]
  simp [RD.valid, RD.okA, RD.form, RD.two, RD.one, RD.alone, RD.okN, RD.reg] at h
  repeat' (refine ite_ref ?_ ?_ <;> intro _)
  all_goals first | rfl | (exfalso; omega)
theorem all_8 : (RD.regsOf true).all (fun a => (RD.regsOf true).all fun b => decide (encO 8 a b 0 = some (0, RD.enc 8 a b 0))) = true := by decide +kernel
theorem yes_8 (a b n : Int) (h : RD.valid 8 a b n = true) : encO 8 a b n = some (0, RD.enc 8 a b n) := by
  obtain ⟨ha, hb, hn⟩ := (RD.valid_iff _ _ _ _).1 h
  have hn : n = 0 := by simpa [RD.okN, RD.form, RD.two] using hn
  subst hn
  have := List.all_eq_true.1 (List.all_eq_true.1 all_8 a ((RD.mem_regsOf true a).2 ha)) b ((RD.mem_regsOf true b).2 hb)
  exact of_decide_eq_true this
theorem no_9 (a b n : Int) (hn : -2147483648 ≤ n ∧ n ≤ 2147483647) : Ref (u9 a b n) (RD.valid 9 a b n) := by
  intro h
  unfold u9
  simp only [nd_not, nd_ite]
  simp [RD.valid, RD.okA, RD.form, RD.two, RD.one, RD.alone, RD.okN, RD.reg] at h
  repeat' (refine ite_ref ?_ ?_ <;> intro _)
  all_goals first | rfl | (exfalso; omega)
theorem all_9 : (RD.regsOf true).all (fun a => (RD.regsOf true).all fun b => decide (encO 9 a b 0 = some (0, RD.enc 9 a b 0))) = true := by decide +kernel
theorem yes_9 (a b n : Int) (h : RD.valid 9 a b n = true) : encO 9 a b n = some (0, RD.enc 9 a b n) := by
  obtain ⟨ha, hb, hn⟩ := (RD.valid_iff _ _ _ _).1 h
  have hn : n = 0 := by simpa [RD.okN, RD.form, RD.two] using hn
  subst hn
  have := List.all_eq_true.1 (List.all_eq_true.1 all_9 a ((RD.mem_regsOf true a).2 ha)) b ((RD.mem_regsOf true b).2 hb)
  exact of_decide_eq_true this
theorem no_10 (a b n : Int) (hn : -2147483648 ≤ n ∧ n ≤ 2147483647) : Ref (u10 a b n) (RD.valid 10 a b n) := by
  intro h
  unfold u10
  simp only [nd_not, nd_ite]
  simp [RD.valid, RD.okA, RD.form, RD.two, RD.one, RD.alone, RD.okN, RD.reg] at h
  repeat' (refine ite_ref ?_ ?_ <;> intro _)
  all_goals first | rfl | (exfalso; omega)
theorem all_10 : (RD.regsOf true).all (fun a => (RD.regsOf true).all fun b => decide (encO 10 a b 0 = some (0, RD.enc 10 a b 0))) = true := by decide +kernel
theorem yes_10 (a b n : Int) (h : RD.valid 10 a b n = true) : encO 10 a b n = some (0, RD.enc 10 a b n) := by
  obtain ⟨ha, hb, hn⟩ := (RD.valid_iff _ _ _ _).1 h
  have hn : n = 0 := by simpa [RD.okN, RD.form, RD.two] using hn
  subst hn
  have := List.all_eq_true.1 (List.all_eq_true.1 all_10 a ((RD.mem_regsOf true a).2 ha)) b ((RD.mem_regsOf true b).2 hb)
  exact of_decide_eq_true this
theorem no_11 (a b n : Int) (hn : -2147483648 ≤ n ∧ n ≤ 2147483647) : Ref (u11 a b n) (RD.valid 11 a b n) := by
  intro h
  unfold u11
  simp only [nd_not, nd_ite]
  simp [RD.valid, RD.okA, RD.form, RD.two, RD.one, RD.alone, RD.okN, RD.reg] at h
  repeat' (refine ite_ref ?_ ?_ <;> intro _)
  all_goals first | rfl | (exfalso; omega)
theorem all_11 : (RD.regsOf true).all (fun a => (RD.regsOf true).all fun b => decide (encO 11 a b 0 = some (0, RD.enc 11 a b 0))) = true := by decide +kernel
theorem yes_11 (a b n : Int) (h : RD.valid 11 a b n = true) : encO 11 a b n = some (0, RD.enc 11 a b n) := by
  obtain ⟨ha, hb, hn⟩ := (RD.valid_iff _ _ _ _).1 h
  have hn : n = 0 := by simpa [RD.okN, RD.form, RD.two] using hn
  subst hn
  have := List.all_eq_true.1 (List.all_eq_true.1 all_11 a ((RD.mem_regsOf true a).2 ha)) b ((RD.mem_regsOf true b).2 hb)
  exact of_decide_eq_true this
theorem no_12 (a b n : Int) (hn : -2147483648 ≤ n ∧ n ≤ 2147483647) : Ref (u12 a b n) (RD.valid 12 a b n) := by
  intro h
  unfold u12
  simp only [nd_not, nd_ite]
  simp [RD.valid, RD.okA, RD.form, RD.two, RD.one, RD.alone, RD.okN, RD.reg] at h
  repeat' (refine ite_ref ?_ ?_ <;> intro _)
  all_goals first | rfl | (exfalso; omega)
theorem all_12 : (RD.regsOf true).all (fun a => decide (encO 12 a 0 0 = some (0, RD.enc 12 a 0 0))) = true := by decide +kernel
theorem yes_12 (a b n : Int) (h : RD.valid 12 a b n = true) : encO 12 a b n = some (0, RD.enc 12 a b n) := by
  obtain ⟨ha, hb, hn⟩ := (RD.valid_iff _ _ _ _).1 h
  have hn : n = 0 := by simpa [RD.okN, RD.form, RD.one] using hn
  have hb : b = 0 := by simpa [RD.okA, RD.form, RD.one] using hb
  subst hn hb
  exact of_decide_eq_true (List.all_eq_true.1 all_12 a ((RD.mem_regsOf true a).2 ha))
theorem no_13 (a b n : Int) (hn : -2147483648 ≤ n ∧ n ≤ 2147483647) : Ref (u13 a b n) (RD.valid 13 a b n) := by
  intro h
  unfold u13
  simp only [nd_not, nd_ite]
  simp [RD.valid, RD.okA, RD.form, RD.two, RD.one, RD.alone, RD.okN, RD.reg] at h
  repeat' (refine ite_ref ?_ ?_ <;> intro _)
  all_goals first | rfl | (exfalso; omega)
theorem yes_13 (a b n : Int) (h : RD.valid 13 a b n = true) : encO 13 a b n = some (0, RD.enc 13 a b n) := by
  obtain ⟨ha, hb, hn⟩ := (RD.valid_iff _ _ _ _).1 h
  have hn : n = 0 := by simpa [RD.okN, RD.form, RD.alone] using hn
  have hb : b = 0 := by simpa [RD.okA, RD.form, RD.alone] using hb
  have ha : a = 0 := by simpa [RD.okA, RD.form, RD.alone] using ha
  subst hn hb ha
  decide +kernel
theorem no_14 (a b n : Int) (hn : -2147483648 ≤ n ∧ n ≤ 2147483647) : Ref (u14 a b n) (RD.valid 14 a b n) := by
  intro h
  unfold u14
  simp only [nd_not, nd_ite]
  simp [RD.valid, RD.okA, RD.form, RD.two, RD.one, RD.alone, RD.okN, RD.reg] at h
  repeat' (refine ite_ref ?_ ?_ <;> intro _)
  all_goals first | rfl | (exfalso; omega)
theorem all_14 : (RD.regsOf true).all (fun a => decide (encO 14 a 0 0 = some (0, RD.enc 14 a 0 0))) = true := by decide +kernel
theorem yes_14 (a b n : Int) (h : RD.valid 14 a b n = true) : encO 14 a b n = some (0, RD.enc 14 a b n) := by
  obtain ⟨ha, hb, hn⟩ := (RD.valid_iff _ _ _ _).1 h
  have hn : n = 0 := by simpa [RD.okN, RD.form, RD.one] using hn
  have hb : b = 0 := by simpa [RD.okA, RD.form, RD.one] using hb
  subst hn hb
  exact of_decide_eq_true (List.all_eq_true.1 all_14 a ((RD.mem_regsOf true a).2 ha))
theorem no_15 (a b n : Int) (hn : -2147483648 ≤ n ∧ n ≤ 2147483647) : Ref (u15 a b n) (RD.valid 15 a b n) := by
  intro h
  unfold u15
  simp only [nd_not, nd_ite]
  simp [RD.valid, RD.okA, RD.form, RD.two, RD.one, RD.alone, RD.okN, RD.reg] at h
  repeat' (refine ite_ref ?_ ?_ <;> intro _)
  all_goals first | rfl | (exfalso; omega)
theorem all_15 : (RD.regsOf true).all (fun a => decide (encO 15 a 0 0 = some (0, RD.enc 15 a 0 0))) = true := by decide +kernel
theorem yes_15 (a b n : Int) (h : RD.valid 15 a b n = true) : encO 15 a b n = some (0, RD.enc 15 a b n) := by
  obtain ⟨ha, hb, hn⟩ := (RD.valid_iff _ _ _ _).1 h
  have hn : n = 0 := by simpa [RD.okN, RD.form, RD.one] using hn
  have hb : b = 0 := by simpa [RD.okA, RD.form, RD.one] using hb
  subst hn hb
  exact of_decide_eq_true (List.all_eq_true.1 all_15 a ((RD.mem_regsOf true a).2 ha))
theorem no_16 (a b n : Int) (hn : -2147483648 ≤ n ∧ n ≤ 2147483647) : Ref (u16 a b n) (RD.valid 16 a b n) := by
  intro h
  unfold u16
  simp only [nd_not, nd_ite]
  simp [RD.valid, RD.okA, RD.form, RD.two, RD.one, RD.alone, RD.okN, RD.reg] at h
  repeat' (refine ite_ref ?_ ?_ <;> intro _)
  all_goals first | rfl | (exfalso; omega)
theorem all_16 : (RD.regsOf true).all (fun a => decide (encO 16 a 0 0 = some (0, RD.enc 16 a 0 0))) = true := by decide +kernel
theorem yes_16 (a b n : Int) (h : RD.valid 16 a b n = true) : encO 16 a b n = some (0, RD.enc 16 a b n) := by
  obtain ⟨ha, hb, hn⟩ := (RD.valid_iff _ _ _ _).1 h
  have hn : n = 0 := by simpa [RD.okN, RD.form, RD.one] using hn
  have hb : b = 0 := by simpa [RD.okA, RD.form, RD.one] using hb
  subst hn hb
  exact of_decide_eq_true (List.all_eq_true.1 all_16 a ((RD.mem_regsOf true a).2 ha))
theorem no_17 (a b n : Int) (hn : -2147483648 ≤ n ∧ n ≤ 2147483647) : Ref (u17 a b n) (RD.valid 17 a b n) := by
  intro h
  unfold u17
  simp only [nd_not, nd_ite]
  simp [RD.valid, RD.okA, RD.form, RD.two, RD.one, RD.alone, RD.okN, RD.reg] at h
  repeat' (refine ite_ref ?_ ?_ <;> intro _)
  all_goals first | rfl | (exfalso; omega)
theorem all_17 : (RD.regsOf true).all (fun a => decide (encO 17 a 0 0 = some (0, RD.enc 17 a 0 0))) = true := by decide +kernel
theorem yes_17 (a b n : Int) (h : RD.valid 17 a b n = true) : encO 17 a b n = some (0, RD.enc 17 a b n) := by
  obtain ⟨ha, hb, hn⟩ := (RD.valid_iff _ _ _ _).1 h
  have hn : n = 0 := by simpa [RD.okN, RD.form, RD.one] using hn
  have hb : b = 0 := by simpa [RD.okA, RD.form, RD.one] using hb
  subst hn hb
  exact of_decide_eq_true (List.all_eq_true.1 all_17 a ((RD.mem_regsOf true a).2 ha))
theorem no_18 (a b n : Int) (hn : -2147483648 ≤ n ∧ n ≤ 2147483647) : Ref (u18 a b n) (RD.valid 18 a b n) := by
  intro h
  unfold u18
  simp only [nd_not, nd_ite]
  simp [RD.valid, RD.okA, RD.form, RD.two, RD.one, RD.alone, RD.okN, RD.reg] at h
  repeat' (refine ite_ref ?_ ?_ <;> intro _)
  all_goals first | rfl | (exfalso; omega)
theorem yes_18 (a b n : Int) (h : RD.valid 18 a b n = true) : encO 18 a b n = some (0, RD.enc 18 a b n) := by
  obtain ⟨ha, hb, hn⟩ := (RD.valid_iff _ _ _ _).1 h
  have hb : b = 0 := by simpa [RD.okA, RD.form, RD.alone] using hb
  have ha : a = 0 := by simpa [RD.okA, RD.form, RD.alone] using ha
  simp [RD.okN, RD.form, RD.alone] at hn
  subst hb ha
  have e : RD.enc 18 0 0 n = (RD.form 18).code ++ RD.le n (RD.form 18).nb := rfl
  rw [encU_eq, e]
  have e2 : encU 18 0 0 n = u18 0 0 n := rfl
  rw [e2]
  unfold u18
  simp only [nd_not, nd_ite]
  simp [RD.le, RD.form, RD.alone, u8_wrap, IntKind.bits, hn]
  exact ⟨congrArg (· % 256) (fdiv_ediv n 256), congrArg (· % 256) (fdiv_ediv n 65536), congrArg (· % 256) (fdiv_ediv n 16777216)⟩
theorem no_19 (a b n : Int) (hn : -2147483648 ≤ n ∧ n ≤ 2147483647) : Ref (u19 a b n) (RD.valid 19 a b n) := by
  intro h
  unfold u19
  simp only [nd_not, nd_ite]
  simp [RD.valid, RD.okA, RD.form, RD.two, RD.one, RD.alone, RD.okN, RD.reg] at h
  repeat' (refine ite_ref ?_ ?_ <;> intro _)
  all_goals first | rfl | (exfalso; omega)
theorem yes_19 (a b n : Int) (h : RD.valid 19 a b n = true) : encO 19 a b n = some (0, RD.enc 19 a b n) := by
  obtain ⟨ha, hb, hn⟩ := (RD.valid_iff _ _ _ _).1 h
  have hb : b = 0 := by simpa [RD.okA, RD.form, RD.alone] using hb
  have ha : a = 0 := by simpa [RD.okA, RD.form, RD.alone] using ha
  simp [RD.okN, RD.form, RD.alone] at hn
  subst hb ha
  have e : RD.enc 19 0 0 n = (RD.form 19).code ++ RD.le n (RD.form 19).nb := rfl
  rw [encU_eq, e]
  have e2 : encU 19 0 0 n = u19 0 0 n := rfl
  rw [e2]
  unfold u19
  simp only [nd_not, nd_ite]
  simp [RD.le, RD.form, RD.alone, u8_wrap, IntKind.bits, hn]
  exact ⟨congrArg (· % 256) (fdiv_ediv n 256), congrArg (· % 256) (fdiv_ediv n 65536), congrArg (· % 256) (fdiv_ediv n 16777216)⟩
theorem no_20 (a b n : Int) (hn : -2147483648 ≤ n ∧ n ≤ 2147483647) : Ref (u20 a b n) (RD.valid 20 a b n) := by
  intro h
  unfold u20
  simp only [nd_not, nd_ite]
  simp [RD.valid, RD.okA, RD.form, RD.two, RD.one, RD.alone, RD.okN, RD.reg] at h
  repeat' (refine ite_ref ?_ ?_ <;> intro _)
  all_goals first | rfl | (exfalso; omega)
theorem yes_20 (a b n : Int) (h : RD.valid 20 a b n = true) : encO 20 a b n = some (0, RD.enc 20 a b n) := by
  obtain ⟨ha, hb, hn⟩ := (RD.valid_iff _ _ _ _).1 h
  have hb : b = 0 := by simpa [RD.okA, RD.form, RD.alone] using hb
  have ha : a = 0 := by simpa [RD.okA, RD.form, RD.alone] using ha
  simp [RD.okN, RD.form, RD.alone] at hn
  subst hb ha
  have e : RD.enc 20 0 0 n = (RD.form 20).code ++ RD.le n (RD.form 20).nb := rfl
  rw [encU_eq, e]
  have e2 : encU 20 0 0 n = u20 0 0 n := rfl
  rw [e2]
  unfold u20
  simp only [nd_not, nd_ite]
  simp [RD.le, RD.form, RD.alone, u8_wrap, IntKind.bits, hn]
  exact ⟨congrArg (· % 256) (fdiv_ediv n 256), congrArg (· % 256) (fdiv_ediv n 65536), congrArg (· % 256) (fdiv_ediv n 16777216)⟩
theorem no_21 (a b n : Int) (hn : -2147483648 ≤ n ∧ n ≤ 2147483647) : Ref (u21 a b n) (RD.valid 21 a b n) := by
  intro h
  unfold u21
  simp only [nd_not, nd_ite]
  simp [RD.valid, RD.okA, RD.form, RD.two, RD.one, RD.alone, RD.okN, RD.reg] at h
  repeat' (refine ite_ref ?_ ?_ <;> intro _)
  all_goals first | rfl | (exfalso; omega)
theorem yes_21 (a b n : Int) (h : RD.valid 21 a b n = true) : encO 21 a b n = some (0, RD.enc 21 a b n) := by
  obtain ⟨ha, hb, hn⟩ := (RD.valid_iff _ _ _ _).1 h
  have hb : b = 0 := by simpa [RD.okA, RD.form, RD.alone] using hb
  have ha : a = 0 := by simpa [RD.okA, RD.form, RD.alone] using ha
  simp [RD.okN, RD.form, RD.alone] at hn
  subst hb ha
  have e : RD.enc 21 0 0 n = (RD.form 21).code ++ RD.le n (RD.form 21).nb := rfl
  rw [encU_eq, e]
  have e2 : encU 21 0 0 n = u21 0 0 n := rfl
  rw [e2]
  unfold u21
  simp only [nd_not, nd_ite]
  simp [RD.le, RD.form, RD.alone, u8_wrap, IntKind.bits, hn]
  exact ⟨congrArg (· % 256) (fdiv_ediv n 256), congrArg (· % 256) (fdiv_ediv n 65536), congrArg (· % 256) (fdiv_ediv n 16777216)⟩
theorem no_22 (a b n : Int) (hn : -2147483648 ≤ n ∧ n ≤ 2147483647) : Ref (u22 a b n) (RD.valid 22 a b n) := by
  intro h
  unfold u22
  simp only [nd_not, nd_ite]
  simp [RD.valid, RD.okA, RD.form, RD.two, RD.one, RD.alone, RD.okN, RD.reg] at h
  repeat' (refine ite_ref ?_ ?_ <;> intro _)
  all_goals first | rfl | (exfalso; omega)
theorem yes_22 (a b n : Int) (h : RD.valid 22 a b n = true) : encO 22 a b n = some (0, RD.enc 22 a b n) := by
  obtain ⟨ha, hb, hn⟩ := (RD.valid_iff _ _ _ _).1 h
  have hb : b = 0 := by simpa [RD.okA, RD.form, RD.alone] using hb
  have ha : a = 0 := by simpa [RD.okA, RD.form, RD.alone] using ha
  simp [RD.okN, RD.form, RD.alone] at hn
  subst hb ha
  have e : RD.enc 22 0 0 n = (RD.form 22).code ++ RD.le n (RD.form 22).nb := rfl
  rw [encU_eq, e]
  have e2 : encU 22 0 0 n = u22 0 0 n := rfl
  rw [e2]
  unfold u22
  simp only [nd_not, nd_ite]
  simp [RD.le, RD.form, RD.alone, u8_wrap, IntKind.bits, hn]
  exact ⟨congrArg (· % 256) (fdiv_ediv n 256), congrArg (· % 256) (fdiv_ediv n 65536), congrArg (· % 256) (fdiv_ediv n 16777216)⟩
theorem no_23 (a b n : Int) (hn : -2147483648 ≤ n ∧ n ≤ 2147483647) : Ref (u23 a b n) (RD.valid 23 a b n) := by
  intro h
  unfold u23
  simp only [nd_not, nd_ite]
  simp [RD.valid, RD.okA, RD.form, RD.two, RD.one, RD.alone, RD.okN, RD.reg] at h
  repeat' (refine ite_ref ?_ ?_ <;> intro _)
  all_goals first | rfl | (exfalso; omega)
theorem yes_23 (a b n : Int) (h : RD.valid 23 a b n = true) : encO 23 a b n = some (0, RD.enc 23 a b n) := by
  obtain ⟨ha, hb, hn⟩ := (RD.valid_iff _ _ _ _).1 h
  have hb : b = 0 := by simpa [RD.okA, RD.form, RD.alone] using hb
  have ha : a = 0 := by simpa [RD.okA, RD.form, RD.alone] using ha
  simp [RD.okN, RD.form, RD.alone] at hn
  subst hb ha
  have e : RD.enc 23 0 0 n = (RD.form 23).code ++ RD.le n (RD.form 23).nb := rfl
  rw [encU_eq, e]
  have e2 : encU 23 0 0 n = u23 0 0 n := rfl
  rw [e2]
  unfold u23
  simp only [nd_not, nd_ite]
  simp [RD.le, RD.form, RD.alone, u8_wrap, IntKind.bits, hn]
  exact ⟨congrArg (· % 256) (fdiv_ediv n 256), congrArg (· % 256) (fdiv_ediv n 65536), congrArg (· % 256) (fdiv_ediv n 16777216)⟩
theorem no_24 (a b n : Int) (hn : -2147483648 ≤ n ∧ n ≤ 2147483647) : Ref (u24 a b n) (RD.valid 24 a b n) := by
  intro h
  unfold u24
  simp only [nd_not, nd_ite]
  simp [RD.valid, RD.okA, RD.form, RD.two, RD.one, RD.alone, RD.okN, RD.reg] at h
  repeat' (refine ite_ref ?_ ?_ <;> intro _)
  all_goals first | rfl | (exfalso; omega)
theorem yes_24 (a b n : Int) (h : RD.valid 24 a b n = true) : encO 24 a b n = some (0, RD.enc 24 a b n) := by
  obtain ⟨ha, hb, hn⟩ := (RD.valid_iff _ _ _ _).1 h
  have hb : b = 0 := by simpa [RD.okA, RD.form, RD.alone] using hb
  have ha : a = 0 := by simpa [RD.okA, RD.form, RD.alone] using ha
  simp [RD.okN, RD.form, RD.alone] at hn
  subst hb ha
  have e : RD.enc 24 0 0 n = (RD.form 24).code ++ RD.le n (RD.form 24).nb := rfl
  rw [encU_eq, e]
  have e2 : encU 24 0 0 n = u24 0 0 n := rfl
  rw [e2]
  unfold u24
  simp only [nd_not, nd_ite]
  simp [RD.le, RD.form, RD.alone, u8_wrap, IntKind.bits, hn]
  exact ⟨congrArg (· % 256) (fdiv_ediv n 256), congrArg (· % 256) (fdiv_ediv n 65536), congrArg (· % 256) (fdiv_ediv n 16777216)⟩
theorem no_25 (a b n : Int) (hn : -2147483648 ≤ n ∧ n ≤ 2147483647) : Ref (u25 a b n) (RD.valid 25 a b n) := by
  intro h
  unfold u25
  simp only [nd_not, nd_ite]
  simp [RD.valid, RD.okA, RD.form, RD.two, RD.one, RD.alone, RD.okN, RD.reg] at h
  repeat' (refine ite_ref ?_ ?_ <;> intro _)
  all_goals first | rfl | (exfalso; omega)
theorem yes_25 (a b n : Int) (h : RD.valid 25 a b n = true) : encO 25 a b n = some (0, RD.enc 25 a b n) := by
  obtain ⟨ha, hb, hn⟩ := (RD.valid_iff _ _ _ _).1 h
  have hn : n = 0 := by simpa [RD.okN, RD.form, RD.alone] using hn
  have hb : b = 0 := by simpa [RD.okA, RD.form, RD.alone] using hb
  have ha : a = 0 := by simpa [RD.okA, RD.form, RD.alone] using ha
  subst hn hb ha
  decide +kernel
theorem no_26 (a b n : Int) (hn : -2147483648 ≤ n ∧ n ≤ 2147483647) : Ref (u26 a b n) (RD.valid 26 a b n) := by
  intro h
  unfold u26
  simp only [nd_not, nd_ite]
  simp [RD.valid, RD.okA, RD.form, RD.two, RD.one, RD.alone, RD.okN, RD.reg] at h
  repeat' (refine ite_ref ?_ ?_ <;> intro _)
  all_goals first | rfl | (exfalso; omega)
theorem yes_26 (a b n : Int) (h : RD.valid 26 a b n = true) : encO 26 a b n = some (0, RD.enc 26 a b n) := by
  obtain ⟨ha, hb, hn⟩ := (RD.valid_iff _ _ _ _).1 h
  have hb : b = 0 := by simpa [RD.okA, RD.form, RD.alone] using hb
  have ha : a = 0 := by simpa [RD.okA, RD.form, RD.alone] using ha
  simp [RD.okN, RD.form, RD.alone] at hn
  subst hb ha
  have e : RD.enc 26 0 0 n = (RD.form 26).code ++ RD.le n (RD.form 26).nb := rfl
  rw [encU_eq, e]
  have e2 : encU 26 0 0 n = u26 0 0 n := rfl
  rw [e2]
  unfold u26
  simp only [nd_not, nd_ite]
  simp [RD.le, RD.form, RD.alone, u8_wrap, IntKind.bits, hn]
  rw [if_neg (by omega), if_neg (by omega)]
theorem encO_yes (k : Nat) (h1 : 1 ≤ k) (h2 : k ≤ 26) (a b n : Int) (h : RD.valid k a b n = true) : encO k a b n = some (0, RD.enc k a b n) := by
  rcases RD.op_cases k h1 h2 with e | e | e | e | e | e | e | e | e | e | e | e | e | e | e | e | e | e | e | e | e | e | e | e | e | e <;> subst e
  · exact yes_1 a b n h
  · exact yes_2 a b n h
  · exact yes_3 a b n h
  · exact yes_4 a b n h
  · exact yes_5 a b n h
  · exact yes_6 a b n h
  · exact yes_7 a b n h
  · exact yes_8 a b n h
  · exact yes_9 a b n h
  · exact yes_10 a b n h
  · exact yes_11 a b n h
  · exact yes_12 a b n h
  · exact yes_13 a b n h
  · exact yes_14 a b n h
  · exact yes_15 a b n h
  · exact yes_16 a b n h
  · exact yes_17 a b n h
  · exact yes_18 a b n h
  · exact yes_19 a b n h
  · exact yes_20 a b n h
  · exact yes_21 a b n h
  · exact yes_22 a b n h
  · exact yes_23 a b n h
  · exact yes_24 a b n h
  · exact yes_25 a b n h
  · exact yes_26 a b n h
theorem enc_yes (k : Nat) (h1 : 1 ≤ k) (h2 : k ≤ 26) (a b n : Int) (h : RD.valid k a b n = true) : encE k a b n = 0 ∧ encB k a b n = RD.enc k a b n := by
  have key : encO k a b n = some (0, RD.enc k a b n) := by
    rcases RD.op_cases k h1 h2 with e | e | e | e | e | e | e | e | e | e | e | e | e | e | e | e | e | e | e | e | e | e | e | e | e | e <;> subst e
    · exact yes_1 a b n h
    · exact yes_2 a b n h
    · exact yes_3 a b n h
    · exact yes_4 a b n h
    · exact yes_5 a b n h
    · exact yes_6 a b n h
    · exact yes_7 a b n h
    · exact yes_8 a b n h
    · exact yes_9 a b n h
    · exact yes_10 a b n h
    · exact yes_11 a b n h
    · exact yes_12 a b n h
    · exact yes_13 a b n h
    · exact yes_14 a b n h
    · exact yes_15 a b n h
    · exact yes_16 a b n h
    · exact yes_17 a b n h
    · exact yes_18 a b n h
    · exact yes_19 a b n h
    · exact yes_20 a b n h
    · exact yes_21 a b n h
    · exact yes_22 a b n h
    · exact yes_23 a b n h
    · exact yes_24 a b n h
    · exact yes_25 a b n h
    · exact yes_26 a b n h
  unfold encE encB
  rw [key]; exact ⟨rfl, rfl⟩
theorem enc_no (k : Nat) (h1 : 1 ≤ k) (h2 : k ≤ 26) (a b n : Int) (hn : -2147483648 ≤ n ∧ n ≤ 2147483647) (h : RD.valid k a b n = false) : encE k a b n = 1 ∧ encB k a b n = [] := by
  have key : encO k a b n = some (1, []) := by
    rw [encU_eq]
    rcases RD.op_cases k h1 h2 with e | e | e | e | e | e | e | e | e | e | e | e | e | e | e | e | e | e | e | e | e | e | e | e | e | e <;> subst e
    · exact no_1 a b n hn h
    · exact no_2 a b n hn h
    · exact no_3 a b n hn h
    · exact no_4 a b n hn h
    · exact no_5 a b n hn h
    · exact no_6 a b n hn h
    · exact no_7 a b n hn h
    · exact no_8 a b n hn h
    · exact no_9 a b n hn h
    · exact no_10 a b n hn h
    · exact no_11 a b n hn h
    · exact no_12 a b n hn h
    · exact no_13 a b n hn h
    · exact no_14 a b n hn h
    · exact no_15 a b n hn h
    · exact no_16 a b n hn h
    · exact no_17 a b n hn h
    · exact no_18 a b n hn h
    · exact no_19 a b n hn h
    · exact no_20 a b n hn h
    · exact no_21 a b n hn h
    · exact no_22 a b n hn h
    · exact no_23 a b n hn h
    · exact no_24 a b n hn h
    · exact no_25 a b n hn h
    · exact no_26 a b n hn h
  unfold encE encB
  rw [key]; exact ⟨rfl, rfl⟩
end Go.Proofs.Ytpcocfdgcihpdaa.rdw
