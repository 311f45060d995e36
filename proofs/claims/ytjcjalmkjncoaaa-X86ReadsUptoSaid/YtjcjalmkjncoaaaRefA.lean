/-
  caraferef19: begins, takes, reg.
-/
import Derived.Test.YtjcjalmkjncoaaaBkA
namespace Go.Proofs.Ytjcjalmkjncoaaa.rdw
open Go Go.RowKit
open Go.Proofs.Ytjcjalmkjncoaaa Go.Proofs.Ytjcjalmkjncoaaa.wr
set_option linter.unusedVariables false
set_option linter.unusedSimpArgs false
theorem drewN2 (w : World) (j n : Nat) : (w.drewN j).drewN n = w.drewN (j + n) := by simp [World.drewN, Nat.add_assoc]
theorem begins_all (x y : List Int) : RD.begins x y = true ↔ ∀ j, j < x.length → j < y.length → x.getD j 0 = y.getD j 0 := by
  induction x generalizing y with
  | nil => simp [RD.begins]
  | cons a l ih =>
    cases y with
    | nil => simp [RD.begins]
    | cons b m =>
      simp only [RD.begins, Bool.and_eq_true, decide_eq_true_eq, ih]
      constructor
      · rintro ⟨rfl, h⟩ j h1 h2
        cases j with
        | zero => rfl
        | succ j => simpa using h j (by simpa using h1) (by simpa using h2)
      · intro h
        exact ⟨by simpa using h 0 (by simp) (by simp), fun j h1 h2 => by simpa using h (j + 1) (by simpa using h1) (by simpa using h2)⟩
theorem begins_no {x y : List Int} {i : Nat} (h1 : i < x.length) (h2 : i < y.length) (h : x.getD i 0 ≠ y.getD i 0) : RD.begins x y = false := by
  cases hb : RD.begins x y with
  | false => rfl
  | true => exact absurd ((begins_all x y).1 hb i h1 h2) h
set_option maxHeartbeats 1600000 in
set_option maxRecDepth 1000000 in
theorem begins34 (bx ox cx by' oy cy : Nat) (x y : List Int) (w : World) (hl : x.length ≤ 9223372036854775806) (hx : Row w bx ox x) (hy : Row w by' oy y) :
    Calls Try.prog 34 #[.slice (some ⟨bx, ox, none⟩) x.length cx, .slice (some ⟨by', oy, none⟩) y.length cy] w fun e w' => e = .returned (.bool (RD.begins x y)) ∧ ∃ j, w' = w.drewN j := by
  have HX := Lib.hid hx; clear hx
  have HY := Lib.hid hy; clear hy
  go_enter Try.func34, Try.ntmps34
  go_wp2
  go_loopw [5] (fun s wq => ∃ i j : Nat, i ≤ x.length ∧ i ≤ y.length ∧ s = .int .i64 i ∧ wq = w.drewN j ∧ Hid (∀ k, k < i → x.getD k 0 = y.getD k 0)) (fun s _ => x.length - (intOf s).toNat)
  case atStart => exact ⟨0, 0, Nat.zero_le _, Nat.zero_le _, rfl, rfl, Lib.hid fun k hk => by omega⟩
  case round =>
    obtain ⟨i, j, hi1, hi2, rfl, rfl, hall⟩ := hrel
    by_cases c1 : i < x.length
    · by_cases c2 : i < y.length
      · obtain ⟨a, ha⟩ : ∃ a, a = x.getD i 0 := ⟨_, rfl⟩
        obtain ⟨b, hb⟩ : ∃ b, b = y.getD i 0 := ⟨_, rfl⟩
        have e1 := HX.out.2 i c1
        have e2 := HY.out.2 i c2
        rw [← ha] at e1
        rw [← hb] at e2
        by_cases hab : a = b
        · have hal : Hid (∀ k, k < i + 1 → x.getD k 0 = y.getD k 0) := Lib.hid fun k hk => by
            rcases Nat.lt_or_ge k i with h | h
            · exact hall.out k h
            · obtain rfl : k = i := by omega
              rw [← ha, ← hb, hab]
          have ht : (a == b) = true := by simp [hab]
          have HA := Lib.hid ha; clear ha
          have HB := Lib.hid hb; clear hb
          clear hab
          go_wp2_with fail
          go_quiet (fail)
          go_wp2_with fail
          go_roundw
          case rel => exact ⟨i + 1, _, by omega, by omega, by go_num, rfl, hal⟩
          case measure => simp [intOf]; omega
        · have hno : RD.begins x y = false := begins_no c1 c2 (by rw [← ha, ← hb]; exact hab)
          have ht : (a == b) = false := by simp [hab]
          have HA := Lib.hid ha; clear ha
          have HB := Lib.hid hb; clear hb
          clear hab
          go_wp2_with fail
          go_quiet (fail)
          go_wp2_with fail
          go_ret
          exact ⟨by rw [hno]; rfl, _, drewN2 _ _ _⟩
      · have hyes : RD.begins x y = true := (begins_all x y).2 fun k h1 h2 => hall.out k (by omega)
        go_wp2_with fail
        go_ret
        exact ⟨by rw [hyes]; rfl, _, rfl⟩
    · have hyes : RD.begins x y = true := (begins_all x y).2 fun k h1 h2 => hall.out k (by omega)
      go_wp2_with fail
      go_ret
      exact ⟨by rw [hyes]; rfl, _, rfl⟩
theorem results28 : Try.f28.results = #[.tmp 2, .tmp 3, .tmp 4] := by kernel_rfl
set_option maxHeartbeats 1600000 in
set_option maxRecDepth 1000000 in
theorem takes28 (k : Nat) (h1 : 1 ≤ k) (h2 : k ≤ 26) (w : World) : Calls Try.prog 28 #[.int .i64 (k : Int)] w fun e w' => e = .returned (.tuple #[.bool (RD.form k).a, .bool (RD.form k).b, .bool (decide (0 < (RD.form k).nb))]) ∧ w' = w := by
  rcases RD.op_cases k h1 h2 with e | e | e | e | e | e | e | e | e | e | e | e | e | e | e | e | e | e | e | e | e | e | e | e | e | e <;> subst e <;>
    (go_enter Try.func28, Try.ntmps28
     go_wp2_with fail
     refine bodyPost_ret (v := _) (by simp [results, results28, go_sem] <;> decide) rfl ⟨rfl, rfl⟩)
theorem reg29 (r : Nat) (h : r < 16) (w : World) : Calls Try.prog 29 #[.int .i64 (r : Int)] w fun e w' => e = .returned (.bool (RD.reg r)) ∧ w' = w := by
  have : r = 0 ∨ r = 1 ∨ r = 2 ∨ r = 3 ∨ r = 4 ∨ r = 5 ∨ r = 6 ∨ r = 7 ∨ r = 8 ∨ r = 9 ∨ r = 10 ∨ r = 11 ∨ r = 12 ∨ r = 13 ∨ r = 14 ∨ r = 15 := by omega
  rcases this with e | e | e | e | e | e | e | e | e | e | e | e | e | e | e | e <;> subst e <;>
    (go_enter Try.func29, Try.ntmps29
     go_wp2_with fail
     go_ret
     exact ⟨rfl, rfl⟩)
end Go.Proofs.Ytjcjalmkjncoaaa.rdw
