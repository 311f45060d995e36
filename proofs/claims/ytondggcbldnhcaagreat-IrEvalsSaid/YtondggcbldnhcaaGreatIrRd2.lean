/-
  caraferef21.Reads and Writes: what they answer.
-/
import Derived.Test.YtondggcbldnhcaaGreatIrRd
import Derived.Test.YtondggcbldnhcaaGreatIrAr2
namespace Go.Proofs.YtondggcbldnhcaaGreat.irx
open Go Go.RowKit
open Go.Proofs.YtondggcbldnhcaaGreat
set_option linter.unusedVariables false
set_option linter.unusedSimpArgs false
/-- the registers that the document's instruction reads -/
def rl2 (op a b n : Int) : List Int := if op = 3 then [a, b] else if op = 6 then (if second n = true then [a, b] else [a]) else if rdA op = true then [a] else []
theorem lit1 (w : World) (m : Array Value) (t : TypeId) (l : List Int) (h : l.length ≤ 9) : ((w.alloc (.cells m t)).alloc (.cells (ints l).toArray 3)).ownsRow (w.heap.size + 1) 3 1 (.slice (some ⟨w.heap.size + 1, 0, none⟩) l.length l.length) l.length (ints l) := by
  have := World.ownsRow_lit (base := w.heap.size + 1) (e := 3) (size := 1) (w.alloc (.cells m t)) (ints l).toArray l.length (by simp) (by unfold maxLen; omega) (by simp [ints])
  simpa using this
theorem below2 (w : World) (o o' : Obj) : Below w.heap.size w ((w.alloc o).alloc o') := ((Below.refl _ _).alloc (Nat.le_refl _) o).alloc (by simp) o'

set_option maxHeartbeats 1600000 in
set_option maxRecDepth 1000000 in
theorem reads22_2 (ds a b n to : Int) (w : World) : Calls Tryz.prog 22 #[inst 2 ds a b n to] w fun e w' =>
    ∃ v, e = .returned v ∧ w'.ownsRow (w.heap.size + 1) 3 1 v (rl2 2 a b n).length (ints (rl2 2 a b n)) ∧ Below w.heap.size w w' := by
  have e : rl2 2 a b n = [a] := by simp [rl2, rdA]
  rw [e]
  go_enter Tryz.func22, Tryz.ntmps22
  go_wp2
  go_ret
  exact ⟨_, rfl, lit1 w #[.int .i64 2, .int .i64 ds, .int .i64 a, .int .i64 b, .int .i32 n, .int .i64 to] 45 [a] (by simp), below2 _ _ _⟩
set_option maxHeartbeats 1600000 in
set_option maxRecDepth 1000000 in
theorem reads22_4 (ds a b n to : Int) (w : World) : Calls Tryz.prog 22 #[inst 4 ds a b n to] w fun e w' =>
    ∃ v, e = .returned v ∧ w'.ownsRow (w.heap.size + 1) 3 1 v (rl2 4 a b n).length (ints (rl2 4 a b n)) ∧ Below w.heap.size w w' := by
  have e : rl2 4 a b n = [a] := by simp [rl2, rdA]
  rw [e]
  go_enter Tryz.func22, Tryz.ntmps22
  go_wp2
  go_ret
  exact ⟨_, rfl, lit1 w #[.int .i64 4, .int .i64 ds, .int .i64 a, .int .i64 b, .int .i32 n, .int .i64 to] 45 [a] (by simp), below2 _ _ _⟩
set_option maxHeartbeats 1600000 in
set_option maxRecDepth 1000000 in
theorem reads22_7 (ds a b n to : Int) (w : World) : Calls Tryz.prog 22 #[inst 7 ds a b n to] w fun e w' =>
    ∃ v, e = .returned v ∧ w'.ownsRow (w.heap.size + 1) 3 1 v (rl2 7 a b n).length (ints (rl2 7 a b n)) ∧ Below w.heap.size w w' := by
  have e : rl2 7 a b n = [a] := by simp [rl2, rdA]
  rw [e]
  go_enter Tryz.func22, Tryz.ntmps22
  go_wp2
  go_ret
  exact ⟨_, rfl, lit1 w #[.int .i64 7, .int .i64 ds, .int .i64 a, .int .i64 b, .int .i32 n, .int .i64 to] 45 [a] (by simp), below2 _ _ _⟩
set_option maxHeartbeats 1600000 in
set_option maxRecDepth 1000000 in
theorem reads22_3 (ds a b n to : Int) (w : World) : Calls Tryz.prog 22 #[inst 3 ds a b n to] w fun e w' =>
    ∃ v, e = .returned v ∧ w'.ownsRow (w.heap.size + 1) 3 1 v (rl2 3 a b n).length (ints (rl2 3 a b n)) ∧ Below w.heap.size w w' := by
  have e : rl2 3 a b n = [a, b] := by simp [rl2, rdA]
  rw [e]
  go_enter Tryz.func22, Tryz.ntmps22
  go_wp2
  go_ret
  exact ⟨_, rfl, lit1 w #[.int .i64 3, .int .i64 ds, .int .i64 a, .int .i64 b, .int .i32 n, .int .i64 to] 45 [a, b] (by simp), below2 _ _ _⟩
set_option maxHeartbeats 1600000 in
set_option maxRecDepth 1000000 in
theorem reads22_6t (ds a b n to : Int) (hs : second n = true) (w : World) : Calls Tryz.prog 22 #[inst 6 ds a b n to] w fun e w' =>
    ∃ v, e = .returned v ∧ w'.ownsRow (w.heap.size + 1) 3 1 v (rl2 6 a b n).length (ints (rl2 6 a b n)) ∧ Below w.heap.size w w' := by
  have e : rl2 6 a b n = [a, b] := by simp [rl2, rdA, hs]
  rw [e]
  go_enter Tryz.func22, Tryz.ntmps22
  go_wp2_with (go_at_call 19; refine (second19 _ _).mono ?_; rintro e w1 ⟨rfl, rfl⟩)
  go_ret
  exact ⟨_, rfl, lit1 w #[.int .i64 6, .int .i64 ds, .int .i64 a, .int .i64 b, .int .i32 n, .int .i64 to] 45 [a, b] (by simp), below2 _ _ _⟩
set_option maxHeartbeats 1600000 in
set_option maxRecDepth 1000000 in
theorem reads22_6f (ds a b n to : Int) (hs : second n = false) (w : World) : Calls Tryz.prog 22 #[inst 6 ds a b n to] w fun e w' =>
    ∃ v, e = .returned v ∧ w'.ownsRow (w.heap.size + 1) 3 1 v (rl2 6 a b n).length (ints (rl2 6 a b n)) ∧ Below w.heap.size w w' := by
  have e : rl2 6 a b n = [a] := by simp [rl2, rdA, hs]
  rw [e]
  go_enter Tryz.func22, Tryz.ntmps22
  go_wp2_with (go_at_call 19; refine (second19 _ _).mono ?_; rintro e w1 ⟨rfl, rfl⟩)
  go_ret
  exact ⟨_, rfl, lit1 w #[.int .i64 6, .int .i64 ds, .int .i64 a, .int .i64 b, .int .i32 n, .int .i64 to] 45 [a] (by simp), below2 _ _ _⟩
set_option maxHeartbeats 1600000 in
set_option maxRecDepth 1000000 in
theorem reads22_x (op ds a b n to : Int) (h2 : op ≠ 2) (h4 : op ≠ 4) (h7 : op ≠ 7) (h3 : op ≠ 3) (h6 : op ≠ 6) (w : World) : Calls Tryz.prog 22 #[inst op ds a b n to] w fun e w' =>
    ∃ v, e = .returned v ∧ w'.ownsRow (w.heap.size + 1) 3 1 v (rl2 op a b n).length (ints (rl2 op a b n)) ∧ Below w.heap.size w w' := by
  have e : rl2 op a b n = [] := by simp [rl2, rdA, h2, h4, h7, h3, h6]
  rw [e]
  go_enter Tryz.func22, Tryz.ntmps22
  go_wp2
  go_ret
  exact ⟨_, rfl, World.ownsRow_nil _ _ _ _, (Below.refl _ _).alloc (Nat.le_refl _) _⟩
theorem reads22 (op ds a b n to : Int) (w : World) : Calls Tryz.prog 22 #[inst op ds a b n to] w fun e w' =>
    ∃ v, e = .returned v ∧ w'.ownsRow (w.heap.size + 1) 3 1 v (rl2 op a b n).length (ints (rl2 op a b n)) ∧ Below w.heap.size w w' := by
  by_cases h2 : op = 2
  · subst h2; exact reads22_2 ds a b n to w
  by_cases h4 : op = 4
  · subst h4; exact reads22_4 ds a b n to w
  by_cases h7 : op = 7
  · subst h7; exact reads22_7 ds a b n to w
  by_cases h3 : op = 3
  · subst h3; exact reads22_3 ds a b n to w
  by_cases h6 : op = 6
  · subst h6
    cases hs : second n
    · exact reads22_6f ds a b n to hs w
    · exact reads22_6t ds a b n to hs w
  exact reads22_x op ds a b n to h2 h4 h7 h3 h6 w
set_option maxHeartbeats 1600000 in
set_option maxRecDepth 1000000 in
theorem writes23 (op ds a b n to : Int) (w : World) : Calls Tryz.prog 23 #[inst op ds a b n to] w fun e w' => e = .returned (.int .i64 (if wr op = true then ds else -1)) ∧ Below w.heap.size w w' := by
  go_enter Tryz.func23, Tryz.ntmps23
  go_wp2
  all_goals go_ret
  all_goals exact ⟨by simp_all [wr] <;> omega, (Below.refl _ _).alloc (Nat.le_refl _) _⟩
end Go.Proofs.YtondggcbldnhcaaGreat.irx
