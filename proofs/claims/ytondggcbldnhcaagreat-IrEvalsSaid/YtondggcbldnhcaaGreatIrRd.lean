/-
  ir.reads, ir.Reads, ir.Writes: what they answer.
-/
import Derived.Test.YtondggcbldnhcaaGreatIrAr
namespace Go.Proofs.YtondggcbldnhcaaGreat.irx
open Go Go.RowKit
open Go.Proofs.YtondggcbldnhcaaGreat
set_option linter.unusedVariables false
set_option linter.unusedSimpArgs false
/-- an instruction, as a value -/
abbrev inst (op ds a b n to : Int) : Value := .agg #[.int .i64 op, .int .i64 ds, .int .i64 a, .int .i64 b, .int .i32 n, .int .i64 to]
theorem info3 : (Tryz.prog.info? 3).map (fun i => (i.zero, i.size, i.bytes)) = some (some (.int .i64 0), 1, 8) := by kernel_rfl
def ints (l : List Int) : List Value := l.map (Value.int .i64)
theorem ints_snoc (l : List Int) (n : Int) : ints (l ++ [n]) = ints l ++ [.int .i64 n] := by simp [ints]
/-- a row of the call's own beside the struct that it was handed -/
structure Keep (B : Nat) (w wr : World) (m : Array Value) (t : TypeId) (v : Value) (xs : List Int) : Prop where
  box : wr.heap[B]? = some (.cells m t (0, 0))
  own : wr.ownsRow (B + 1) 3 1 v xs.length (ints xs)
  below : Below B w wr
  size : B + 1 ≤ wr.heap.size
theorem own_below {w w' : World} {base e size n : Nat} {v : Value} {xs : List Value} (h : w.ownsRow base e size v n xs) (hb : Below w.heap.size w w') : w'.ownsRow base e size v n xs := by
  obtain ⟨h1, h2⟩ := h
  refine ⟨h1, ?_⟩
  rcases h2 with h2 | ⟨g, cap, cur, hv, hg, hh, hr⟩
  · exact .inl h2
  · refine .inr ⟨g, cap, cur, hv, hg, ?_, hr⟩
    rw [hb.block g ?_]
    · exact hh
    · apply Nat.lt_of_not_le
      intro hge
      have hn : w.heap[g]? = none := by simp [hge]
      rw [hn] at hh; cases hh
theorem Keep.start (w : World) (m : Array Value) (t : TypeId) : Keep w.heap.size w (w.alloc (.cells m t)) m t (.slice none 0 0) [] :=
  ⟨heap_alloc_new w _, World.ownsRow_nil _ _ _ _, (Below.refl _ _).alloc (Nat.le_refl _) _, by simp⟩
theorem Keep.cellAt {B : Nat} {w wr : World} {m : Array Value} {t : TypeId} {v : Value} {xs : List Int} (h : Keep B w wr m t v xs) {j : Nat} {u : Value} (hj : m[j]? = some u) : wr.cell? ⟨B, j, none⟩ = some u := by
  have := h.box
  simp [World.cell?, this, hj]
theorem Keep.on {B : Nat} {w wr w1 : World} {m : Array Value} {t : TypeId} {v : Value} {xs : List Int} (h : Keep B w wr m t v xs) (hb : Below wr.heap.size wr w1) : Keep B w w1 m t v xs := by
  have hs := h.size
  exact ⟨(hb.block B (by omega)).trans h.box, own_below h.own hb, h.below.trans (hb.mono (by omega)), Nat.le_trans h.size hb.size⟩
theorem Keep.hit {B : Nat} {w wr w1 : World} {m : Array Value} {t : TypeId} {v v' : Value} {xs : List Int} {n : Int} {o : Obj} (h : Keep B w wr m t v xs)
    (hown' : w1.ownsRow (B + 1) 3 1 v' (xs.length + 1) (ints xs ++ [.int .i64 n])) (hgrow : (wr.alloc o).grownBy w1 v.ownBlock) : Keep B w w1 m t v' (xs ++ [n]) := by
  have hs := h.size
  have hne : some B ≠ v.ownBlock := fun e => by have := h.own.lt B e.symm; omega
  refine ⟨?_, ?_, (h.below.alloc (by omega) o).grown hgrow (by simp; omega) (fun j hj => by have := (h.own.lt j hj).1; omega), ?_⟩
  · rw [hgrow.block B (by simp; omega) hne, Below.heap_alloc _ _ _ (by omega)]; exact h.box
  · rw [ints_snoc]; simpa using hown'
  · have := hgrow.size; simp at this; omega
theorem new1 (w : World) (u : Value) (t : TypeId) : ∀ j x, ([u] : List Value)[j]? = some x → (w.alloc (.cells #[u] t)).cell? ((⟨w.heap.size, 0, none⟩ : Addr).add j) = some x := by
  intro j x hj
  rw [Go.WideShapes.add_plain, World.cell?_alloc_at _ _ _ _ rfl]
  simpa using hj
theorem one1 (n : Int) : ∀ u ∈ ([.int .i64 n] : List Value), u.oneCell' = true := by
  intro u hu; simp at hu; subst hu; rfl
set_option maxHeartbeats 1600000 in
set_option maxRecDepth 1000000 in
theorem reads15_2 (ds a b n to : Int) (w : World) : Calls Tryz.prog 15 #[inst 2 ds a b n to] w fun e w' => e = .returned (.tuple #[.bool (rdA 2), .bool (rdB 2 n)]) ∧ Below w.heap.size w w' := by
  go_enter Tryz.func15, Tryz.ntmps15
  go_wp2
  go_ret2
  exact ⟨by simp [rdA, rdB], (Below.refl _ _).alloc (Nat.le_refl _) _⟩
set_option maxHeartbeats 1600000 in
set_option maxRecDepth 1000000 in
theorem reads15_4 (ds a b n to : Int) (w : World) : Calls Tryz.prog 15 #[inst 4 ds a b n to] w fun e w' => e = .returned (.tuple #[.bool (rdA 4), .bool (rdB 4 n)]) ∧ Below w.heap.size w w' := by
  go_enter Tryz.func15, Tryz.ntmps15
  go_wp2
  go_ret2
  exact ⟨by simp [rdA, rdB], (Below.refl _ _).alloc (Nat.le_refl _) _⟩
set_option maxHeartbeats 1600000 in
set_option maxRecDepth 1000000 in
theorem reads15_7 (ds a b n to : Int) (w : World) : Calls Tryz.prog 15 #[inst 7 ds a b n to] w fun e w' => e = .returned (.tuple #[.bool (rdA 7), .bool (rdB 7 n)]) ∧ Below w.heap.size w w' := by
  go_enter Tryz.func15, Tryz.ntmps15
  go_wp2
  go_ret2
  exact ⟨by simp [rdA, rdB], (Below.refl _ _).alloc (Nat.le_refl _) _⟩
set_option maxHeartbeats 1600000 in
set_option maxRecDepth 1000000 in
theorem reads15_3 (ds a b n to : Int) (w : World) : Calls Tryz.prog 15 #[inst 3 ds a b n to] w fun e w' => e = .returned (.tuple #[.bool (rdA 3), .bool (rdB 3 n)]) ∧ Below w.heap.size w w' := by
  go_enter Tryz.func15, Tryz.ntmps15
  go_wp2
  go_ret2
  exact ⟨by simp [rdA, rdB], (Below.refl _ _).alloc (Nat.le_refl _) _⟩
set_option maxHeartbeats 1600000 in
set_option maxRecDepth 1000000 in
theorem reads15_6 (ds a b n to : Int) (w : World) : Calls Tryz.prog 15 #[inst 6 ds a b n to] w fun e w' => e = .returned (.tuple #[.bool (rdA 6), .bool (rdB 6 n)]) ∧ Below w.heap.size w w' := by
  go_enter Tryz.func15, Tryz.ntmps15
  go_wp2
  go_region
  all_goals (try go_wp2)
  all_goals go_ret2
  all_goals exact ⟨by simp [rdA, rdB], ((Below.refl _ _).alloc (Nat.le_refl _) _).drew⟩
set_option maxHeartbeats 1600000 in
set_option maxRecDepth 1000000 in
theorem reads15_x (op ds a b n to : Int) (h2 : op ≠ 2) (h4 : op ≠ 4) (h7 : op ≠ 7) (h3 : op ≠ 3) (h6 : op ≠ 6) (w : World) : Calls Tryz.prog 15 #[inst op ds a b n to] w fun e w' => e = .returned (.tuple #[.bool (rdA op), .bool (rdB op n)]) ∧ Below w.heap.size w w' := by
  go_enter Tryz.func15, Tryz.ntmps15
  go_wp2
  go_ret2
  exact ⟨by simp [rdA, rdB, h2, h4, h7, h3, h6], (Below.refl _ _).alloc (Nat.le_refl _) _⟩
theorem reads15 (op ds a b n to : Int) (w : World) : Calls Tryz.prog 15 #[inst op ds a b n to] w fun e w' => e = .returned (.tuple #[.bool (rdA op), .bool (rdB op n)]) ∧ Below w.heap.size w w' := by
  by_cases h2 : op = 2
  · subst h2; exact reads15_2 ds a b n to w
  by_cases h4 : op = 4
  · subst h4; exact reads15_4 ds a b n to w
  by_cases h7 : op = 7
  · subst h7; exact reads15_7 ds a b n to w
  by_cases h3 : op = 3
  · subst h3; exact reads15_3 ds a b n to w
  by_cases h6 : op = 6
  · subst h6; exact reads15_6 ds a b n to w
  exact reads15_x op ds a b n to h2 h4 h7 h3 h6 w
/-- the registers that are read -/
def rl (op a b n : Int) : List Int := (if rdA op = true then [a] else []) ++ (if rdB op n = true then [b] else [])
set_option maxHeartbeats 1600000 in
set_option maxRecDepth 1000000 in
theorem reads28 (op ds a b n to : Int) (w : World) : Calls Tryz.prog 28 #[inst op ds a b n to] w fun e w' =>
    ∃ v, e = .returned v ∧ w'.ownsRow (w.heap.size + 1) 3 1 v (rl op a b n).length (ints (rl op a b n)) ∧ Below w.heap.size w w' := by
  obtain ⟨i0, hi, hz0, hz1, hz2⟩ := info_parts info3
  have K0 := Keep.start w #[.int .i64 op, .int .i64 ds, .int .i64 a, .int .i64 b, .int .i32 n, .int .i64 to] 44
  unfold rl
  cases hA : rdA op
  · have hB : rdB op n = false := by
      simp only [rdA, Bool.or_eq_false_iff, decide_eq_false_iff_not] at hA
      simp [rdB, hA]
    go_enter Tryz.func28, Tryz.ntmps28
    go_wp2_with (go_at_call 15; refine (reads15 op ds a b n to _).mono ?_; rintro e w1 ⟨rfl, hb1⟩; have K1 := K0.on hb1)
    go_ret
    exact ⟨_, rfl, by simpa [hB] using K1.own, K1.below⟩
  · cases hB : rdB op n
    · go_enter Tryz.func28, Tryz.ntmps28
      go_wp2_with (first | (go_at_call 15; refine (reads15 op ds a b n to _).mono ?_; rintro e w1 ⟨rfl, hb1⟩; have K1 := K0.on hb1; have hc2 := K1.cellAt (j := 2) rfl) | (at_builtin; refine wpList_append_own _ rfl _ _ 60 rfl (w.heap.size + 1) 3 i0 (.int .i64 0) 1 8 Tryz.underlying60 hi hz0 hz1 hz2 rfl (by decide) _ _ _ rfl (K1.own.alloc _) ⟨w1.heap.size, 0, none⟩ 1 1 [.int .i64 a] rfl rfl (new1 _ _ _) (one1 _) (by unfold maxLen; decide) (by decide) (by have := K1.size; simp; omega) ?_; intro v2 w2 hown2 hgrow2 _; have K2 := K1.hit hown2 hgrow2))
      go_ret
      exact ⟨_, rfl, by simpa using K2.own, K2.below⟩
    · go_enter Tryz.func28, Tryz.ntmps28
      go_wp2_with (first | (go_at_call 15; refine (reads15 op ds a b n to _).mono ?_; rintro e w1 ⟨rfl, hb1⟩; have K1 := K0.on hb1; have hc2 := K1.cellAt (j := 2) rfl) | (at_builtin; refine wpList_append_own _ rfl (.tmp 12) (.tmp 15) 60 rfl (w.heap.size + 1) 3 i0 (.int .i64 0) 1 8 Tryz.underlying60 hi hz0 hz1 hz2 rfl (by decide) _ _ _ rfl (K1.own.alloc _) ⟨w1.heap.size, 0, none⟩ 1 1 [.int .i64 a] rfl rfl (new1 _ _ _) (one1 _) (by unfold maxLen; decide) (by decide) (by have := K1.size; simp; omega) ?_; intro v2 w2 hown2 hgrow2 _; have K2 := K1.hit hown2 hgrow2; have hc3 := K2.cellAt (j := 3) rfl) | (at_builtin; refine wpList_append_own _ rfl (.tmp 18) (.tmp 21) 60 rfl (w.heap.size + 1) 3 i0 (.int .i64 0) 1 8 Tryz.underlying60 hi hz0 hz1 hz2 rfl (by decide) _ _ _ rfl (K2.own.alloc _) ⟨w2.heap.size, 0, none⟩ 1 1 [.int .i64 b] rfl rfl (new1 _ _ _) (one1 _) (by simp [maxLen]) (by simp) (by have := K2.size; simp; omega) ?_; intro v3 w3 hown3 hgrow3 _; have K3 := K2.hit hown3 hgrow3))
      go_ret
      exact ⟨_, rfl, by simpa using K3.own, K3.below⟩
set_option maxHeartbeats 1600000 in
set_option maxRecDepth 1000000 in
theorem writes29 (op ds a b n to : Int) (w : World) : Calls Tryz.prog 29 #[inst op ds a b n to] w fun e w' => e = .returned (.bool (wr op)) ∧ Below w.heap.size w w' := by
  go_enter Tryz.func29, Tryz.ntmps29
  go_wp2
  all_goals go_ret
  all_goals exact ⟨by simp_all [wr] <;> omega, (Below.refl _ _).alloc (Nat.le_refl _) _⟩
end Go.Proofs.YtondggcbldnhcaaGreat.irx
