/-
  few, Within, Eval of what Check refuses, known.
-/
import Derived.Test.YtondggcbldnhcaaGreatIrCk
import Derived.Test.YtondggcbldnhcaaGreatEngY
namespace Go.Proofs.YtondggcbldnhcaaGreat.irx
open Go Go.RowKit
open Go.Proofs.YtondggcbldnhcaaGreat
set_option linter.unusedVariables false
set_option linter.unusedSimpArgs false
set_option maxRecDepth 1000000 in
theorem known_run : Eng.fcallOf (β := Eng.AV) Tryz.prog (Eng.fexec Tryz.prog 1000000) 11 [] Eng.f5 Eng.b0 (fun v _ _ => some v) = some (.bool true) := by kernel_rfl
theorem known_call (w : World) : Calls Tryz.prog 11 #[] w fun e w' => e = .returned (.bool true) ∧ Below w.heap.size w w' := by
  refine (Eng.calledF 1000000 11 [] _ _ known_run w #[] (by simp [Eng.VRels])).mono fun e w' h => ?_
  obtain ⟨⟨v, h', x', cv, μ', h1, rfl, h2, _⟩, hb⟩ := h
  have h1' : v = .bool true := Option.some.inj h1
  rw [h1'] at h2
  simp only [Eng.VRel] at h2
  exact ⟨by rw [h2], hb⟩
/-- a number brought into 0 .. 60 -/
def wth (n : Int) : Int := if n.tmod 61 < 0 then n.tmod 61 + 61 else n.tmod 61
theorem tmod61 (a : Int) : -61 < a.tmod 61 ∧ a.tmod 61 < 61 := ⟨Int.lt_tmod_of_pos a (by omega), Int.tmod_lt_of_pos a (by omega)⟩
theorem wth_rng (a : Int) : 0 ≤ wth a ∧ wth a ≤ 60 := by
  have := tmod61 a
  unfold wth; split <;> omega
set_option maxHeartbeats 1600000 in
set_option maxRecDepth 1000000 in
theorem within12 (n : Int) (w : World) : Calls Tryz.prog 12 #[.int .i64 n, .int .i64 0, .int .i64 60] w fun e w' => e = .returned (.int .i64 (wth n)) ∧ Below w.heap.size w w' := by
  have h := tmod61 n
  by_cases hn : n.tmod 61 < 0
  · go_enter Tryz.func12, Tryz.ntmps12
    go_wp2
    go_ret
    exact ⟨by simp [wth, hn] <;> omega, Below.refl _ _⟩
  · go_enter Tryz.func12, Tryz.ntmps12
    go_wp2
    go_ret
    exact ⟨by simp [wth, hn] <;> omega, Below.refl _ _⟩
theorem results5 : Tryz.f5.results = #[.cell 2 24] := by kernel_rfl
theorem size24 : (Tryz.prog.info? 24).map (·.size) = some 3 := by kernel_rfl
theorem results7' : Tryz.f7.results = #[.cell 6 32] := by kernel_rfl
theorem size32' : (Tryz.prog.info? 32).map (·.size) = some 3 := by kernel_rfl
theorem setCell_row' {w : World} {g : Nat} {cs : Array Value} {t : TypeId} (h : w.heap[g]? = some (.cells cs t (0, 0))) (j : Nat) (u : Value) : (w.setCell ⟨g, j, none⟩ u).heap[g]? = some (.cells (cs.setIfInBounds j u) t (0, 0)) := by
  simp only [World.setCell, Array.getElem?_modify, if_true, h]
  simp
theorem fin_row' {w1 : World} {X : Nat} {x0 x1 x2 : Value} {t : TypeId} (h : w1.heap[X]? = some (.cells #[x0, x1, x2] t (0, 0))) (k v m : Value) : (((w1.setCell ⟨X, 0, none⟩ k).setCell ⟨X, 1, none⟩ v).setCell ⟨X, 2, none⟩ m).heap[X]? = some (.cells #[k, v, m] t (0, 0)) := by
  rw [setCell_row' (setCell_row' (setCell_row' h 0 k) 1 v) 2 m]
  simp
set_option maxHeartbeats 1600000 in
set_option maxRecDepth 1000000 in
theorem few5 (P R : Int) (cad : Option Addr) (len cap : Nat) (hlen : len ≤ 60) (w : World) : Calls Tryz.prog 5 #[fval P R cad len cap] w fun e w' => e = .returned (fval P R cad len cap) ∧ Below w.heap.size w w' := by
  have hX : ((w.alloc (.cells #[.int .i64 P, .int .i64 R, .slice cad len cap] 24)).alloc (.cells #[.int .i64 P, .int .i64 R, .slice cad len cap] 24)).heap[w.heap.size + 1]? = some (.cells #[.int .i64 P, .int .i64 R, .slice cad len cap] 24 (0, 0)) := by
    have := heap_alloc_new (w.alloc (.cells #[.int .i64 P, .int .i64 R, .slice cad len cap] 24)) (.cells #[.int .i64 P, .int .i64 R, .slice cad len cap] 24)
    simpa using this
  go_enter Tryz.func5, Tryz.ntmps5
  go_wp2
  refine bodyPost_ret_by (results_cell_row results5 _ _ (w.heap.size + 1) 24 _ (0, 0) _ rfl hX Tryz.underlying24 rfl size24) rfl ⟨rfl, ((Below.refl _ _).alloc (Nat.le_refl _) _).alloc (by simp) _⟩
set_option maxHeartbeats 1600000 in
set_option maxRecDepth 1000000 in
theorem few5b (P R : Int) (cb off : Nat) (len cap : Nat) (hlen : 60 < len) (hcap : len ≤ cap) (w : World) : Calls Tryz.prog 5 #[fval P R (some ⟨cb, off, none⟩) len cap] w fun e w' => e = .returned (fval P R (some ⟨cb, off, none⟩) 60 cap) ∧ Below w.heap.size w w' := by
  have hX : ((w.alloc (.cells #[.int .i64 P, .int .i64 R, .slice (some ⟨cb, off, none⟩) 60 cap] 24)).alloc (.cells #[.int .i64 P, .int .i64 R, .slice (some ⟨cb, off, none⟩) 60 cap] 24)).heap[w.heap.size + 1]? = some (.cells #[.int .i64 P, .int .i64 R, .slice (some ⟨cb, off, none⟩) 60 cap] 24 (0, 0)) := by
    have := heap_alloc_new (w.alloc (.cells #[.int .i64 P, .int .i64 R, .slice (some ⟨cb, off, none⟩) 60 cap] 24)) (.cells #[.int .i64 P, .int .i64 R, .slice (some ⟨cb, off, none⟩) 60 cap] 24)
    simpa using this
  go_enter Tryz.func5, Tryz.ntmps5
  go_wp2
  refine bodyPost_ret_by (results_cell_row results5 _ _ (w.heap.size + 1) 24 _ (0, 0) _ rfl hX Tryz.underlying24 rfl size24) rfl ⟨rfl, ((Below.refl _ _).alloc (Nat.le_refl _) _).alloc (by simp) _⟩
set_option maxHeartbeats 1600000 in
set_option maxRecDepth 1000000 in
theorem eval7_bad (P R : Int) (len : Nat) (op ds a b n to : Nat → Int) (cad : Option Addr) (cap : Nat) (aad : Option Addr) (al acap : Nat) (polls : Int) (w : World) (hlen : len ≤ 60)
    (hN : Nice ⟨P, R, len, op, ds, a, b, n, to⟩) (hc : Code_ w w.heap.size cad ⟨P, R, len, op, ds, a, b, n, to⟩) (hck : chk ar ⟨P, R, len, op, ds, a, b, n, to⟩ ≠ 0) :
    Calls Tryz.prog 7 #[fval P R cad len cap, .slice aad al acap, .int .i64 polls] w fun e w' => e = .returned (.agg #[.int .i64 0, .int .i32 0, .int .i64 0]) ∧ Below w.heap.size w w' := by
  have C := fun w0 (hb : Below w.heap.size w w0) (hs : w.heap.size ≤ w0.heap.size) => check9 ⟨P, R, len, op, ds, a, b, n, to⟩ cad cap w0 hlen hN (hc.mono hb hs)
  generalize chk ar ⟨P, R, len, op, ds, a, b, n, to⟩ = ce at C hck
  have hce : (ce != 0) = true := by simpa using hck
  have hb0 : Below w.heap.size w ((w.alloc (.cells #[.int .i64 P, .int .i64 R, .slice cad len cap] 24)).alloc (.cells #[.int .i64 0, .int .i32 0, .int .i64 0] 32)) := ((Below.refl _ _).alloc (Nat.le_refl _) _).alloc (by simp) _
  have hs0 : ((w.alloc (.cells #[.int .i64 P, .int .i64 R, .slice cad len cap] 24)).alloc (.cells #[.int .i64 0, .int .i32 0, .int .i64 0] 32)).heap.size = w.heap.size + 2 := by simp
  have hX0 : ((w.alloc (.cells #[.int .i64 P, .int .i64 R, .slice cad len cap] 24)).alloc (.cells #[.int .i64 0, .int .i32 0, .int .i64 0] 32)).heap[w.heap.size + 1]? = some (.cells #[.int .i64 0, .int .i32 0, .int .i64 0] 32 (0, 0)) := by
    have := heap_alloc_new (w.alloc (.cells #[.int .i64 P, .int .i64 R, .slice cad len cap] 24)) (.cells #[.int .i64 0, .int .i32 0, .int .i64 0] 32)
    simpa using this
  have C0 := C _ hb0 (by omega)
  clear C hck
  go_enter Tryz.func7, Tryz.ntmps7
  go_wp2_with (first | (go_at_call 9; refine C0.mono ?_; rintro e w1 ⟨rfl, hb1⟩; have hX1 := (hb1.block (w.heap.size + 1) (by omega)).trans hX0; have hy0 : w1.cell? ⟨w.heap.size + 1, 0, none⟩ = some (.int .i64 0) := (by simp [World.cell?, hX1]); have hy1 : w1.cell? ⟨w.heap.size + 1, 1, none⟩ = some (.int .i32 0) := (by simp [World.cell?, hX1]); have hy2 : w1.cell? ⟨w.heap.size + 1, 2, none⟩ = some (.int .i64 0) := (by simp [World.cell?, hX1]); have hzX : ∀ j, w1.frozen? ⟨w.heap.size + 1, j, none⟩ = false := (fun j => by simp [World.frozen?, hX1])))
  have hbB := hb0.trans (hb1.mono (by omega))
  refine bodyPost_ret_by (results_cell_row results7' _ _ (w.heap.size + 1) 32 _ (0, 0) _ rfl (fin_row' hX1 _ _ _) Tryz.underlying32 rfl size32') rfl ⟨rfl, ((hbB.setCell (by simp only; omega) _).setCell (by simp only; omega) _).setCell (by simp only; omega) _⟩
set_option maxHeartbeats 1600000 in
set_option maxRecDepth 1000000 in
theorem eval7_len (P R : Int) (len : Nat) (op ds a b n to : Nat → Int) (cad : Option Addr) (cap : Nat) (aad : Option Addr) (al acap : Nat) (polls : Int) (w : World) (hlen : len ≤ 60)
    (hN : Nice ⟨P, R, len, op, ds, a, b, n, to⟩) (hc : Code_ w w.heap.size cad ⟨P, R, len, op, ds, a, b, n, to⟩) (hck : chk ar ⟨P, R, len, op, ds, a, b, n, to⟩ = 0) (hal : (al : Int) ≠ P) :
    Calls Tryz.prog 7 #[fval P R cad len cap, .slice aad al acap, .int .i64 polls] w fun e w' => e = .returned (.agg #[.int .i64 0, .int .i32 0, .int .i64 0]) ∧ Below w.heap.size w w' := by
  have C := fun w0 (hb : Below w.heap.size w w0) (hs : w.heap.size ≤ w0.heap.size) => check9 ⟨P, R, len, op, ds, a, b, n, to⟩ cad cap w0 hlen hN (hc.mono hb hs)
  rw [hck] at C
  have hce : ((al : Int) != P) = true := by simpa using hal
  have hb0 : Below w.heap.size w ((w.alloc (.cells #[.int .i64 P, .int .i64 R, .slice cad len cap] 24)).alloc (.cells #[.int .i64 0, .int .i32 0, .int .i64 0] 32)) := ((Below.refl _ _).alloc (Nat.le_refl _) _).alloc (by simp) _
  have hs0 : ((w.alloc (.cells #[.int .i64 P, .int .i64 R, .slice cad len cap] 24)).alloc (.cells #[.int .i64 0, .int .i32 0, .int .i64 0] 32)).heap.size = w.heap.size + 2 := by simp
  have hX0 : ((w.alloc (.cells #[.int .i64 P, .int .i64 R, .slice cad len cap] 24)).alloc (.cells #[.int .i64 0, .int .i32 0, .int .i64 0] 32)).heap[w.heap.size + 1]? = some (.cells #[.int .i64 0, .int .i32 0, .int .i64 0] 32 (0, 0)) := by
    have := heap_alloc_new (w.alloc (.cells #[.int .i64 P, .int .i64 R, .slice cad len cap] 24)) (.cells #[.int .i64 0, .int .i32 0, .int .i64 0] 32)
    simpa using this
  have hF0 : ((w.alloc (.cells #[.int .i64 P, .int .i64 R, .slice cad len cap] 24)).alloc (.cells #[.int .i64 0, .int .i32 0, .int .i64 0] 32)).heap[w.heap.size]? = some (.cells #[.int .i64 P, .int .i64 R, .slice cad len cap] 24 (0, 0)) := by
    rw [Below.heap_alloc _ _ _ (by simp)]; exact heap_alloc_new w _
  have C0 := C _ hb0 (by omega)
  clear C hck
  go_enter Tryz.func7, Tryz.ntmps7
  go_wp2_with (first | (go_at_call 9; refine C0.mono ?_; rintro e w1 ⟨rfl, hb1⟩; have hX1 := (hb1.block (w.heap.size + 1) (by omega)).trans hX0; have hF1 := (hb1.block w.heap.size (by omega)).trans hF0; have hf0 : w1.cell? ⟨w.heap.size, 0, none⟩ = some (.int .i64 P) := (by simp [World.cell?, hF1]); have hy0 : w1.cell? ⟨w.heap.size + 1, 0, none⟩ = some (.int .i64 0) := (by simp [World.cell?, hX1]); have hy1 : w1.cell? ⟨w.heap.size + 1, 1, none⟩ = some (.int .i32 0) := (by simp [World.cell?, hX1]); have hy2 : w1.cell? ⟨w.heap.size + 1, 2, none⟩ = some (.int .i64 0) := (by simp [World.cell?, hX1]); have hzX : ∀ j, w1.frozen? ⟨w.heap.size + 1, j, none⟩ = false := (fun j => by simp [World.frozen?, hX1])))
  have hbB := hb0.trans (hb1.mono (by omega))
  refine bodyPost_ret_by (results_cell_row results7' _ _ (w.heap.size + 1) 32 _ (0, 0) _ rfl (fin_row' hX1 _ _ _) Tryz.underlying32 rfl size32') rfl ⟨rfl, ((hbB.setCell (by simp only; omega) _).setCell (by simp only; omega) _).setCell (by simp only; omega) _⟩
end Go.Proofs.YtondggcbldnhcaaGreat.irx
