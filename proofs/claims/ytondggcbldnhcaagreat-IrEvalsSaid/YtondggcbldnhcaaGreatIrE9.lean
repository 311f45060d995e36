/-
  Eval, both of them, for any Func, arguments and polls.
-/
import Derived.Test.YtondggcbldnhcaaGreatIrE8
import Derived.Test.YtondggcbldnhcaaGreatIrEw
import Derived.Test.YtondggcbldnhcaaGreatIrMo
namespace Go.Proofs.YtondggcbldnhcaaGreat.irx
open Go Go.RowKit
open Go.Proofs.YtondggcbldnhcaaGreat
set_option linter.unusedVariables false
set_option linter.unusedSimpArgs false
set_option maxHeartbeats 1600000 in
set_option maxRecDepth 1000000 in
theorem eval8_bad (P R : Int) (len : Nat) (op ds a b n to : Nat → Int) (cad : Option Addr) (cap : Nat) (aad : Option Addr) (al acap : Nat) (polls : Int) (w : World) (hlen : len ≤ 60)
    (hN : Nice ⟨P, R, len, op, ds, a, b, n, to⟩) (hc : Code_ w w.heap.size cad ⟨P, R, len, op, ds, a, b, n, to⟩) (hck : chk ar ⟨P, R, len, op, ds, a, b, n, to⟩ ≠ 0) :
    Calls Tryz.prog 8 #[fval P R cad len cap, .slice aad al acap, .int .i64 polls] w fun e w' => e = .returned (.agg #[.int .i64 0, .int .i32 0, .int .i64 0]) ∧ Below w.heap.size w w' := by
  have C := fun w0 (hb : Below w.heap.size w w0) (hs : w.heap.size ≤ w0.heap.size) => check10 ⟨P, R, len, op, ds, a, b, n, to⟩ cad cap w0 hlen hN (hc.mono hb hs)
  generalize chk ar ⟨P, R, len, op, ds, a, b, n, to⟩ = ce at C hck
  have hce : (ce != 0) = true := by simpa using hck
  have hb0 : Below w.heap.size w ((w.alloc (.cells #[.int .i64 P, .int .i64 R, .slice cad len cap] 29)).alloc (.cells #[.int .i64 0, .int .i32 0, .int .i64 0] 34)) := ((Below.refl _ _).alloc (Nat.le_refl _) _).alloc (by simp) _
  have hs0 : ((w.alloc (.cells #[.int .i64 P, .int .i64 R, .slice cad len cap] 29)).alloc (.cells #[.int .i64 0, .int .i32 0, .int .i64 0] 34)).heap.size = w.heap.size + 2 := by simp
  have hX0 : ((w.alloc (.cells #[.int .i64 P, .int .i64 R, .slice cad len cap] 29)).alloc (.cells #[.int .i64 0, .int .i32 0, .int .i64 0] 34)).heap[w.heap.size + 1]? = some (.cells #[.int .i64 0, .int .i32 0, .int .i64 0] 34 (0, 0)) := by
    have := heap_alloc_new (w.alloc (.cells #[.int .i64 P, .int .i64 R, .slice cad len cap] 29)) (.cells #[.int .i64 0, .int .i32 0, .int .i64 0] 34)
    simpa using this
  have C0 := C _ hb0 (by omega)
  clear C hck
  go_enter Tryz.func8, Tryz.ntmps8
  go_wp2_with (first | (go_at_call 10; refine C0.mono ?_; rintro e w1 ⟨rfl, hb1⟩; have hX1 := (hb1.block (w.heap.size + 1) (by omega)).trans hX0; have hy0 : w1.cell? ⟨w.heap.size + 1, 0, none⟩ = some (.int .i64 0) := (by simp [World.cell?, hX1]); have hy1 : w1.cell? ⟨w.heap.size + 1, 1, none⟩ = some (.int .i32 0) := (by simp [World.cell?, hX1]); have hy2 : w1.cell? ⟨w.heap.size + 1, 2, none⟩ = some (.int .i64 0) := (by simp [World.cell?, hX1]); have hzX : ∀ j, w1.frozen? ⟨w.heap.size + 1, j, none⟩ = false := (fun j => by simp [World.frozen?, hX1])))
  have hbB := hb0.trans (hb1.mono (by omega))
  refine bodyPost_ret_by (results_cell_row results8 _ _ (w.heap.size + 1) 34 _ (0, 0) _ rfl (fin_row' hX1 _ _ _) Tryz.underlying34 rfl size34) rfl ⟨rfl, ((hbB.setCell (by simp only; omega) _).setCell (by simp only; omega) _).setCell (by simp only; omega) _⟩
set_option maxHeartbeats 1600000 in
set_option maxRecDepth 1000000 in
theorem eval8_len (P R : Int) (len : Nat) (op ds a b n to : Nat → Int) (cad : Option Addr) (cap : Nat) (aad : Option Addr) (al acap : Nat) (polls : Int) (w : World) (hlen : len ≤ 60)
    (hN : Nice ⟨P, R, len, op, ds, a, b, n, to⟩) (hc : Code_ w w.heap.size cad ⟨P, R, len, op, ds, a, b, n, to⟩) (hck : chk ar ⟨P, R, len, op, ds, a, b, n, to⟩ = 0) (hal : (al : Int) ≠ P) :
    Calls Tryz.prog 8 #[fval P R cad len cap, .slice aad al acap, .int .i64 polls] w fun e w' => e = .returned (.agg #[.int .i64 0, .int .i32 0, .int .i64 0]) ∧ Below w.heap.size w w' := by
  have C := fun w0 (hb : Below w.heap.size w w0) (hs : w.heap.size ≤ w0.heap.size) => check10 ⟨P, R, len, op, ds, a, b, n, to⟩ cad cap w0 hlen hN (hc.mono hb hs)
  rw [hck] at C
  have hce : ((al : Int) != P) = true := by simpa using hal
  have hb0 : Below w.heap.size w ((w.alloc (.cells #[.int .i64 P, .int .i64 R, .slice cad len cap] 29)).alloc (.cells #[.int .i64 0, .int .i32 0, .int .i64 0] 34)) := ((Below.refl _ _).alloc (Nat.le_refl _) _).alloc (by simp) _
  have hs0 : ((w.alloc (.cells #[.int .i64 P, .int .i64 R, .slice cad len cap] 29)).alloc (.cells #[.int .i64 0, .int .i32 0, .int .i64 0] 34)).heap.size = w.heap.size + 2 := by simp
  have hX0 : ((w.alloc (.cells #[.int .i64 P, .int .i64 R, .slice cad len cap] 29)).alloc (.cells #[.int .i64 0, .int .i32 0, .int .i64 0] 34)).heap[w.heap.size + 1]? = some (.cells #[.int .i64 0, .int .i32 0, .int .i64 0] 34 (0, 0)) := by
    have := heap_alloc_new (w.alloc (.cells #[.int .i64 P, .int .i64 R, .slice cad len cap] 29)) (.cells #[.int .i64 0, .int .i32 0, .int .i64 0] 34)
    simpa using this
  have hF0 : ((w.alloc (.cells #[.int .i64 P, .int .i64 R, .slice cad len cap] 29)).alloc (.cells #[.int .i64 0, .int .i32 0, .int .i64 0] 34)).heap[w.heap.size]? = some (.cells #[.int .i64 P, .int .i64 R, .slice cad len cap] 29 (0, 0)) := by
    rw [Below.heap_alloc _ _ _ (by simp)]; exact heap_alloc_new w _
  have C0 := C _ hb0 (by omega)
  clear C hck
  go_enter Tryz.func8, Tryz.ntmps8
  go_wp2_with (first | (go_at_call 10; refine C0.mono ?_; rintro e w1 ⟨rfl, hb1⟩; have hX1 := (hb1.block (w.heap.size + 1) (by omega)).trans hX0; have hF1 := (hb1.block w.heap.size (by omega)).trans hF0; have hf0 : w1.cell? ⟨w.heap.size, 0, none⟩ = some (.int .i64 P) := (by simp [World.cell?, hF1]); have hy0 : w1.cell? ⟨w.heap.size + 1, 0, none⟩ = some (.int .i64 0) := (by simp [World.cell?, hX1]); have hy1 : w1.cell? ⟨w.heap.size + 1, 1, none⟩ = some (.int .i32 0) := (by simp [World.cell?, hX1]); have hy2 : w1.cell? ⟨w.heap.size + 1, 2, none⟩ = some (.int .i64 0) := (by simp [World.cell?, hX1]); have hzX : ∀ j, w1.frozen? ⟨w.heap.size + 1, j, none⟩ = false := (fun j => by simp [World.frozen?, hX1])))
  have hbB := hb0.trans (hb1.mono (by omega))
  refine bodyPost_ret_by (results_cell_row results8 _ _ (w.heap.size + 1) 34 _ (0, 0) _ rfl (fin_row' hX1 _ _ _) Tryz.underlying34 rfl size34) rfl ⟨rfl, ((hbB.setCell (by simp only; omega) _).setCell (by simp only; omega) _).setCell (by simp only; omega) _⟩
theorem eval_run {F : Fn} {args : List Int} {p : Nat} (h1 : chk ar F = 0) (h2 : (args.length : Int) = F.P) : eval ar F args p = runS ar F p (start F args) := by
  unfold eval; rw [if_neg (by simp only [not_or, Decidable.not_not]; exact ⟨h1, h2⟩)]
theorem eval_bad {F : Fn} {args : List Int} {p : Nat} (h1 : chk ar F ≠ 0 ∨ (args.length : Int) ≠ F.P) : eval ar F args p = (0, 0, 0) := by
  unfold eval; rw [if_pos h1]
theorem evalI (P R : Int) (len : Nat) (op ds a b n to : Nat → Int) (cad : Option Addr) (cap : Nat) (aad : Option Addr) (acap : Nat) (args : List Int) (pi : Int) (w : World) (hlen : len ≤ 60) (hpi : pi ≤ 1048576)
    (hN : Nice ⟨P, R, len, op, ds, a, b, n, to⟩) (hc : Code_ w w.heap.size cad ⟨P, R, len, op, ds, a, b, n, to⟩) (ha : Args w w.heap.size aad args) :
    Calls Tryz.prog 7 #[fval P R cad len cap, .slice aad args.length acap, .int .i64 pi] w fun e w' => e = .returned (rv (eval ar ⟨P, R, len, op, ds, a, b, n, to⟩ args pi.toNat)) ∧ Below w.heap.size w w' := by
  by_cases h1 : chk ar ⟨P, R, len, op, ds, a, b, n, to⟩ = 0
  · by_cases h2 : (args.length : Int) = P
    · rw [eval_run h1 h2]
      by_cases h0 : pi < 0
      · have e : pi.toNat = 0 := by omega
        rw [e]
        exact eval7n P R len op ds a b n to cad cap aad acap args pi w hlen h0 hN hc ha h1 h2
      · have := eval7 P R len op ds a b n to cad cap aad acap args pi.toNat w hlen (by omega) hN hc ha h1 h2
        rw [Int.toNat_of_nonneg (by omega)] at this
        exact this
    · rw [eval_bad (.inr h2)]
      exact eval7_len P R len op ds a b n to cad cap aad args.length acap pi w hlen hN hc h1 h2
  · rw [eval_bad (.inl h1)]
    exact eval7_bad P R len op ds a b n to cad cap aad args.length acap pi w hlen hN hc h1
theorem evalR (P R : Int) (len : Nat) (op ds a b n to : Nat → Int) (cad : Option Addr) (cap : Nat) (aad : Option Addr) (acap : Nat) (args : List Int) (pi : Int) (w : World) (hlen : len ≤ 60) (hpi : pi ≤ 1048576)
    (hN : ∀ k, I32 (n k)) (hc : Code_ w w.heap.size cad ⟨P, R, len, op, ds, a, b, n, to⟩) (ha : Args w w.heap.size aad args) (hcap : args.length ≤ acap) (hnone : aad = none → args.length = 0 ∧ acap = 0) (haI : ∀ x ∈ args, I32 x) :
    Calls Tryz.prog 8 #[fval P R cad len cap, .slice aad args.length acap, .int .i64 pi] w fun e w' => e = .returned (rv (eval ar ⟨P, R, len, op, ds, a, b, n, to⟩ args pi.toNat)) ∧ Below w.heap.size w w' := by
  by_cases h1 : chk ar ⟨P, R, len, op, ds, a, b, n, to⟩ = 0
  · by_cases h2 : (args.length : Int) = P
    · rw [eval_run h1 h2]
      exact eval8 P R len op ds a b n to cad cap aad acap args pi w hlen hpi hN hc ha hcap hnone haI h1 h2
    · rw [eval_bad (.inr h2)]
      exact eval8_len P R len op ds a b n to cad cap aad args.length acap pi w hlen (fun k => w64 (hN k)) hc h1 h2
  · rw [eval_bad (.inl h1)]
    exact eval8_bad P R len op ds a b n to cad cap aad args.length acap pi w hlen (fun k => w64 (hN k)) hc h1
end Go.Proofs.YtondggcbldnhcaaGreat.irx
