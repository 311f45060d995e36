/-
  ir.Check: why code may be none.
-/
import Derived.Test.YtondggcbldnhcaaGreatIrRt
namespace Go.Proofs.YtondggcbldnhcaaGreat.irx
open Go Go.RowKit
open Go.Proofs.YtondggcbldnhcaaGreat
set_option linter.unusedVariables false
set_option linter.unusedSimpArgs false
/-- the cells of an instruction -/
structure At (w : World) (b off : Nat) (op ds a x n to : Int) : Prop where
  c0 : w.cell? ⟨b, off, none⟩ = some (.int .i64 op)
  c1 : w.cell? ⟨b, off + 1, none⟩ = some (.int .i64 ds)
  c2 : w.cell? ⟨b, off + 2, none⟩ = some (.int .i64 a)
  c3 : w.cell? ⟨b, off + 3, none⟩ = some (.int .i64 x)
  c4 : w.cell? ⟨b, off + 4, none⟩ = some (.int .i32 n)
  c5 : w.cell? ⟨b, off + 5, none⟩ = some (.int .i64 to)
def Code_ (w : World) (B : Nat) (cad : Option Addr) (F : Fn) : Prop :=
  ∀ k, k < F.len → ∃ b off, cad = some ⟨b, off, none⟩ ∧ b < B ∧ At w b (off + k * 6) (F.op k) (F.ds k) (F.a k) (F.b k) (F.n k) (F.to k)
theorem At.mono {w w' : World} {B b off : Nat} {op ds a x n to : Int} (h : At w b off op ds a x n to) (hb : Below B w w') (hlt : b < B) : At w' b off op ds a x n to :=
  ⟨(hb.cell hlt).trans h.c0, (hb.cell hlt).trans h.c1, (hb.cell hlt).trans h.c2, (hb.cell hlt).trans h.c3, (hb.cell hlt).trans h.c4, (hb.cell hlt).trans h.c5⟩
theorem Code_.mono {w w' : World} {B B' : Nat} {cad : Option Addr} {F : Fn} (h : Code_ w B cad F) (hb : Below B w w') (hB : B ≤ B') : Code_ w' B' cad F := by
  intro k hk
  obtain ⟨b, off, h1, h2, h3⟩ := h k hk
  exact ⟨b, off, h1, by omega, h3.mono hb h2⟩
abbrev fv (F : Fn) (cad : Option Addr) (cap : Nat) : Value := fval F.P F.R cad F.len cap
def Nice (F : Fn) : Prop := ∀ k, wrap64 (F.n k) = F.n k
set_option maxHeartbeats 1600000 in
set_option maxRecDepth 1000000 in
theorem check9_h0 (P R : Int) (cad : Option Addr) (len cap : Nat) (hh : R < 0) (w : World) : Calls Tryz.prog 9 #[fval P R cad len cap] w fun e w' => e = .returned (.int .i64 1) ∧ Below w.heap.size w w' := by
  go_enter Tryz.func9, Tryz.ntmps9
  go_wp2
  go_ret
  exact ⟨rfl, (Below.refl _ _).alloc (Nat.le_refl _) _⟩
set_option maxHeartbeats 1600000 in
set_option maxRecDepth 1000000 in
theorem check9_h1 (P R : Int) (cad : Option Addr) (len cap : Nat) (h1 : 0 ≤ R) (hh : 34 < R) (w : World) : Calls Tryz.prog 9 #[fval P R cad len cap] w fun e w' => e = .returned (.int .i64 1) ∧ Below w.heap.size w w' := by
  go_enter Tryz.func9, Tryz.ntmps9
  go_wp2
  go_ret
  exact ⟨rfl, (Below.refl _ _).alloc (Nat.le_refl _) _⟩
set_option maxHeartbeats 1600000 in
set_option maxRecDepth 1000000 in
theorem check9_h2 (P R : Int) (cad : Option Addr) (len cap : Nat) (h1 : 0 ≤ R) (h2 : R ≤ 34) (hh : P < 0) (w : World) : Calls Tryz.prog 9 #[fval P R cad len cap] w fun e w' => e = .returned (.int .i64 1) ∧ Below w.heap.size w w' := by
  go_enter Tryz.func9, Tryz.ntmps9
  go_wp2
  go_ret
  exact ⟨rfl, (Below.refl _ _).alloc (Nat.le_refl _) _⟩
set_option maxHeartbeats 1600000 in
set_option maxRecDepth 1000000 in
theorem check9_h3 (P R : Int) (cad : Option Addr) (len cap : Nat) (h1 : 0 ≤ R) (h2 : R ≤ 34) (h3 : 0 ≤ P) (hh : R < P) (w : World) : Calls Tryz.prog 9 #[fval P R cad len cap] w fun e w' => e = .returned (.int .i64 1) ∧ Below w.heap.size w w' := by
  go_enter Tryz.func9, Tryz.ntmps9
  go_wp2
  go_ret
  exact ⟨rfl, (Below.refl _ _).alloc (Nat.le_refl _) _⟩
set_option maxHeartbeats 3200000 in
set_option maxRecDepth 1000000 in
theorem check9_ok (P R : Int) (len : Nat) (op ds a b n to : Nat → Int) (cad : Option Addr) (cap : Nat) (w : World) (hlen : len ≤ 60) (hh : head ⟨P, R, len, op, ds, a, b, n, to⟩ = false) (hN : Nice ⟨P, R, len, op, ds, a, b, n, to⟩) (hc : Code_ w w.heap.size cad ⟨P, R, len, op, ds, a, b, n, to⟩) :
    Calls Tryz.prog 9 #[fval P R cad len cap] w fun e w' => e = .returned (.int .i64 (chk ar ⟨P, R, len, op, ds, a, b, n, to⟩)) ∧ Below w.heap.size w w' := by
  have hck : chk ar ⟨P, R, len, op, ds, a, b, n, to⟩ = if firstBad (rightAt ar ⟨P, R, len, op, ds, a, b, n, to⟩) len ≠ 0 then firstBad (rightAt ar ⟨P, R, len, op, ds, a, b, n, to⟩) len else if len = 0 then 17
      else if op (len - 1) = 5 ∨ op (len - 1) = 7 ∨ op (len - 1) = 8 then 0 else 17 := by
    unfold chk; rw [hh]; simp
  generalize hres0 : chk ar ⟨P, R, len, op, ds, a, b, n, to⟩ = res at hck ⊢
  have hN' : ∀ k, wrap64 (n k) = n k := hN
  have hra : ∀ k, right ar R len (op k) (ds k) (a k) (b k) (n k) (to k) = rightAt ar ⟨P, R, len, op, ds, a, b, n, to⟩ k := fun k => rfl
  generalize hf : rightAt ar ⟨P, R, len, op, ds, a, b, n, to⟩ = f at hra hck
  have hres : Hid (res = if firstBad f len ≠ 0 then firstBad f len else if len = 0 then 17 else if op (len - 1) = 5 ∨ op (len - 1) = 7 ∨ op (len - 1) = 8 then 0 else 17) := hck
  clear hck hres0 hf
  simp only [head, Bool.or_eq_false_iff, decide_eq_false_iff_not] at hh
  obtain ⟨⟨⟨⟨q1, q2⟩, q3⟩, q4⟩, q5⟩ := hh
  have hB0 : Below w.heap.size w (w.alloc (.cells #[.int .i64 P, .int .i64 R, .slice cad len cap] 24)) := (Below.refl _ _).alloc (Nat.le_refl _) _
  have hF0 : (w.alloc (.cells #[.int .i64 P, .int .i64 R, .slice cad len cap] 24)).heap[w.heap.size]? = some (.cells #[.int .i64 P, .int .i64 R, .slice cad len cap] 24 (0, 0)) := heap_alloc_new w _
  have hS0 : (w.alloc (.cells #[.int .i64 P, .int .i64 R, .slice cad len cap] 24)).heap.size = w.heap.size + 1 := by simp
  go_enter Tryz.func9, Tryz.ntmps9
  go_wp2
  clear q1 q2 q3 q4 q5
  go_loopw [35] (fun i wr => ∃ k : Nat, k ≤ len ∧ i = .int .i64 k ∧ Below w.heap.size w wr ∧ wr.heap[w.heap.size]? = some (.cells #[.int .i64 P, .int .i64 R, .slice cad len cap] 24 (0, 0)) ∧ w.heap.size + 1 ≤ wr.heap.size ∧ Hid (firstBad f k = 0))
    (fun i _ => len - (intOf i).toNat)
  case atStart => exact ⟨0, Nat.zero_le _, rfl, hB0, hF0, by omega, rfl⟩
  case round =>
    obtain ⟨k, hk, rfl, hbl, hF1, hS1, hfb⟩ := hrel
    clear hB0 hF0 hS0
    have hx0 : wr.cell? ⟨w.heap.size, 0, none⟩ = some (.int .i64 P) := by simp [World.cell?, hF1]
    have hx1 : wr.cell? ⟨w.heap.size, 1, none⟩ = some (.int .i64 R) := by simp [World.cell?, hF1]
    have hx2 : wr.cell? ⟨w.heap.size, 2, none⟩ = some (.slice cad len cap) := by simp [World.cell?, hF1]
    by_cases hk1 : k < len
    · obtain ⟨cb, off, he, hb, hat⟩ := hc k hk1
      subst he
      obtain ⟨d0, d1, d2, d3, d4, d5⟩ := hat.mono hbl hb
      have hal : ∀ o, Below wr.heap.size wr (wr.alloc o) := fun o => (Below.refl _ _).alloc (Nat.le_refl _) _
      have C := right21 P R (some ⟨cb, off, none⟩) len cap (op k) (ds k) (a k) (b k) (n k) (to k) (hN' k)
      rw [hra k] at C
      have hy0 : (wr.alloc (.cells #[.int .i64 (op k), .int .i64 (ds k), .int .i64 (a k), .int .i64 (b k), .int .i32 (n k), .int .i64 (to k)] 44)).cell? ⟨w.heap.size, 0, none⟩ = some (.int .i64 P) := (World.cell?_alloc_past _ _ _ (by omega)).trans hx0
      have hy1 : (wr.alloc (.cells #[.int .i64 (op k), .int .i64 (ds k), .int .i64 (a k), .int .i64 (b k), .int .i32 (n k), .int .i64 (to k)] 44)).cell? ⟨w.heap.size, 1, none⟩ = some (.int .i64 R) := (World.cell?_alloc_past _ _ _ (by omega)).trans hx1
      have hy2 : (wr.alloc (.cells #[.int .i64 (op k), .int .i64 (ds k), .int .i64 (a k), .int .i64 (b k), .int .i32 (n k), .int .i64 (to k)] 44)).cell? ⟨w.heap.size, 2, none⟩ = some (.slice (some ⟨cb, off, none⟩) len cap) := (World.cell?_alloc_past _ _ _ (by omega)).trans hx2
      by_cases hz : f k = 0
      · rw [hz] at C
        go_wp2_with (go_at_call 21; refine (C _).mono ?_; rintro e w2 ⟨rfl, hb2⟩; have hb3 := (hal (.cells #[.int .i64 (op k), .int .i64 (ds k), .int .i64 (a k), .int .i64 (b k), .int .i32 (n k), .int .i64 (to k)] 44)).trans (hb2.mono (by simp)))
        go_roundw
        case rel => exact ⟨k + 1, by omega, by go_num, hbl.trans (hb3.mono (by omega)), (hb3.block _ (by omega)).trans hF1, by have := hb3.size; omega, show firstBad f (k + 1) = 0 by simp only [firstBad]; rw [hfb.out]; simpa using hz⟩
        case measure => simp [intOf]; omega
      · go_wp2_with (go_at_call 21; refine (C _).mono ?_; rintro e w2 ⟨rfl, hb2⟩; have hb3 := (hal (.cells #[.int .i64 (op k), .int .i64 (ds k), .int .i64 (a k), .int .i64 (b k), .int .i32 (n k), .int .i64 (to k)] 44)).trans (hb2.mono (by simp)))
        go_ret
        have e1 : firstBad f (k + 1) = f k := by simp only [firstBad]; rw [hfb.out]; simp
        have e2 : firstBad f len = f k := by rw [firstBad_stop (by rw [e1]; exact hz) len (by omega), e1]
        have e3 : res = f k := by rw [hres.out, e2, if_pos hz]
        exact ⟨by rw [e3]; rfl, hbl.trans (hb3.mono (by omega))⟩
    · have hkl : k = len := by omega
      subst hkl
      cases k with
      | zero =>
        go_wp2
        go_ret
        have e3 : res = 17 := by rw [hres.out, hfb.out]; simp
        exact ⟨by rw [e3]; rfl, hbl⟩
      | succ m =>
        obtain ⟨cb, off, he, hb, hat⟩ := hc m (by simp)
        subst he
        have d0 := (hat.mono hbl hb).c0
        clear hc hra
        have e3 : res = if op m = 5 ∨ op m = 7 ∨ op m = 8 then 0 else 17 := by rw [hres.out, hfb.out]; simp
        have e4 : Hid (res = if op m = 5 ∨ op m = 7 ∨ op m = 8 then 0 else 17) := e3
        clear e3 hres hfb
        go_wp2
        all_goals go_ret
        all_goals refine ⟨?_, hbl⟩
        all_goals rw [e4.out]
        all_goals clear e4
        all_goals go_light
        all_goals simp_all
theorem check9 (F : Fn) (cad : Option Addr) (cap : Nat) (w : World) (hlen : F.len ≤ 60) (hN : Nice F) (hc : Code_ w w.heap.size cad F) :
    Calls Tryz.prog 9 #[fv F cad cap] w fun e w' => e = .returned (.int .i64 (chk ar F)) ∧ Below w.heap.size w w' := by
  obtain ⟨P, R, len, op, ds, a, b, n, to⟩ := F
  cases hh : head ⟨P, R, len, op, ds, a, b, n, to⟩
  · exact check9_ok P R len op ds a b n to cad cap w hlen hh hN hc
  · have e : chk ar ⟨P, R, len, op, ds, a, b, n, to⟩ = 1 := by unfold chk; rw [hh]; simp
    rw [e]
    simp only [head, Bool.or_eq_true, decide_eq_true_eq] at hh
    simp only at hlen
    by_cases q1 : R < 0
    · exact check9_h0 P R cad len cap q1 w
    by_cases q2 : 34 < R
    · exact check9_h1 P R cad len cap (by omega) q2 w
    by_cases q3 : P < 0
    · exact check9_h2 P R cad len cap (by omega) (by omega) q3 w
    exact check9_h3 P R cad len cap (by omega) (by omega) (by omega) (by omega) w
end Go.Proofs.YtondggcbldnhcaaGreat.irx
