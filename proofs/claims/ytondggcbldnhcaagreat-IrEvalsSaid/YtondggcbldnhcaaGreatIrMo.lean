/-
  IrMore answers true.
-/
import Derived.Test.YtondggcbldnhcaaGreatIrEv
import Derived.Test.YtondggcbldnhcaaGreatIrEvB
import Derived.Deep.Cut
namespace Go.Proofs.YtondggcbldnhcaaGreat.irx
open Go Go.RowKit
open Go.Proofs.YtondggcbldnhcaaGreat
set_option linter.unusedVariables false
set_option linter.unusedSimpArgs false
abbrev rv (r : Int × Int × Int) : Value := .agg #[.int .i64 r.1, .int .i32 r.2.1, .int .i64 r.2.2]
theorem evalC (P R : Int) (len : Nat) (op ds a b n to : Nat → Int) (cad : Option Addr) (cap : Nat) (aad : Option Addr) (acap : Nat) (args : List Int) (pn : Nat) (w : World) (hlen : len ≤ 60) (hpn : pn ≤ 1048576)
    (hN : Nice ⟨P, R, len, op, ds, a, b, n, to⟩) (hc : Code_ w w.heap.size cad ⟨P, R, len, op, ds, a, b, n, to⟩) (ha : Args w w.heap.size aad args) :
    Calls Tryz.prog 7 #[fval P R cad len cap, .slice aad args.length acap, .int .i64 (pn : Int)] w fun e w' => e = .returned (rv (eval ar ⟨P, R, len, op, ds, a, b, n, to⟩ args pn)) ∧ Below w.heap.size w w' := by
  by_cases h1 : chk ar ⟨P, R, len, op, ds, a, b, n, to⟩ = 0
  · by_cases h2 : (args.length : Int) = P
    · have e : eval ar ⟨P, R, len, op, ds, a, b, n, to⟩ args pn = runS ar ⟨P, R, len, op, ds, a, b, n, to⟩ pn (start ⟨P, R, len, op, ds, a, b, n, to⟩ args) := by
        unfold eval; rw [if_neg (by simp only [not_or, Decidable.not_not]; exact ⟨h1, h2⟩)]
      rw [e]
      exact eval7 P R len op ds a b n to cad cap aad acap args pn w hlen hpn hN hc ha h1 h2
    · have e : eval ar ⟨P, R, len, op, ds, a, b, n, to⟩ args pn = (0, 0, 0) := by unfold eval; rw [if_pos (.inr h2)]
      rw [e]
      exact eval7_len P R len op ds a b n to cad cap aad args.length acap pn w hlen hN hc h1 h2
  · have e : eval ar ⟨P, R, len, op, ds, a, b, n, to⟩ args pn = (0, 0, 0) := by unfold eval; rw [if_pos (.inl h1)]
    rw [e]
    exact eval7_bad P R len op ds a b n to cad cap aad args.length acap pn w hlen hN hc h1
theorem Args.mono {w w' : World} {B B' : Nat} {aad : Option Addr} {args : List Int} (h : Args w B aad args) (hb : Below B w w') (hB : B ≤ B') : Args w' B' aad args := by
  intro i hi
  obtain ⟨b, off, h1, h2, h3⟩ := h i hi
  exact ⟨b, off, h1, by omega, (hb.cell h2).trans h3⟩
set_option maxHeartbeats 3200000 in
set_option maxRecDepth 1000000 in
theorem law4 (P R : Int) (len len0 : Nat) (op ds a b n to : Nat → Int) (cad : Option Addr) (cap : Nat) (aad : Option Addr) (acap : Nat) (args : List Int) (polls more_ : Int) (w : World) (hlen : len ≤ 60)
    (hfew : ∀ w, Calls Tryz.prog 5 #[fval P R cad len0 cap] w fun e w' => e = .returned (fval P R cad len cap) ∧ Below w.heap.size w w')
    (hN : Nice ⟨P, R, len, op, ds, a, b, n, to⟩) (hc : Code_ w w.heap.size cad ⟨P, R, len, op, ds, a, b, n, to⟩) (ha : Args w w.heap.size aad args) :
    Calls Tryz.prog 4 #[fval P R cad len0 cap, .slice aad args.length acap, .int .i64 polls, .int .i64 more_] w fun e w' => e = .returned (.bool true) ∧ Below w.heap.size w w' := by
  obtain ⟨p, hp, hp60⟩ : ∃ p : Nat, wth polls = p ∧ p ≤ 60 := ⟨(wth polls).toNat, by have := wth_rng polls; omega, by have := wth_rng polls; omega⟩
  obtain ⟨q, hq, hq60⟩ : ∃ q : Nat, wth more_ = q ∧ q ≤ 60 := ⟨(wth more_).toNat, by have := wth_rng more_; omega, by have := wth_rng more_; omega⟩
  have hW1 := within12 polls
  have hW2 := within12 more_
  rw [hp] at hW1
  rw [hq] at hW2
  have hb0 : Below w.heap.size w (w.alloc (.cells #[.int .i64 P, .int .i64 R, .slice cad len0 cap] 24)) := (Below.refl _ _).alloc (Nat.le_refl _) _
  have hs0 : (w.alloc (.cells #[.int .i64 P, .int .i64 R, .slice cad len0 cap] 24)).heap.size = w.heap.size + 1 := by simp
  have hF0 : (w.alloc (.cells #[.int .i64 P, .int .i64 R, .slice cad len0 cap] 24)).heap[w.heap.size]? = some (.cells #[.int .i64 P, .int .i64 R, .slice cad len0 cap] 24 (0, 0)) := heap_alloc_new w _
  have hE := fun (w0 : World) (pn : Nat) (hpn : pn ≤ 1048576) (hb : Below w.heap.size w w0) (hs : w.heap.size ≤ w0.heap.size) => evalC P R len op ds a b n to cad cap aad acap args pn w0 hlen hpn hN (hc.mono hb hs) (ha.mono hb hs)
  have hM := eval_more ar ⟨P, R, len, op, ds, a, b, n, to⟩ args (p := p) (q := p + q) (by omega)
  have hE1 := fun (w0 : World) (hb : Below w.heap.size w w0) (hs : w.heap.size ≤ w0.heap.size) => hE w0 p (by omega) hb hs
  have hE2 := fun (w0 : World) (hb : Below w.heap.size w w0) (hs : w.heap.size ≤ w0.heap.size) => hE w0 (p + q) (by omega) hb hs
  rw [Int.natCast_add] at hE2
  clear hE
  generalize eval ar ⟨P, R, len, op, ds, a, b, n, to⟩ args p = E1 at hE1 hM
  generalize eval ar ⟨P, R, len, op, ds, a, b, n, to⟩ args (p + q) = E2 at hE2 hM
  obtain ⟨k1, n1, m1⟩ := E1
  obtain ⟨k2, n2, m2⟩ := E2
  simp only [Prod.mk.injEq] at hM
  have hE1' : ∀ (w0 : World), Below w.heap.size w w0 → w.heap.size ≤ w0.heap.size → Calls Tryz.prog 7 #[fval P R cad len cap, .slice aad args.length acap, .int .i64 (p : Int)] w0 fun e w' => e = .returned (.agg #[.int .i64 k1, .int .i32 n1, .int .i64 m1]) ∧ Below w0.heap.size w0 w' := hE1
  have hE2' : ∀ (w0 : World), Below w.heap.size w w0 → w.heap.size ≤ w0.heap.size → Calls Tryz.prog 7 #[fval P R cad len cap, .slice aad args.length acap, .int .i64 ((p : Int) + (q : Int))] w0 fun e w' => e = .returned (.agg #[.int .i64 k2, .int .i32 n2, .int .i64 m2]) ∧ Below w0.heap.size w0 w' := hE2
  clear hE1 hE2
  clear hc ha hN
  go_enter Tryz.func4, Tryz.ntmps4
  go_wp2_with (first | (go_at_call 5; refine (hfew _).mono ?_; rintro e w1 ⟨rfl, hb1⟩; have hF1 := (hb1.block w.heap.size (by omega)).trans hF0; have hb1' := hb0.trans (hb1.mono (by omega)); have hs1 : w.heap.size + 1 ≤ w1.heap.size := (by have := hb1.size; omega); have hc10 : w1.cell? ⟨w.heap.size, 0, none⟩ = some (.int .i64 P) := (by simp [World.cell?, hF1]); have hc11 : w1.cell? ⟨w.heap.size, 1, none⟩ = some (.int .i64 R) := (by simp [World.cell?, hF1]); have hc12 : w1.cell? ⟨w.heap.size, 2, none⟩ = some (.slice cad len0 cap) := (by simp [World.cell?, hF1]); have hz1 : ∀ j, w1.frozen? ⟨w.heap.size, j, none⟩ = false := (fun j => by simp [World.frozen?, hF1])))
  have hF2 := fin_row' hF1 (.int .i64 P) (.int .i64 R) (.slice cad len cap)
  have hb2 := ((hb1'.setCell (p := ⟨w.heap.size, 0, none⟩) (by simp only; omega) (.int .i64 P)).setCell (p := ⟨w.heap.size, 1, none⟩) (by simp only; omega) (.int .i64 R)).setCell (p := ⟨w.heap.size, 2, none⟩) (by simp only; omega) (.slice cad len cap)
  have hs2 : w.heap.size + 1 ≤ (((w1.setCell ⟨w.heap.size, 0, none⟩ (.int .i64 P)).setCell ⟨w.heap.size, 1, none⟩ (.int .i64 R)).setCell ⟨w.heap.size, 2, none⟩ (.slice cad len cap)).heap.size := by simpa [World.setCell] using hs1
  generalize (((w1.setCell ⟨w.heap.size, 0, none⟩ (.int .i64 P)).setCell ⟨w.heap.size, 1, none⟩ (.int .i64 R)).setCell ⟨w.heap.size, 2, none⟩ (.slice cad len cap)) = w2 at *
  clear hF0 hF1 hb0 hb1 hb1' hs0 hs1 hc10 hc11 hc12 hz1 hfew
  by_cases hk : k1 = 3
  · obtain ⟨rfl, rfl, hpm⟩ := hM.2 hk
    subst hk
    clear hM
    refine (hW1 _).mono ?_
    rintro e w3 ⟨rfl, hb3⟩
    go_wp2_with fail
    refine (hW2 _).mono ?_
    rintro e w4 ⟨rfl, hb4⟩
    have hs3 := hb3.size
    have hs4 := hb4.size
    have hF4 := (hb4.block w.heap.size (by omega)).trans ((hb3.block w.heap.size (by omega)).trans hF2)
    have hB4 := (hb2.trans (hb3.mono (by omega))).trans (hb4.mono (by omega))
    clear hb3 hb4 hF2 hb2 hW1 hW2
    have c40 : w4.cell? ⟨w.heap.size, 0, none⟩ = some (.int .i64 P) := by simp [World.cell?, hF4]
    have c41 : w4.cell? ⟨w.heap.size, 1, none⟩ = some (.int .i64 R) := by simp [World.cell?, hF4]
    have c42 : w4.cell? ⟨w.heap.size, 2, none⟩ = some (.slice cad len cap) := by simp [World.cell?, hF4]
    go_wp2_with fail
    refine (hE1' _ hB4 (by omega)).mono ?_
    rintro e w5 ⟨rfl, hb5⟩
    have hs5 := hb5.size
    have hF5 := (hb5.block w.heap.size (by omega)).trans hF4
    have hB5 := hB4.trans (hb5.mono (by omega))
    clear c40 c41 c42 hF4 hB4 hb5 hE1'
    have hA6 : (w5.alloc (.cells #[.int .i64 3, .int .i32 0, .int .i64 (p : Int)] 32)).heap[w5.heap.size]? = some (.cells #[.int .i64 3, .int .i32 0, .int .i64 (p : Int)] 32 (0, 0)) := heap_alloc_new _ _
    have hF6 : (w5.alloc (.cells #[.int .i64 3, .int .i32 0, .int .i64 (p : Int)] 32)).heap[w.heap.size]? = some (.cells #[.int .i64 P, .int .i64 R, .slice cad len cap] 24 (0, 0)) := by rw [Below.heap_alloc _ _ _ (by omega)]; exact hF5
    have hB6 : Below w.heap.size w (w5.alloc (.cells #[.int .i64 3, .int .i32 0, .int .i64 (p : Int)] 32)) := hB5.alloc (by omega) _
    have hs6 : (w5.alloc (.cells #[.int .i64 3, .int .i32 0, .int .i64 (p : Int)] 32)).heap.size = w5.heap.size + 1 := by simp
    have c60 : (w5.alloc (.cells #[.int .i64 3, .int .i32 0, .int .i64 (p : Int)] 32)).cell? ⟨w.heap.size, 0, none⟩ = some (.int .i64 P) := by simp only [World.cell?, hF6]; rfl
    have c61 : (w5.alloc (.cells #[.int .i64 3, .int .i32 0, .int .i64 (p : Int)] 32)).cell? ⟨w.heap.size, 1, none⟩ = some (.int .i64 R) := by simp only [World.cell?, hF6]; rfl
    have c62 : (w5.alloc (.cells #[.int .i64 3, .int .i32 0, .int .i64 (p : Int)] 32)).cell? ⟨w.heap.size, 2, none⟩ = some (.slice cad len cap) := by simp only [World.cell?, hF6]; rfl
    go_wp2_with fail
    generalize w5.alloc (.cells #[.int .i64 3, .int .i32 0, .int .i64 (p : Int)] 32) = w6 at *
    generalize w5.heap.size = A6 at *
    refine (hE2' _ hB6 (by omega)).mono ?_
    rintro e w7 ⟨rfl, hb7⟩
    have hs7 := hb7.size
    have hA7 := (hb7.block A6 (by omega)).trans hA6
    have hB7 := hB6.trans (hb7.mono (by omega))
    clear c60 c61 c62 hF6 hB6 hb7 hE2' hF5 hB5 hA6
    have hA8 : (w7.alloc (.cells #[.int .i64 k2, .int .i32 n2, .int .i64 m2] 32)).heap[A6]? = some (.cells #[.int .i64 3, .int .i32 0, .int .i64 (p : Int)] 32 (0, 0)) := by rw [Below.heap_alloc _ _ _ (by omega)]; exact hA7
    have hC8 : (w7.alloc (.cells #[.int .i64 k2, .int .i32 n2, .int .i64 m2] 32)).heap[w7.heap.size]? = some (.cells #[.int .i64 k2, .int .i32 n2, .int .i64 m2] 32 (0, 0)) := heap_alloc_new _ _
    have hB8 : Below w.heap.size w (w7.alloc (.cells #[.int .i64 k2, .int .i32 n2, .int .i64 m2] 32)) := hB7.alloc (by omega) _
    have hs8 : (w7.alloc (.cells #[.int .i64 k2, .int .i32 n2, .int .i64 m2] 32)).heap.size = w7.heap.size + 1 := by simp
    go_upto_region 6 with fail
    generalize w7.alloc (.cells #[.int .i64 k2, .int .i32 n2, .int .i64 m2] 32) = w8 at *
    generalize w7.heap.size = C8 at *
    have a0 : w8.cell? ⟨A6, 0, none⟩ = some (.int .i64 3) := by simp only [World.cell?, hA8]; rfl
    have a1 : w8.cell? ⟨A6, 1, none⟩ = some (.int .i32 0) := by simp only [World.cell?, hA8]; rfl
    have a2 : w8.cell? ⟨A6, 2, none⟩ = some (.int .i64 (p : Int)) := by simp only [World.cell?, hA8]; rfl
    have g0 : w8.cell? ⟨C8, 0, none⟩ = some (.int .i64 k2) := by simp only [World.cell?, hC8]; rfl
    have g1 : w8.cell? ⟨C8, 1, none⟩ = some (.int .i32 n2) := by simp only [World.cell?, hC8]; rfl
    have g2 : w8.cell? ⟨C8, 2, none⟩ = some (.int .i64 m2) := by simp only [World.cell?, hC8]; rfl
    clear hA8 hC8 hA7
    go_wp2_with (go_at_call 11; refine (known_call _).mono ?_; rintro e w9 ⟨rfl, hb9⟩)
    go_ret
    exact ⟨rfl, hB8.trans (hb9.mono (by omega))⟩
  · obtain ⟨rfl, rfl, rfl⟩ := hM.1 hk
    clear hM
    refine (hW1 _).mono ?_
    rintro e w3 ⟨rfl, hb3⟩
    go_wp2_with fail
    refine (hW2 _).mono ?_
    rintro e w4 ⟨rfl, hb4⟩
    have hs3 := hb3.size
    have hs4 := hb4.size
    have hF4 := (hb4.block w.heap.size (by omega)).trans ((hb3.block w.heap.size (by omega)).trans hF2)
    have hB4 := (hb2.trans (hb3.mono (by omega))).trans (hb4.mono (by omega))
    clear hb3 hb4 hF2 hb2 hW1 hW2
    have c40 : w4.cell? ⟨w.heap.size, 0, none⟩ = some (.int .i64 P) := by simp [World.cell?, hF4]
    have c41 : w4.cell? ⟨w.heap.size, 1, none⟩ = some (.int .i64 R) := by simp [World.cell?, hF4]
    have c42 : w4.cell? ⟨w.heap.size, 2, none⟩ = some (.slice cad len cap) := by simp [World.cell?, hF4]
    go_wp2_with fail
    refine (hE1' _ hB4 (by omega)).mono ?_
    rintro e w5 ⟨rfl, hb5⟩
    have hs5 := hb5.size
    have hF5 := (hb5.block w.heap.size (by omega)).trans hF4
    have hB5 := hB4.trans (hb5.mono (by omega))
    clear c40 c41 c42 hF4 hB4 hb5 hE1'
    have hA6 : (w5.alloc (.cells #[.int .i64 k2, .int .i32 n2, .int .i64 m2] 32)).heap[w5.heap.size]? = some (.cells #[.int .i64 k2, .int .i32 n2, .int .i64 m2] 32 (0, 0)) := heap_alloc_new _ _
    have hF6 : (w5.alloc (.cells #[.int .i64 k2, .int .i32 n2, .int .i64 m2] 32)).heap[w.heap.size]? = some (.cells #[.int .i64 P, .int .i64 R, .slice cad len cap] 24 (0, 0)) := by rw [Below.heap_alloc _ _ _ (by omega)]; exact hF5
    have hB6 : Below w.heap.size w (w5.alloc (.cells #[.int .i64 k2, .int .i32 n2, .int .i64 m2] 32)) := hB5.alloc (by omega) _
    have hs6 : (w5.alloc (.cells #[.int .i64 k2, .int .i32 n2, .int .i64 m2] 32)).heap.size = w5.heap.size + 1 := by simp
    have c60 : (w5.alloc (.cells #[.int .i64 k2, .int .i32 n2, .int .i64 m2] 32)).cell? ⟨w.heap.size, 0, none⟩ = some (.int .i64 P) := by simp only [World.cell?, hF6]; rfl
    have c61 : (w5.alloc (.cells #[.int .i64 k2, .int .i32 n2, .int .i64 m2] 32)).cell? ⟨w.heap.size, 1, none⟩ = some (.int .i64 R) := by simp only [World.cell?, hF6]; rfl
    have c62 : (w5.alloc (.cells #[.int .i64 k2, .int .i32 n2, .int .i64 m2] 32)).cell? ⟨w.heap.size, 2, none⟩ = some (.slice cad len cap) := by simp only [World.cell?, hF6]; rfl
    go_wp2_with fail
    generalize w5.alloc (.cells #[.int .i64 k2, .int .i32 n2, .int .i64 m2] 32) = w6 at *
    generalize w5.heap.size = A6 at *
    refine (hE2' _ hB6 (by omega)).mono ?_
    rintro e w7 ⟨rfl, hb7⟩
    have hs7 := hb7.size
    have hA7 := (hb7.block A6 (by omega)).trans hA6
    have hB7 := hB6.trans (hb7.mono (by omega))
    clear c60 c61 c62 hF6 hB6 hb7 hE2' hF5 hB5 hA6
    have hA8 : (w7.alloc (.cells #[.int .i64 k2, .int .i32 n2, .int .i64 m2] 32)).heap[A6]? = some (.cells #[.int .i64 k2, .int .i32 n2, .int .i64 m2] 32 (0, 0)) := by rw [Below.heap_alloc _ _ _ (by omega)]; exact hA7
    have hC8 : (w7.alloc (.cells #[.int .i64 k2, .int .i32 n2, .int .i64 m2] 32)).heap[w7.heap.size]? = some (.cells #[.int .i64 k2, .int .i32 n2, .int .i64 m2] 32 (0, 0)) := heap_alloc_new _ _
    have hB8 : Below w.heap.size w (w7.alloc (.cells #[.int .i64 k2, .int .i32 n2, .int .i64 m2] 32)) := hB7.alloc (by omega) _
    have hs8 : (w7.alloc (.cells #[.int .i64 k2, .int .i32 n2, .int .i64 m2] 32)).heap.size = w7.heap.size + 1 := by simp
    go_upto_region 6 with fail
    generalize w7.alloc (.cells #[.int .i64 k2, .int .i32 n2, .int .i64 m2] 32) = w8 at *
    generalize w7.heap.size = C8 at *
    have a0 : w8.cell? ⟨A6, 0, none⟩ = some (.int .i64 k2) := by simp only [World.cell?, hA8]; rfl
    have a1 : w8.cell? ⟨A6, 1, none⟩ = some (.int .i32 n2) := by simp only [World.cell?, hA8]; rfl
    have a2 : w8.cell? ⟨A6, 2, none⟩ = some (.int .i64 m2) := by simp only [World.cell?, hA8]; rfl
    have g0 : w8.cell? ⟨C8, 0, none⟩ = some (.int .i64 k2) := by simp only [World.cell?, hC8]; rfl
    have g1 : w8.cell? ⟨C8, 1, none⟩ = some (.int .i32 n2) := by simp only [World.cell?, hC8]; rfl
    have g2 : w8.cell? ⟨C8, 2, none⟩ = some (.int .i64 m2) := by simp only [World.cell?, hC8]; rfl
    clear hA8 hC8 hA7
    go_wp2_with (go_at_call 11; refine (known_call _).mono ?_; rintro e w9 ⟨rfl, hb9⟩)
    go_ret
    exact ⟨rfl, hB8.trans (hb9.mono (by omega))⟩
end Go.Proofs.YtondggcbldnhcaaGreat.irx
