/-
  (ir.Func).right: whether an instruction may be.
-/
import Derived.Test.YtondggcbldnhcaaGreatIrRd
import Derived.Deep.Light
namespace Go.Proofs.YtondggcbldnhcaaGreat.irx
open Go Go.RowKit
open Go.Proofs.YtondggcbldnhcaaGreat
set_option linter.unusedVariables false
set_option linter.unusedSimpArgs false
def ar : Ar := ⟨two, one, test⟩
def allIn (R : Int) (l : List Int) : Bool := l.all (inR R)
theorem allIn_succ (R : Int) (l : List Int) (k : Nat) (hk : k < l.length) : allIn R (l.take (k + 1)) = (allIn R (l.take k) && inR R (l.getD k 0)) := by
  simp only [allIn]
  rw [List.take_add_one, List.all_append]
  congr 1
  rw [List.getElem?_eq_getElem hk]
  simp [List.getD, hk]
theorem allIn_rl (R op a b n : Int) : allIn R (rl op a b n) = ((!rdA op || inR R a) && (!rdB op n || inR R b)) := by
  unfold rl allIn
  cases rdA op <;> cases rdB op n <;> simp
theorem rl_le (op a b n : Int) : (rl op a b n).length ≤ 2 := by
  unfold rl
  cases rdA op <;> cases rdB op n <;> simp
theorem row_get {w : World} {base : Nat} {v : Value} {l : List Int} (h : w.ownsRow base 3 1 v l.length (ints l)) : ∃ ad cap, v = .slice ad l.length cap ∧ ∀ k, k < l.length → ∃ g, ad = some ⟨g, 0, none⟩ ∧ g < w.heap.size ∧ w.cell? ⟨g, k, none⟩ = some (.int .i64 (l.getD k 0)) := by
  have h0 := h
  have hlt := h.lt
  obtain ⟨_, hc⟩ := h
  rcases hc with ⟨rfl, hn⟩ | ⟨g, cap, cur, rfl, hg, hh, hn, hcap, hsz, htake⟩
  · rw [hn]; exact ⟨none, 0, rfl, fun i hi => by omega⟩
  · refine ⟨_, cap, rfl, fun i hi => ⟨g, rfl, (hlt g rfl).2, ?_⟩⟩
    rw [h0.cellAt i (by omega)]
    simp [ints, List.getD, hi]
/-- a Func, as a value -/
abbrev fval (P R : Int) (cad : Option Addr) (len cap : Nat) : Value := .agg #[.int .i64 P, .int .i64 R, .slice cad len cap]

set_option maxHeartbeats 3200000 in
set_option maxRecDepth 1000000 in
theorem right21_1 (P R : Int) (cad : Option Addr) (len cap : Nat) (ds a b n to : Int) (hw : wrap64 n = n) (w : World) : Calls Tryz.prog 21 #[fval P R cad len cap, inst 1 ds a b n to] w fun e w' =>
    e = .returned (.int .i64 (right ar R len 1 ds a b n to)) ∧ Below w.heap.size w w' := by
  have hB0 : Below w.heap.size w ((w.alloc (.cells #[.int .i64 P, .int .i64 R, .slice cad len cap] 24)).alloc (.cells #[.int .i64 1, .int .i64 ds, .int .i64 a, .int .i64 b, .int .i32 n, .int .i64 to] 44)) := ((Below.refl _ _).alloc (Nat.le_refl _) _).alloc (by simp) _
  have hS0 : ((w.alloc (.cells #[.int .i64 P, .int .i64 R, .slice cad len cap] 24)).alloc (.cells #[.int .i64 1, .int .i64 ds, .int .i64 a, .int .i64 b, .int .i32 n, .int .i64 to] 44)).heap.size = w.heap.size + 2 := by simp
  have hF0 : ((w.alloc (.cells #[.int .i64 P, .int .i64 R, .slice cad len cap] 24)).alloc (.cells #[.int .i64 1, .int .i64 ds, .int .i64 a, .int .i64 b, .int .i32 n, .int .i64 to] 44)).heap[w.heap.size]? = some (.cells #[.int .i64 P, .int .i64 R, .slice cad len cap] 24 (0, 0)) := by
    rw [Below.heap_alloc _ _ _ (by simp)]; exact heap_alloc_new w _
  have hI0 : ((w.alloc (.cells #[.int .i64 P, .int .i64 R, .slice cad len cap] 24)).alloc (.cells #[.int .i64 1, .int .i64 ds, .int .i64 a, .int .i64 b, .int .i32 n, .int .i64 to] 44)).heap[w.heap.size + 1]? = some (.cells #[.int .i64 1, .int .i64 ds, .int .i64 a, .int .i64 b, .int .i32 n, .int .i64 to] 44 (0, 0)) := by
    have := heap_alloc_new (w.alloc (.cells #[.int .i64 P, .int .i64 R, .slice cad len cap] 24)) (.cells #[.int .i64 1, .int .i64 ds, .int .i64 a, .int .i64 b, .int .i32 n, .int .i64 to] 44)
    simpa using this
  go_enter Tryz.func21, Tryz.ntmps21
  go_wp2_with (go_at_call 28; refine (reads28 1 ds a b n to _).mono ?_; rintro e w1 ⟨v, rfl, hown, hb1⟩; obtain ⟨ad, cp, rfl, hrow⟩ := row_get hown)
  have hB1 := hB0.trans (hb1.mono (by omega))
  have hF1 := (hb1.block w.heap.size (by omega)).trans hF0
  have hI1 := (hb1.block (w.heap.size + 1) (by omega)).trans hI0
  have hS1 : w.heap.size + 2 ≤ w1.heap.size := by have := hb1.size; omega
  have hll := allIn_rl R 1 a b n
  have hl2 := rl_le 1 a b n
  generalize rl 1 a b n = l at *
  clear hown hb1 hF0 hI0 hB0
  go_loopw [5, 12] (fun q i wr => ∃ k : Nat, k ≤ l.length ∧ i = .int .i64 k ∧ q = .bool (allIn R (l.take k)) ∧ Below w1.heap.size w1 wr) (fun _ i _ => l.length - (intOf i).toNat)
  case atStart => exact ⟨0, Nat.zero_le _, rfl, rfl, Below.refl _ _⟩
  case round =>
    obtain ⟨k, hk, rfl, rfl, hbl⟩ := hrel
    have hF1 := (hbl.block w.heap.size (by omega)).trans hF1
    have hI1 := (hbl.block (w.heap.size + 1) (by omega)).trans hI1
    have hB1 := hB1.trans (hbl.mono (by omega))
    have hS1 : w.heap.size + 2 ≤ wr.heap.size := by have := hbl.size; omega
    have hx1 : wr.cell? ⟨w.heap.size, 1, none⟩ = some (.int .i64 R) := by simp [World.cell?, hF1]
    by_cases hk1 : k < l.length
    · obtain ⟨g, rfl, hg, hc0⟩ := hrow k hk1
      have hc := (hbl.cell (p := ⟨g, k, none⟩) hg).trans hc0
      clear hc0
      have hs := allIn_succ R l k hk1
      generalize l.getD k 0 = x at hc hs
      cases hq : allIn R (l.take k)
      · go_wp2
        go_roundw
        case rel => exact ⟨k + 1, by omega, by go_num, by rw [hs, hq]; rfl, hbl⟩
        case measure => simp [intOf]; omega
      · by_cases h1 : 0 ≤ x
        · by_cases h2 : x < R
          · go_wp2
            go_roundw
            case rel => exact ⟨k + 1, by omega, by go_num, by rw [hs, hq]; simp [inR, h1, h2], hbl⟩
            case measure => simp [intOf]; omega
          · go_wp2
            go_roundw
            case rel => exact ⟨k + 1, by omega, by go_num, by rw [hs, hq]; simp [inR, h1, h2], hbl⟩
            case measure => simp [intOf]; omega
        · go_wp2
          go_roundw
          case rel => exact ⟨k + 1, by omega, by go_num, by rw [hs, hq]; simp [inR, h1], hbl⟩
          case measure => simp [intOf]; omega
    · have hkl : k = l.length := by omega
      subst hkl
      rw [List.take_length, hll]
      have hy0 : wr.cell? ⟨w.heap.size + 1, 0, none⟩ = some (.int .i64 1) := by simp [World.cell?, hI1]
      have hy1 : wr.cell? ⟨w.heap.size + 1, 1, none⟩ = some (.int .i64 ds) := by simp [World.cell?, hI1]
      have hy2 : wr.cell? ⟨w.heap.size + 1, 2, none⟩ = some (.int .i64 a) := by simp [World.cell?, hI1]
      have hy3 : wr.cell? ⟨w.heap.size + 1, 3, none⟩ = some (.int .i64 b) := by simp [World.cell?, hI1]
      have hy4 : wr.cell? ⟨w.heap.size + 1, 4, none⟩ = some (.int .i32 n) := by simp [World.cell?, hI1]
      have hy5 : wr.cell? ⟨w.heap.size + 1, 5, none⟩ = some (.int .i64 to) := by simp [World.cell?, hI1]
      have hF2 : ∀ w2, Below wr.heap.size wr w2 → w2.cell? ⟨w.heap.size, 1, none⟩ = some (.int .i64 R) ∧ w2.cell? ⟨w.heap.size, 2, none⟩ = some (.slice cad len cap) := fun w2 hb => by
        have := (hb.block w.heap.size (by omega)).trans hF1
        exact ⟨by simp [World.cell?, this], by simp [World.cell?, this]⟩
      have hI2 : ∀ w2, Below wr.heap.size wr w2 → w2.heap[w.heap.size + 1]? = some (.cells #[.int .i64 1, .int .i64 ds, .int .i64 a, .int .i64 b, .int .i32 n, .int .i64 to] 44 (0, 0)) := fun w2 hb => (hb.block (w.heap.size + 1) (by omega)).trans hI1
      have hwr : irx.wr 1 = true := by decide
      generalize hqq : ((!rdA 1 || inR R a) && (!rdB 1 n || inR R b)) = q0
      clear hll hl2
      cases q0
      · go_wp2_with fail
        refine (writes29 1 ds a b n to _).mono ?_
        rintro e w2 ⟨rfl, hb2⟩
        obtain ⟨hz1, hz2⟩ := hF2 _ hb2
        have hB2 := hB1.trans (hb2.mono (by omega))
        have hI3 := hI2 _ hb2
        have hz3 : w2.cell? ⟨w.heap.size + 1, 0, none⟩ = some (.int .i64 1) := by simp [World.cell?, hI3]
        have hz4 : w2.cell? ⟨w.heap.size + 1, 1, none⟩ = some (.int .i64 ds) := by simp [World.cell?, hI3]
        have hz5 : w2.cell? ⟨w.heap.size + 1, 4, none⟩ = some (.int .i32 n) := by simp [World.cell?, hI3]
        have hz6 : w2.cell? ⟨w.heap.size + 1, 5, none⟩ = some (.int .i64 to) := by simp [World.cell?, hI3]
        clear hF2 hI2 hI3 hx1 hy0 hy1 hy2 hy3 hy4 hy5 hF1 hI1 hrow hB1 hbl
        go_wp2_with (fail)
        all_goals go_ret
        all_goals refine ⟨?_, hB2⟩
        all_goals go_light
        all_goals simp_all [right, fine, why, rdA, rdB, irx.wr, ar, inR]
        all_goals (intros; first | omega | (simp_all <;> omega))
      · go_wp2_with fail
        refine (writes29 1 ds a b n to _).mono ?_
        rintro e w2 ⟨rfl, hb2⟩
        obtain ⟨hz1, hz2⟩ := hF2 _ hb2
        have hB2 := hB1.trans (hb2.mono (by omega))
        have hI3 := hI2 _ hb2
        have hz3 : w2.cell? ⟨w.heap.size + 1, 0, none⟩ = some (.int .i64 1) := by simp [World.cell?, hI3]
        have hz4 : w2.cell? ⟨w.heap.size + 1, 1, none⟩ = some (.int .i64 ds) := by simp [World.cell?, hI3]
        have hz5 : w2.cell? ⟨w.heap.size + 1, 4, none⟩ = some (.int .i32 n) := by simp [World.cell?, hI3]
        have hz6 : w2.cell? ⟨w.heap.size + 1, 5, none⟩ = some (.int .i64 to) := by simp [World.cell?, hI3]
        clear hF2 hI2 hI3 hx1 hy0 hy1 hy2 hy3 hy4 hy5 hF1 hI1 hrow hB1 hbl
        go_wp2_with (fail)
        all_goals go_ret
        all_goals refine ⟨?_, hB2⟩
        all_goals go_light
        all_goals simp_all [right, fine, why, rdA, rdB, irx.wr, ar, inR]
        all_goals (intros; first | omega | (simp_all <;> omega))
set_option maxHeartbeats 3200000 in
set_option maxRecDepth 1000000 in
theorem right21_2 (P R : Int) (cad : Option Addr) (len cap : Nat) (ds a b n to : Int) (hw : wrap64 n = n) (w : World) : Calls Tryz.prog 21 #[fval P R cad len cap, inst 2 ds a b n to] w fun e w' =>
    e = .returned (.int .i64 (right ar R len 2 ds a b n to)) ∧ Below w.heap.size w w' := by
  have hB0 : Below w.heap.size w ((w.alloc (.cells #[.int .i64 P, .int .i64 R, .slice cad len cap] 24)).alloc (.cells #[.int .i64 2, .int .i64 ds, .int .i64 a, .int .i64 b, .int .i32 n, .int .i64 to] 44)) := ((Below.refl _ _).alloc (Nat.le_refl _) _).alloc (by simp) _
  have hS0 : ((w.alloc (.cells #[.int .i64 P, .int .i64 R, .slice cad len cap] 24)).alloc (.cells #[.int .i64 2, .int .i64 ds, .int .i64 a, .int .i64 b, .int .i32 n, .int .i64 to] 44)).heap.size = w.heap.size + 2 := by simp
  have hF0 : ((w.alloc (.cells #[.int .i64 P, .int .i64 R, .slice cad len cap] 24)).alloc (.cells #[.int .i64 2, .int .i64 ds, .int .i64 a, .int .i64 b, .int .i32 n, .int .i64 to] 44)).heap[w.heap.size]? = some (.cells #[.int .i64 P, .int .i64 R, .slice cad len cap] 24 (0, 0)) := by
    rw [Below.heap_alloc _ _ _ (by simp)]; exact heap_alloc_new w _
  have hI0 : ((w.alloc (.cells #[.int .i64 P, .int .i64 R, .slice cad len cap] 24)).alloc (.cells #[.int .i64 2, .int .i64 ds, .int .i64 a, .int .i64 b, .int .i32 n, .int .i64 to] 44)).heap[w.heap.size + 1]? = some (.cells #[.int .i64 2, .int .i64 ds, .int .i64 a, .int .i64 b, .int .i32 n, .int .i64 to] 44 (0, 0)) := by
    have := heap_alloc_new (w.alloc (.cells #[.int .i64 P, .int .i64 R, .slice cad len cap] 24)) (.cells #[.int .i64 2, .int .i64 ds, .int .i64 a, .int .i64 b, .int .i32 n, .int .i64 to] 44)
    simpa using this
  go_enter Tryz.func21, Tryz.ntmps21
  go_wp2_with (go_at_call 28; refine (reads28 2 ds a b n to _).mono ?_; rintro e w1 ⟨v, rfl, hown, hb1⟩; obtain ⟨ad, cp, rfl, hrow⟩ := row_get hown)
  have hB1 := hB0.trans (hb1.mono (by omega))
  have hF1 := (hb1.block w.heap.size (by omega)).trans hF0
  have hI1 := (hb1.block (w.heap.size + 1) (by omega)).trans hI0
  have hS1 : w.heap.size + 2 ≤ w1.heap.size := by have := hb1.size; omega
  have hll := allIn_rl R 2 a b n
  have hl2 := rl_le 2 a b n
  generalize rl 2 a b n = l at *
  clear hown hb1 hF0 hI0 hB0
  go_loopw [5, 12] (fun q i wr => ∃ k : Nat, k ≤ l.length ∧ i = .int .i64 k ∧ q = .bool (allIn R (l.take k)) ∧ Below w1.heap.size w1 wr) (fun _ i _ => l.length - (intOf i).toNat)
  case atStart => exact ⟨0, Nat.zero_le _, rfl, rfl, Below.refl _ _⟩
  case round =>
    obtain ⟨k, hk, rfl, rfl, hbl⟩ := hrel
    have hF1 := (hbl.block w.heap.size (by omega)).trans hF1
    have hI1 := (hbl.block (w.heap.size + 1) (by omega)).trans hI1
    have hB1 := hB1.trans (hbl.mono (by omega))
    have hS1 : w.heap.size + 2 ≤ wr.heap.size := by have := hbl.size; omega
    have hx1 : wr.cell? ⟨w.heap.size, 1, none⟩ = some (.int .i64 R) := by simp [World.cell?, hF1]
    by_cases hk1 : k < l.length
    · obtain ⟨g, rfl, hg, hc0⟩ := hrow k hk1
      have hc := (hbl.cell (p := ⟨g, k, none⟩) hg).trans hc0
      clear hc0
      have hs := allIn_succ R l k hk1
      generalize l.getD k 0 = x at hc hs
      cases hq : allIn R (l.take k)
      · go_wp2
        go_roundw
        case rel => exact ⟨k + 1, by omega, by go_num, by rw [hs, hq]; rfl, hbl⟩
        case measure => simp [intOf]; omega
      · by_cases h1 : 0 ≤ x
        · by_cases h2 : x < R
          · go_wp2
            go_roundw
            case rel => exact ⟨k + 1, by omega, by go_num, by rw [hs, hq]; simp [inR, h1, h2], hbl⟩
            case measure => simp [intOf]; omega
          · go_wp2
            go_roundw
            case rel => exact ⟨k + 1, by omega, by go_num, by rw [hs, hq]; simp [inR, h1, h2], hbl⟩
            case measure => simp [intOf]; omega
        · go_wp2
          go_roundw
          case rel => exact ⟨k + 1, by omega, by go_num, by rw [hs, hq]; simp [inR, h1], hbl⟩
          case measure => simp [intOf]; omega
    · have hkl : k = l.length := by omega
      subst hkl
      rw [List.take_length, hll]
      have hy0 : wr.cell? ⟨w.heap.size + 1, 0, none⟩ = some (.int .i64 2) := by simp [World.cell?, hI1]
      have hy1 : wr.cell? ⟨w.heap.size + 1, 1, none⟩ = some (.int .i64 ds) := by simp [World.cell?, hI1]
      have hy2 : wr.cell? ⟨w.heap.size + 1, 2, none⟩ = some (.int .i64 a) := by simp [World.cell?, hI1]
      have hy3 : wr.cell? ⟨w.heap.size + 1, 3, none⟩ = some (.int .i64 b) := by simp [World.cell?, hI1]
      have hy4 : wr.cell? ⟨w.heap.size + 1, 4, none⟩ = some (.int .i32 n) := by simp [World.cell?, hI1]
      have hy5 : wr.cell? ⟨w.heap.size + 1, 5, none⟩ = some (.int .i64 to) := by simp [World.cell?, hI1]
      have hF2 : ∀ w2, Below wr.heap.size wr w2 → w2.cell? ⟨w.heap.size, 1, none⟩ = some (.int .i64 R) ∧ w2.cell? ⟨w.heap.size, 2, none⟩ = some (.slice cad len cap) := fun w2 hb => by
        have := (hb.block w.heap.size (by omega)).trans hF1
        exact ⟨by simp [World.cell?, this], by simp [World.cell?, this]⟩
      have hI2 : ∀ w2, Below wr.heap.size wr w2 → w2.heap[w.heap.size + 1]? = some (.cells #[.int .i64 2, .int .i64 ds, .int .i64 a, .int .i64 b, .int .i32 n, .int .i64 to] 44 (0, 0)) := fun w2 hb => (hb.block (w.heap.size + 1) (by omega)).trans hI1
      have hwr : irx.wr 2 = true := by decide
      generalize hqq : ((!rdA 2 || inR R a) && (!rdB 2 n || inR R b)) = q0
      clear hll hl2
      cases q0
      · go_wp2_with fail
        refine (writes29 2 ds a b n to _).mono ?_
        rintro e w2 ⟨rfl, hb2⟩
        obtain ⟨hz1, hz2⟩ := hF2 _ hb2
        have hB2 := hB1.trans (hb2.mono (by omega))
        have hI3 := hI2 _ hb2
        have hz3 : w2.cell? ⟨w.heap.size + 1, 0, none⟩ = some (.int .i64 2) := by simp [World.cell?, hI3]
        have hz4 : w2.cell? ⟨w.heap.size + 1, 1, none⟩ = some (.int .i64 ds) := by simp [World.cell?, hI3]
        have hz5 : w2.cell? ⟨w.heap.size + 1, 4, none⟩ = some (.int .i32 n) := by simp [World.cell?, hI3]
        have hz6 : w2.cell? ⟨w.heap.size + 1, 5, none⟩ = some (.int .i64 to) := by simp [World.cell?, hI3]
        clear hF2 hI2 hI3 hx1 hy0 hy1 hy2 hy3 hy4 hy5 hF1 hI1 hrow hB1 hbl
        go_wp2_with (fail)
        all_goals go_ret
        all_goals refine ⟨?_, hB2⟩
        all_goals go_light
        all_goals simp_all [right, fine, why, rdA, rdB, irx.wr, ar, inR]
        all_goals (intros; first | omega | (simp_all <;> omega))
      · go_wp2_with fail
        refine (writes29 2 ds a b n to _).mono ?_
        rintro e w2 ⟨rfl, hb2⟩
        obtain ⟨hz1, hz2⟩ := hF2 _ hb2
        have hB2 := hB1.trans (hb2.mono (by omega))
        have hI3 := hI2 _ hb2
        have hz3 : w2.cell? ⟨w.heap.size + 1, 0, none⟩ = some (.int .i64 2) := by simp [World.cell?, hI3]
        have hz4 : w2.cell? ⟨w.heap.size + 1, 1, none⟩ = some (.int .i64 ds) := by simp [World.cell?, hI3]
        have hz5 : w2.cell? ⟨w.heap.size + 1, 4, none⟩ = some (.int .i32 n) := by simp [World.cell?, hI3]
        have hz6 : w2.cell? ⟨w.heap.size + 1, 5, none⟩ = some (.int .i64 to) := by simp [World.cell?, hI3]
        clear hF2 hI2 hI3 hx1 hy0 hy1 hy2 hy3 hy4 hy5 hF1 hI1 hrow hB1 hbl
        go_wp2_with (fail)
        all_goals go_ret
        all_goals refine ⟨?_, hB2⟩
        all_goals go_light
        all_goals simp_all [right, fine, why, rdA, rdB, irx.wr, ar, inR]
        all_goals (intros; first | omega | (simp_all <;> omega))
set_option maxHeartbeats 3200000 in
set_option maxRecDepth 1000000 in
theorem right21_3 (P R : Int) (cad : Option Addr) (len cap : Nat) (ds a b n to : Int) (hw : wrap64 n = n) (w : World) : Calls Tryz.prog 21 #[fval P R cad len cap, inst 3 ds a b n to] w fun e w' =>
    e = .returned (.int .i64 (right ar R len 3 ds a b n to)) ∧ Below w.heap.size w w' := by
  have hB0 : Below w.heap.size w ((w.alloc (.cells #[.int .i64 P, .int .i64 R, .slice cad len cap] 24)).alloc (.cells #[.int .i64 3, .int .i64 ds, .int .i64 a, .int .i64 b, .int .i32 n, .int .i64 to] 44)) := ((Below.refl _ _).alloc (Nat.le_refl _) _).alloc (by simp) _
  have hS0 : ((w.alloc (.cells #[.int .i64 P, .int .i64 R, .slice cad len cap] 24)).alloc (.cells #[.int .i64 3, .int .i64 ds, .int .i64 a, .int .i64 b, .int .i32 n, .int .i64 to] 44)).heap.size = w.heap.size + 2 := by simp
  have hF0 : ((w.alloc (.cells #[.int .i64 P, .int .i64 R, .slice cad len cap] 24)).alloc (.cells #[.int .i64 3, .int .i64 ds, .int .i64 a, .int .i64 b, .int .i32 n, .int .i64 to] 44)).heap[w.heap.size]? = some (.cells #[.int .i64 P, .int .i64 R, .slice cad len cap] 24 (0, 0)) := by
    rw [Below.heap_alloc _ _ _ (by simp)]; exact heap_alloc_new w _
  have hI0 : ((w.alloc (.cells #[.int .i64 P, .int .i64 R, .slice cad len cap] 24)).alloc (.cells #[.int .i64 3, .int .i64 ds, .int .i64 a, .int .i64 b, .int .i32 n, .int .i64 to] 44)).heap[w.heap.size + 1]? = some (.cells #[.int .i64 3, .int .i64 ds, .int .i64 a, .int .i64 b, .int .i32 n, .int .i64 to] 44 (0, 0)) := by
    have := heap_alloc_new (w.alloc (.cells #[.int .i64 P, .int .i64 R, .slice cad len cap] 24)) (.cells #[.int .i64 3, .int .i64 ds, .int .i64 a, .int .i64 b, .int .i32 n, .int .i64 to] 44)
    simpa using this
  go_enter Tryz.func21, Tryz.ntmps21
  go_wp2_with (go_at_call 28; refine (reads28 3 ds a b n to _).mono ?_; rintro e w1 ⟨v, rfl, hown, hb1⟩; obtain ⟨ad, cp, rfl, hrow⟩ := row_get hown)
  have hB1 := hB0.trans (hb1.mono (by omega))
  have hF1 := (hb1.block w.heap.size (by omega)).trans hF0
  have hI1 := (hb1.block (w.heap.size + 1) (by omega)).trans hI0
  have hS1 : w.heap.size + 2 ≤ w1.heap.size := by have := hb1.size; omega
  have hll := allIn_rl R 3 a b n
  have hl2 := rl_le 3 a b n
  generalize rl 3 a b n = l at *
  clear hown hb1 hF0 hI0 hB0
  go_loopw [5, 12] (fun q i wr => ∃ k : Nat, k ≤ l.length ∧ i = .int .i64 k ∧ q = .bool (allIn R (l.take k)) ∧ Below w1.heap.size w1 wr) (fun _ i _ => l.length - (intOf i).toNat)
  case atStart => exact ⟨0, Nat.zero_le _, rfl, rfl, Below.refl _ _⟩
  case round =>
    obtain ⟨k, hk, rfl, rfl, hbl⟩ := hrel
    have hF1 := (hbl.block w.heap.size (by omega)).trans hF1
    have hI1 := (hbl.block (w.heap.size + 1) (by omega)).trans hI1
    have hB1 := hB1.trans (hbl.mono (by omega))
    have hS1 : w.heap.size + 2 ≤ wr.heap.size := by have := hbl.size; omega
    have hx1 : wr.cell? ⟨w.heap.size, 1, none⟩ = some (.int .i64 R) := by simp [World.cell?, hF1]
    by_cases hk1 : k < l.length
    · obtain ⟨g, rfl, hg, hc0⟩ := hrow k hk1
      have hc := (hbl.cell (p := ⟨g, k, none⟩) hg).trans hc0
      clear hc0
      have hs := allIn_succ R l k hk1
      generalize l.getD k 0 = x at hc hs
      cases hq : allIn R (l.take k)
      · go_wp2
        go_roundw
        case rel => exact ⟨k + 1, by omega, by go_num, by rw [hs, hq]; rfl, hbl⟩
        case measure => simp [intOf]; omega
      · by_cases h1 : 0 ≤ x
        · by_cases h2 : x < R
          · go_wp2
            go_roundw
            case rel => exact ⟨k + 1, by omega, by go_num, by rw [hs, hq]; simp [inR, h1, h2], hbl⟩
            case measure => simp [intOf]; omega
          · go_wp2
            go_roundw
            case rel => exact ⟨k + 1, by omega, by go_num, by rw [hs, hq]; simp [inR, h1, h2], hbl⟩
            case measure => simp [intOf]; omega
        · go_wp2
          go_roundw
          case rel => exact ⟨k + 1, by omega, by go_num, by rw [hs, hq]; simp [inR, h1], hbl⟩
          case measure => simp [intOf]; omega
    · have hkl : k = l.length := by omega
      subst hkl
      rw [List.take_length, hll]
      have hy0 : wr.cell? ⟨w.heap.size + 1, 0, none⟩ = some (.int .i64 3) := by simp [World.cell?, hI1]
      have hy1 : wr.cell? ⟨w.heap.size + 1, 1, none⟩ = some (.int .i64 ds) := by simp [World.cell?, hI1]
      have hy2 : wr.cell? ⟨w.heap.size + 1, 2, none⟩ = some (.int .i64 a) := by simp [World.cell?, hI1]
      have hy3 : wr.cell? ⟨w.heap.size + 1, 3, none⟩ = some (.int .i64 b) := by simp [World.cell?, hI1]
      have hy4 : wr.cell? ⟨w.heap.size + 1, 4, none⟩ = some (.int .i32 n) := by simp [World.cell?, hI1]
      have hy5 : wr.cell? ⟨w.heap.size + 1, 5, none⟩ = some (.int .i64 to) := by simp [World.cell?, hI1]
      have hF2 : ∀ w2, Below wr.heap.size wr w2 → w2.cell? ⟨w.heap.size, 1, none⟩ = some (.int .i64 R) ∧ w2.cell? ⟨w.heap.size, 2, none⟩ = some (.slice cad len cap) := fun w2 hb => by
        have := (hb.block w.heap.size (by omega)).trans hF1
        exact ⟨by simp [World.cell?, this], by simp [World.cell?, this]⟩
      have hI2 : ∀ w2, Below wr.heap.size wr w2 → w2.heap[w.heap.size + 1]? = some (.cells #[.int .i64 3, .int .i64 ds, .int .i64 a, .int .i64 b, .int .i32 n, .int .i64 to] 44 (0, 0)) := fun w2 hb => (hb.block (w.heap.size + 1) (by omega)).trans hI1
      have hwr : irx.wr 3 = true := by decide
      generalize hqq : ((!rdA 3 || inR R a) && (!rdB 3 n || inR R b)) = q0
      clear hll hl2
      cases q0
      · go_wp2_with fail
        refine (writes29 3 ds a b n to _).mono ?_
        rintro e w2 ⟨rfl, hb2⟩
        obtain ⟨hz1, hz2⟩ := hF2 _ hb2
        have hB2 := hB1.trans (hb2.mono (by omega))
        have hI3 := hI2 _ hb2
        have hz3 : w2.cell? ⟨w.heap.size + 1, 0, none⟩ = some (.int .i64 3) := by simp [World.cell?, hI3]
        have hz4 : w2.cell? ⟨w.heap.size + 1, 1, none⟩ = some (.int .i64 ds) := by simp [World.cell?, hI3]
        have hz5 : w2.cell? ⟨w.heap.size + 1, 4, none⟩ = some (.int .i32 n) := by simp [World.cell?, hI3]
        have hz6 : w2.cell? ⟨w.heap.size + 1, 5, none⟩ = some (.int .i64 to) := by simp [World.cell?, hI3]
        clear hF2 hI2 hI3 hx1 hy0 hy1 hy2 hy3 hy4 hy5 hF1 hI1 hrow hB1 hbl
        go_wp2_with ((go_at_call 13; refine (two13 _ _ _ _).mono ?_; rintro e w3 ⟨rfl, rfl⟩))
        all_goals go_ret
        all_goals refine ⟨?_, hB2⟩
        all_goals go_light
        all_goals simp_all [right, fine, why, rdA, rdB, irx.wr, ar, inR]
        all_goals (intros; first | omega | (simp_all <;> omega))
      · go_wp2_with fail
        refine (writes29 3 ds a b n to _).mono ?_
        rintro e w2 ⟨rfl, hb2⟩
        obtain ⟨hz1, hz2⟩ := hF2 _ hb2
        have hB2 := hB1.trans (hb2.mono (by omega))
        have hI3 := hI2 _ hb2
        have hz3 : w2.cell? ⟨w.heap.size + 1, 0, none⟩ = some (.int .i64 3) := by simp [World.cell?, hI3]
        have hz4 : w2.cell? ⟨w.heap.size + 1, 1, none⟩ = some (.int .i64 ds) := by simp [World.cell?, hI3]
        have hz5 : w2.cell? ⟨w.heap.size + 1, 4, none⟩ = some (.int .i32 n) := by simp [World.cell?, hI3]
        have hz6 : w2.cell? ⟨w.heap.size + 1, 5, none⟩ = some (.int .i64 to) := by simp [World.cell?, hI3]
        clear hF2 hI2 hI3 hx1 hy0 hy1 hy2 hy3 hy4 hy5 hF1 hI1 hrow hB1 hbl
        go_wp2_with ((go_at_call 13; refine (two13 _ _ _ _).mono ?_; rintro e w3 ⟨rfl, rfl⟩))
        all_goals go_ret
        all_goals refine ⟨?_, hB2⟩
        all_goals go_light
        all_goals simp_all [right, fine, why, rdA, rdB, irx.wr, ar, inR]
        all_goals (intros; first | omega | (simp_all <;> omega))
set_option maxHeartbeats 3200000 in
set_option maxRecDepth 1000000 in
theorem right21_4 (P R : Int) (cad : Option Addr) (len cap : Nat) (ds a b n to : Int) (hw : wrap64 n = n) (w : World) : Calls Tryz.prog 21 #[fval P R cad len cap, inst 4 ds a b n to] w fun e w' =>
    e = .returned (.int .i64 (right ar R len 4 ds a b n to)) ∧ Below w.heap.size w w' := by
  have hB0 : Below w.heap.size w ((w.alloc (.cells #[.int .i64 P, .int .i64 R, .slice cad len cap] 24)).alloc (.cells #[.int .i64 4, .int .i64 ds, .int .i64 a, .int .i64 b, .int .i32 n, .int .i64 to] 44)) := ((Below.refl _ _).alloc (Nat.le_refl _) _).alloc (by simp) _
  have hS0 : ((w.alloc (.cells #[.int .i64 P, .int .i64 R, .slice cad len cap] 24)).alloc (.cells #[.int .i64 4, .int .i64 ds, .int .i64 a, .int .i64 b, .int .i32 n, .int .i64 to] 44)).heap.size = w.heap.size + 2 := by simp
  have hF0 : ((w.alloc (.cells #[.int .i64 P, .int .i64 R, .slice cad len cap] 24)).alloc (.cells #[.int .i64 4, .int .i64 ds, .int .i64 a, .int .i64 b, .int .i32 n, .int .i64 to] 44)).heap[w.heap.size]? = some (.cells #[.int .i64 P, .int .i64 R, .slice cad len cap] 24 (0, 0)) := by
    rw [Below.heap_alloc _ _ _ (by simp)]; exact heap_alloc_new w _
  have hI0 : ((w.alloc (.cells #[.int .i64 P, .int .i64 R, .slice cad len cap] 24)).alloc (.cells #[.int .i64 4, .int .i64 ds, .int .i64 a, .int .i64 b, .int .i32 n, .int .i64 to] 44)).heap[w.heap.size + 1]? = some (.cells #[.int .i64 4, .int .i64 ds, .int .i64 a, .int .i64 b, .int .i32 n, .int .i64 to] 44 (0, 0)) := by
    have := heap_alloc_new (w.alloc (.cells #[.int .i64 P, .int .i64 R, .slice cad len cap] 24)) (.cells #[.int .i64 4, .int .i64 ds, .int .i64 a, .int .i64 b, .int .i32 n, .int .i64 to] 44)
    simpa using this
  go_enter Tryz.func21, Tryz.ntmps21
  go_wp2_with (go_at_call 28; refine (reads28 4 ds a b n to _).mono ?_; rintro e w1 ⟨v, rfl, hown, hb1⟩; obtain ⟨ad, cp, rfl, hrow⟩ := row_get hown)
  have hB1 := hB0.trans (hb1.mono (by omega))
  have hF1 := (hb1.block w.heap.size (by omega)).trans hF0
  have hI1 := (hb1.block (w.heap.size + 1) (by omega)).trans hI0
  have hS1 : w.heap.size + 2 ≤ w1.heap.size := by have := hb1.size; omega
  have hll := allIn_rl R 4 a b n
  have hl2 := rl_le 4 a b n
  generalize rl 4 a b n = l at *
  clear hown hb1 hF0 hI0 hB0
  go_loopw [5, 12] (fun q i wr => ∃ k : Nat, k ≤ l.length ∧ i = .int .i64 k ∧ q = .bool (allIn R (l.take k)) ∧ Below w1.heap.size w1 wr) (fun _ i _ => l.length - (intOf i).toNat)
  case atStart => exact ⟨0, Nat.zero_le _, rfl, rfl, Below.refl _ _⟩
  case round =>
    obtain ⟨k, hk, rfl, rfl, hbl⟩ := hrel
    have hF1 := (hbl.block w.heap.size (by omega)).trans hF1
    have hI1 := (hbl.block (w.heap.size + 1) (by omega)).trans hI1
    have hB1 := hB1.trans (hbl.mono (by omega))
    have hS1 : w.heap.size + 2 ≤ wr.heap.size := by have := hbl.size; omega
    have hx1 : wr.cell? ⟨w.heap.size, 1, none⟩ = some (.int .i64 R) := by simp [World.cell?, hF1]
    by_cases hk1 : k < l.length
    · obtain ⟨g, rfl, hg, hc0⟩ := hrow k hk1
      have hc := (hbl.cell (p := ⟨g, k, none⟩) hg).trans hc0
      clear hc0
      have hs := allIn_succ R l k hk1
      generalize l.getD k 0 = x at hc hs
      cases hq : allIn R (l.take k)
      · go_wp2
        go_roundw
        case rel => exact ⟨k + 1, by omega, by go_num, by rw [hs, hq]; rfl, hbl⟩
        case measure => simp [intOf]; omega
      · by_cases h1 : 0 ≤ x
        · by_cases h2 : x < R
          · go_wp2
            go_roundw
            case rel => exact ⟨k + 1, by omega, by go_num, by rw [hs, hq]; simp [inR, h1, h2], hbl⟩
            case measure => simp [intOf]; omega
          · go_wp2
            go_roundw
            case rel => exact ⟨k + 1, by omega, by go_num, by rw [hs, hq]; simp [inR, h1, h2], hbl⟩
            case measure => simp [intOf]; omega
        · go_wp2
          go_roundw
          case rel => exact ⟨k + 1, by omega, by go_num, by rw [hs, hq]; simp [inR, h1], hbl⟩
          case measure => simp [intOf]; omega
    · have hkl : k = l.length := by omega
      subst hkl
      rw [List.take_length, hll]
      have hy0 : wr.cell? ⟨w.heap.size + 1, 0, none⟩ = some (.int .i64 4) := by simp [World.cell?, hI1]
      have hy1 : wr.cell? ⟨w.heap.size + 1, 1, none⟩ = some (.int .i64 ds) := by simp [World.cell?, hI1]
      have hy2 : wr.cell? ⟨w.heap.size + 1, 2, none⟩ = some (.int .i64 a) := by simp [World.cell?, hI1]
      have hy3 : wr.cell? ⟨w.heap.size + 1, 3, none⟩ = some (.int .i64 b) := by simp [World.cell?, hI1]
      have hy4 : wr.cell? ⟨w.heap.size + 1, 4, none⟩ = some (.int .i32 n) := by simp [World.cell?, hI1]
      have hy5 : wr.cell? ⟨w.heap.size + 1, 5, none⟩ = some (.int .i64 to) := by simp [World.cell?, hI1]
      have hF2 : ∀ w2, Below wr.heap.size wr w2 → w2.cell? ⟨w.heap.size, 1, none⟩ = some (.int .i64 R) ∧ w2.cell? ⟨w.heap.size, 2, none⟩ = some (.slice cad len cap) := fun w2 hb => by
        have := (hb.block w.heap.size (by omega)).trans hF1
        exact ⟨by simp [World.cell?, this], by simp [World.cell?, this]⟩
      have hI2 : ∀ w2, Below wr.heap.size wr w2 → w2.heap[w.heap.size + 1]? = some (.cells #[.int .i64 4, .int .i64 ds, .int .i64 a, .int .i64 b, .int .i32 n, .int .i64 to] 44 (0, 0)) := fun w2 hb => (hb.block (w.heap.size + 1) (by omega)).trans hI1
      have hwr : irx.wr 4 = true := by decide
      generalize hqq : ((!rdA 4 || inR R a) && (!rdB 4 n || inR R b)) = q0
      clear hll hl2
      cases q0
      · go_wp2_with fail
        refine (writes29 4 ds a b n to _).mono ?_
        rintro e w2 ⟨rfl, hb2⟩
        obtain ⟨hz1, hz2⟩ := hF2 _ hb2
        have hB2 := hB1.trans (hb2.mono (by omega))
        have hI3 := hI2 _ hb2
        have hz3 : w2.cell? ⟨w.heap.size + 1, 0, none⟩ = some (.int .i64 4) := by simp [World.cell?, hI3]
        have hz4 : w2.cell? ⟨w.heap.size + 1, 1, none⟩ = some (.int .i64 ds) := by simp [World.cell?, hI3]
        have hz5 : w2.cell? ⟨w.heap.size + 1, 4, none⟩ = some (.int .i32 n) := by simp [World.cell?, hI3]
        have hz6 : w2.cell? ⟨w.heap.size + 1, 5, none⟩ = some (.int .i64 to) := by simp [World.cell?, hI3]
        clear hF2 hI2 hI3 hx1 hy0 hy1 hy2 hy3 hy4 hy5 hF1 hI1 hrow hB1 hbl
        go_wp2_with ((go_at_call 14; refine (one14 _ _ _).mono ?_; rintro e w3 ⟨rfl, rfl⟩))
        all_goals go_ret
        all_goals refine ⟨?_, hB2⟩
        all_goals go_light
        all_goals simp_all [right, fine, why, rdA, rdB, irx.wr, ar, inR]
        all_goals (intros; first | omega | (simp_all <;> omega))
      · go_wp2_with fail
        refine (writes29 4 ds a b n to _).mono ?_
        rintro e w2 ⟨rfl, hb2⟩
        obtain ⟨hz1, hz2⟩ := hF2 _ hb2
        have hB2 := hB1.trans (hb2.mono (by omega))
        have hI3 := hI2 _ hb2
        have hz3 : w2.cell? ⟨w.heap.size + 1, 0, none⟩ = some (.int .i64 4) := by simp [World.cell?, hI3]
        have hz4 : w2.cell? ⟨w.heap.size + 1, 1, none⟩ = some (.int .i64 ds) := by simp [World.cell?, hI3]
        have hz5 : w2.cell? ⟨w.heap.size + 1, 4, none⟩ = some (.int .i32 n) := by simp [World.cell?, hI3]
        have hz6 : w2.cell? ⟨w.heap.size + 1, 5, none⟩ = some (.int .i64 to) := by simp [World.cell?, hI3]
        clear hF2 hI2 hI3 hx1 hy0 hy1 hy2 hy3 hy4 hy5 hF1 hI1 hrow hB1 hbl
        go_wp2_with ((go_at_call 14; refine (one14 _ _ _).mono ?_; rintro e w3 ⟨rfl, rfl⟩))
        all_goals go_ret
        all_goals refine ⟨?_, hB2⟩
        all_goals go_light
        all_goals simp_all [right, fine, why, rdA, rdB, irx.wr, ar, inR]
        all_goals (intros; first | omega | (simp_all <;> omega))
set_option maxHeartbeats 3200000 in
set_option maxRecDepth 1000000 in
theorem right21_5 (P R : Int) (cad : Option Addr) (len cap : Nat) (ds a b n to : Int) (hw : wrap64 n = n) (w : World) : Calls Tryz.prog 21 #[fval P R cad len cap, inst 5 ds a b n to] w fun e w' =>
    e = .returned (.int .i64 (right ar R len 5 ds a b n to)) ∧ Below w.heap.size w w' := by
  have hB0 : Below w.heap.size w ((w.alloc (.cells #[.int .i64 P, .int .i64 R, .slice cad len cap] 24)).alloc (.cells #[.int .i64 5, .int .i64 ds, .int .i64 a, .int .i64 b, .int .i32 n, .int .i64 to] 44)) := ((Below.refl _ _).alloc (Nat.le_refl _) _).alloc (by simp) _
  have hS0 : ((w.alloc (.cells #[.int .i64 P, .int .i64 R, .slice cad len cap] 24)).alloc (.cells #[.int .i64 5, .int .i64 ds, .int .i64 a, .int .i64 b, .int .i32 n, .int .i64 to] 44)).heap.size = w.heap.size + 2 := by simp
  have hF0 : ((w.alloc (.cells #[.int .i64 P, .int .i64 R, .slice cad len cap] 24)).alloc (.cells #[.int .i64 5, .int .i64 ds, .int .i64 a, .int .i64 b, .int .i32 n, .int .i64 to] 44)).heap[w.heap.size]? = some (.cells #[.int .i64 P, .int .i64 R, .slice cad len cap] 24 (0, 0)) := by
    rw [Below.heap_alloc _ _ _ (by simp)]; exact heap_alloc_new w _
  have hI0 : ((w.alloc (.cells #[.int .i64 P, .int .i64 R, .slice cad len cap] 24)).alloc (.cells #[.int .i64 5, .int .i64 ds, .int .i64 a, .int .i64 b, .int .i32 n, .int .i64 to] 44)).heap[w.heap.size + 1]? = some (.cells #[.int .i64 5, .int .i64 ds, .int .i64 a, .int .i64 b, .int .i32 n, .int .i64 to] 44 (0, 0)) := by
    have := heap_alloc_new (w.alloc (.cells #[.int .i64 P, .int .i64 R, .slice cad len cap] 24)) (.cells #[.int .i64 5, .int .i64 ds, .int .i64 a, .int .i64 b, .int .i32 n, .int .i64 to] 44)
    simpa using this
  go_enter Tryz.func21, Tryz.ntmps21
  go_wp2_with (go_at_call 28; refine (reads28 5 ds a b n to _).mono ?_; rintro e w1 ⟨v, rfl, hown, hb1⟩; obtain ⟨ad, cp, rfl, hrow⟩ := row_get hown)
  have hB1 := hB0.trans (hb1.mono (by omega))
  have hF1 := (hb1.block w.heap.size (by omega)).trans hF0
  have hI1 := (hb1.block (w.heap.size + 1) (by omega)).trans hI0
  have hS1 : w.heap.size + 2 ≤ w1.heap.size := by have := hb1.size; omega
  have hll := allIn_rl R 5 a b n
  have hl2 := rl_le 5 a b n
  generalize rl 5 a b n = l at *
  clear hown hb1 hF0 hI0 hB0
  go_loopw [5, 12] (fun q i wr => ∃ k : Nat, k ≤ l.length ∧ i = .int .i64 k ∧ q = .bool (allIn R (l.take k)) ∧ Below w1.heap.size w1 wr) (fun _ i _ => l.length - (intOf i).toNat)
  case atStart => exact ⟨0, Nat.zero_le _, rfl, rfl, Below.refl _ _⟩
  case round =>
    obtain ⟨k, hk, rfl, rfl, hbl⟩ := hrel
    have hF1 := (hbl.block w.heap.size (by omega)).trans hF1
    have hI1 := (hbl.block (w.heap.size + 1) (by omega)).trans hI1
    have hB1 := hB1.trans (hbl.mono (by omega))
    have hS1 : w.heap.size + 2 ≤ wr.heap.size := by have := hbl.size; omega
    have hx1 : wr.cell? ⟨w.heap.size, 1, none⟩ = some (.int .i64 R) := by simp [World.cell?, hF1]
    by_cases hk1 : k < l.length
    · obtain ⟨g, rfl, hg, hc0⟩ := hrow k hk1
      have hc := (hbl.cell (p := ⟨g, k, none⟩) hg).trans hc0
      clear hc0
      have hs := allIn_succ R l k hk1
      generalize l.getD k 0 = x at hc hs
      cases hq : allIn R (l.take k)
      · go_wp2
        go_roundw
        case rel => exact ⟨k + 1, by omega, by go_num, by rw [hs, hq]; rfl, hbl⟩
        case measure => simp [intOf]; omega
      · by_cases h1 : 0 ≤ x
        · by_cases h2 : x < R
          · go_wp2
            go_roundw
            case rel => exact ⟨k + 1, by omega, by go_num, by rw [hs, hq]; simp [inR, h1, h2], hbl⟩
            case measure => simp [intOf]; omega
          · go_wp2
            go_roundw
            case rel => exact ⟨k + 1, by omega, by go_num, by rw [hs, hq]; simp [inR, h1, h2], hbl⟩
            case measure => simp [intOf]; omega
        · go_wp2
          go_roundw
          case rel => exact ⟨k + 1, by omega, by go_num, by rw [hs, hq]; simp [inR, h1], hbl⟩
          case measure => simp [intOf]; omega
    · have hkl : k = l.length := by omega
      subst hkl
      rw [List.take_length, hll]
      have hy0 : wr.cell? ⟨w.heap.size + 1, 0, none⟩ = some (.int .i64 5) := by simp [World.cell?, hI1]
      have hy1 : wr.cell? ⟨w.heap.size + 1, 1, none⟩ = some (.int .i64 ds) := by simp [World.cell?, hI1]
      have hy2 : wr.cell? ⟨w.heap.size + 1, 2, none⟩ = some (.int .i64 a) := by simp [World.cell?, hI1]
      have hy3 : wr.cell? ⟨w.heap.size + 1, 3, none⟩ = some (.int .i64 b) := by simp [World.cell?, hI1]
      have hy4 : wr.cell? ⟨w.heap.size + 1, 4, none⟩ = some (.int .i32 n) := by simp [World.cell?, hI1]
      have hy5 : wr.cell? ⟨w.heap.size + 1, 5, none⟩ = some (.int .i64 to) := by simp [World.cell?, hI1]
      have hF2 : ∀ w2, Below wr.heap.size wr w2 → w2.cell? ⟨w.heap.size, 1, none⟩ = some (.int .i64 R) ∧ w2.cell? ⟨w.heap.size, 2, none⟩ = some (.slice cad len cap) := fun w2 hb => by
        have := (hb.block w.heap.size (by omega)).trans hF1
        exact ⟨by simp [World.cell?, this], by simp [World.cell?, this]⟩
      have hI2 : ∀ w2, Below wr.heap.size wr w2 → w2.heap[w.heap.size + 1]? = some (.cells #[.int .i64 5, .int .i64 ds, .int .i64 a, .int .i64 b, .int .i32 n, .int .i64 to] 44 (0, 0)) := fun w2 hb => (hb.block (w.heap.size + 1) (by omega)).trans hI1
      have hwr : irx.wr 5 = false := by decide
      generalize hqq : ((!rdA 5 || inR R a) && (!rdB 5 n || inR R b)) = q0
      clear hll hl2
      cases q0
      · go_wp2_with fail
        refine (writes29 5 ds a b n to _).mono ?_
        rintro e w2 ⟨rfl, hb2⟩
        obtain ⟨hz1, hz2⟩ := hF2 _ hb2
        have hB2 := hB1.trans (hb2.mono (by omega))
        have hI3 := hI2 _ hb2
        have hz3 : w2.cell? ⟨w.heap.size + 1, 0, none⟩ = some (.int .i64 5) := by simp [World.cell?, hI3]
        have hz4 : w2.cell? ⟨w.heap.size + 1, 1, none⟩ = some (.int .i64 ds) := by simp [World.cell?, hI3]
        have hz5 : w2.cell? ⟨w.heap.size + 1, 4, none⟩ = some (.int .i32 n) := by simp [World.cell?, hI3]
        have hz6 : w2.cell? ⟨w.heap.size + 1, 5, none⟩ = some (.int .i64 to) := by simp [World.cell?, hI3]
        clear hF2 hI2 hI3 hx1 hy0 hy1 hy2 hy3 hy4 hy5 hF1 hI1 hrow hB1 hbl
        go_wp2_with (fail)
        all_goals go_ret
        all_goals refine ⟨?_, hB2⟩
        all_goals go_light
        all_goals simp_all [right, fine, why, rdA, rdB, irx.wr, ar, inR]
        all_goals (intros; first | omega | (simp_all <;> omega))
      · go_wp2_with fail
        refine (writes29 5 ds a b n to _).mono ?_
        rintro e w2 ⟨rfl, hb2⟩
        obtain ⟨hz1, hz2⟩ := hF2 _ hb2
        have hB2 := hB1.trans (hb2.mono (by omega))
        have hI3 := hI2 _ hb2
        have hz3 : w2.cell? ⟨w.heap.size + 1, 0, none⟩ = some (.int .i64 5) := by simp [World.cell?, hI3]
        have hz4 : w2.cell? ⟨w.heap.size + 1, 1, none⟩ = some (.int .i64 ds) := by simp [World.cell?, hI3]
        have hz5 : w2.cell? ⟨w.heap.size + 1, 4, none⟩ = some (.int .i32 n) := by simp [World.cell?, hI3]
        have hz6 : w2.cell? ⟨w.heap.size + 1, 5, none⟩ = some (.int .i64 to) := by simp [World.cell?, hI3]
        clear hF2 hI2 hI3 hx1 hy0 hy1 hy2 hy3 hy4 hy5 hF1 hI1 hrow hB1 hbl
        go_wp2_with (fail)
        all_goals go_ret
        all_goals refine ⟨?_, hB2⟩
        all_goals go_light
        all_goals simp_all [right, fine, why, rdA, rdB, irx.wr, ar, inR]
        all_goals (intros; first | omega | (simp_all <;> omega))
set_option maxHeartbeats 3200000 in
set_option maxRecDepth 1000000 in
theorem right21_6 (P R : Int) (cad : Option Addr) (len cap : Nat) (ds a b n to : Int) (hw : wrap64 n = n) (w : World) : Calls Tryz.prog 21 #[fval P R cad len cap, inst 6 ds a b n to] w fun e w' =>
    e = .returned (.int .i64 (right ar R len 6 ds a b n to)) ∧ Below w.heap.size w w' := by
  have hB0 : Below w.heap.size w ((w.alloc (.cells #[.int .i64 P, .int .i64 R, .slice cad len cap] 24)).alloc (.cells #[.int .i64 6, .int .i64 ds, .int .i64 a, .int .i64 b, .int .i32 n, .int .i64 to] 44)) := ((Below.refl _ _).alloc (Nat.le_refl _) _).alloc (by simp) _
  have hS0 : ((w.alloc (.cells #[.int .i64 P, .int .i64 R, .slice cad len cap] 24)).alloc (.cells #[.int .i64 6, .int .i64 ds, .int .i64 a, .int .i64 b, .int .i32 n, .int .i64 to] 44)).heap.size = w.heap.size + 2 := by simp
  have hF0 : ((w.alloc (.cells #[.int .i64 P, .int .i64 R, .slice cad len cap] 24)).alloc (.cells #[.int .i64 6, .int .i64 ds, .int .i64 a, .int .i64 b, .int .i32 n, .int .i64 to] 44)).heap[w.heap.size]? = some (.cells #[.int .i64 P, .int .i64 R, .slice cad len cap] 24 (0, 0)) := by
    rw [Below.heap_alloc _ _ _ (by simp)]; exact heap_alloc_new w _
  have hI0 : ((w.alloc (.cells #[.int .i64 P, .int .i64 R, .slice cad len cap] 24)).alloc (.cells #[.int .i64 6, .int .i64 ds, .int .i64 a, .int .i64 b, .int .i32 n, .int .i64 to] 44)).heap[w.heap.size + 1]? = some (.cells #[.int .i64 6, .int .i64 ds, .int .i64 a, .int .i64 b, .int .i32 n, .int .i64 to] 44 (0, 0)) := by
    have := heap_alloc_new (w.alloc (.cells #[.int .i64 P, .int .i64 R, .slice cad len cap] 24)) (.cells #[.int .i64 6, .int .i64 ds, .int .i64 a, .int .i64 b, .int .i32 n, .int .i64 to] 44)
    simpa using this
  go_enter Tryz.func21, Tryz.ntmps21
  go_wp2_with (go_at_call 28; refine (reads28 6 ds a b n to _).mono ?_; rintro e w1 ⟨v, rfl, hown, hb1⟩; obtain ⟨ad, cp, rfl, hrow⟩ := row_get hown)
  have hB1 := hB0.trans (hb1.mono (by omega))
  have hF1 := (hb1.block w.heap.size (by omega)).trans hF0
  have hI1 := (hb1.block (w.heap.size + 1) (by omega)).trans hI0
  have hS1 : w.heap.size + 2 ≤ w1.heap.size := by have := hb1.size; omega
  have hll := allIn_rl R 6 a b n
  have hl2 := rl_le 6 a b n
  generalize rl 6 a b n = l at *
  clear hown hb1 hF0 hI0 hB0
  go_loopw [5, 12] (fun q i wr => ∃ k : Nat, k ≤ l.length ∧ i = .int .i64 k ∧ q = .bool (allIn R (l.take k)) ∧ Below w1.heap.size w1 wr) (fun _ i _ => l.length - (intOf i).toNat)
  case atStart => exact ⟨0, Nat.zero_le _, rfl, rfl, Below.refl _ _⟩
  case round =>
    obtain ⟨k, hk, rfl, rfl, hbl⟩ := hrel
    have hF1 := (hbl.block w.heap.size (by omega)).trans hF1
    have hI1 := (hbl.block (w.heap.size + 1) (by omega)).trans hI1
    have hB1 := hB1.trans (hbl.mono (by omega))
    have hS1 : w.heap.size + 2 ≤ wr.heap.size := by have := hbl.size; omega
    have hx1 : wr.cell? ⟨w.heap.size, 1, none⟩ = some (.int .i64 R) := by simp [World.cell?, hF1]
    by_cases hk1 : k < l.length
    · obtain ⟨g, rfl, hg, hc0⟩ := hrow k hk1
      have hc := (hbl.cell (p := ⟨g, k, none⟩) hg).trans hc0
      clear hc0
      have hs := allIn_succ R l k hk1
      generalize l.getD k 0 = x at hc hs
      cases hq : allIn R (l.take k)
      · go_wp2
        go_roundw
        case rel => exact ⟨k + 1, by omega, by go_num, by rw [hs, hq]; rfl, hbl⟩
        case measure => simp [intOf]; omega
      · by_cases h1 : 0 ≤ x
        · by_cases h2 : x < R
          · go_wp2
            go_roundw
            case rel => exact ⟨k + 1, by omega, by go_num, by rw [hs, hq]; simp [inR, h1, h2], hbl⟩
            case measure => simp [intOf]; omega
          · go_wp2
            go_roundw
            case rel => exact ⟨k + 1, by omega, by go_num, by rw [hs, hq]; simp [inR, h1, h2], hbl⟩
            case measure => simp [intOf]; omega
        · go_wp2
          go_roundw
          case rel => exact ⟨k + 1, by omega, by go_num, by rw [hs, hq]; simp [inR, h1], hbl⟩
          case measure => simp [intOf]; omega
    · have hkl : k = l.length := by omega
      subst hkl
      rw [List.take_length, hll]
      have hy0 : wr.cell? ⟨w.heap.size + 1, 0, none⟩ = some (.int .i64 6) := by simp [World.cell?, hI1]
      have hy1 : wr.cell? ⟨w.heap.size + 1, 1, none⟩ = some (.int .i64 ds) := by simp [World.cell?, hI1]
      have hy2 : wr.cell? ⟨w.heap.size + 1, 2, none⟩ = some (.int .i64 a) := by simp [World.cell?, hI1]
      have hy3 : wr.cell? ⟨w.heap.size + 1, 3, none⟩ = some (.int .i64 b) := by simp [World.cell?, hI1]
      have hy4 : wr.cell? ⟨w.heap.size + 1, 4, none⟩ = some (.int .i32 n) := by simp [World.cell?, hI1]
      have hy5 : wr.cell? ⟨w.heap.size + 1, 5, none⟩ = some (.int .i64 to) := by simp [World.cell?, hI1]
      have hF2 : ∀ w2, Below wr.heap.size wr w2 → w2.cell? ⟨w.heap.size, 1, none⟩ = some (.int .i64 R) ∧ w2.cell? ⟨w.heap.size, 2, none⟩ = some (.slice cad len cap) := fun w2 hb => by
        have := (hb.block w.heap.size (by omega)).trans hF1
        exact ⟨by simp [World.cell?, this], by simp [World.cell?, this]⟩
      have hI2 : ∀ w2, Below wr.heap.size wr w2 → w2.heap[w.heap.size + 1]? = some (.cells #[.int .i64 6, .int .i64 ds, .int .i64 a, .int .i64 b, .int .i32 n, .int .i64 to] 44 (0, 0)) := fun w2 hb => (hb.block (w.heap.size + 1) (by omega)).trans hI1
      have hwr : irx.wr 6 = false := by decide
      generalize hqq : ((!rdA 6 || inR R a) && (!rdB 6 n || inR R b)) = q0
      clear hll hl2
      cases q0
      · go_wp2_with fail
        refine (writes29 6 ds a b n to _).mono ?_
        rintro e w2 ⟨rfl, hb2⟩
        obtain ⟨hz1, hz2⟩ := hF2 _ hb2
        have hB2 := hB1.trans (hb2.mono (by omega))
        have hI3 := hI2 _ hb2
        have hz3 : w2.cell? ⟨w.heap.size + 1, 0, none⟩ = some (.int .i64 6) := by simp [World.cell?, hI3]
        have hz4 : w2.cell? ⟨w.heap.size + 1, 1, none⟩ = some (.int .i64 ds) := by simp [World.cell?, hI3]
        have hz5 : w2.cell? ⟨w.heap.size + 1, 4, none⟩ = some (.int .i32 n) := by simp [World.cell?, hI3]
        have hz6 : w2.cell? ⟨w.heap.size + 1, 5, none⟩ = some (.int .i64 to) := by simp [World.cell?, hI3]
        clear hF2 hI2 hI3 hx1 hy0 hy1 hy2 hy3 hy4 hy5 hF1 hI1 hrow hB1 hbl
        go_wp2_with ((go_at_call 16; refine (test16 _ _ _ _).mono ?_; rintro e w3 ⟨rfl, rfl⟩))
        all_goals go_ret
        all_goals refine ⟨?_, hB2⟩
        all_goals go_light
        all_goals simp_all [right, fine, why, rdA, rdB, irx.wr, ar, inR]
        all_goals (intros; first | omega | (simp_all <;> omega))
      · go_wp2_with fail
        refine (writes29 6 ds a b n to _).mono ?_
        rintro e w2 ⟨rfl, hb2⟩
        obtain ⟨hz1, hz2⟩ := hF2 _ hb2
        have hB2 := hB1.trans (hb2.mono (by omega))
        have hI3 := hI2 _ hb2
        have hz3 : w2.cell? ⟨w.heap.size + 1, 0, none⟩ = some (.int .i64 6) := by simp [World.cell?, hI3]
        have hz4 : w2.cell? ⟨w.heap.size + 1, 1, none⟩ = some (.int .i64 ds) := by simp [World.cell?, hI3]
        have hz5 : w2.cell? ⟨w.heap.size + 1, 4, none⟩ = some (.int .i32 n) := by simp [World.cell?, hI3]
        have hz6 : w2.cell? ⟨w.heap.size + 1, 5, none⟩ = some (.int .i64 to) := by simp [World.cell?, hI3]
        clear hF2 hI2 hI3 hx1 hy0 hy1 hy2 hy3 hy4 hy5 hF1 hI1 hrow hB1 hbl
        go_wp2_with ((go_at_call 16; refine (test16 _ _ _ _).mono ?_; rintro e w3 ⟨rfl, rfl⟩))
        all_goals go_ret
        all_goals refine ⟨?_, hB2⟩
        all_goals go_light
        all_goals simp_all [right, fine, why, rdA, rdB, irx.wr, ar, inR]
        all_goals (intros; first | omega | (simp_all <;> omega))
set_option maxHeartbeats 3200000 in
set_option maxRecDepth 1000000 in
theorem right21_7 (P R : Int) (cad : Option Addr) (len cap : Nat) (ds a b n to : Int) (hw : wrap64 n = n) (w : World) : Calls Tryz.prog 21 #[fval P R cad len cap, inst 7 ds a b n to] w fun e w' =>
    e = .returned (.int .i64 (right ar R len 7 ds a b n to)) ∧ Below w.heap.size w w' := by
  have hB0 : Below w.heap.size w ((w.alloc (.cells #[.int .i64 P, .int .i64 R, .slice cad len cap] 24)).alloc (.cells #[.int .i64 7, .int .i64 ds, .int .i64 a, .int .i64 b, .int .i32 n, .int .i64 to] 44)) := ((Below.refl _ _).alloc (Nat.le_refl _) _).alloc (by simp) _
  have hS0 : ((w.alloc (.cells #[.int .i64 P, .int .i64 R, .slice cad len cap] 24)).alloc (.cells #[.int .i64 7, .int .i64 ds, .int .i64 a, .int .i64 b, .int .i32 n, .int .i64 to] 44)).heap.size = w.heap.size + 2 := by simp
  have hF0 : ((w.alloc (.cells #[.int .i64 P, .int .i64 R, .slice cad len cap] 24)).alloc (.cells #[.int .i64 7, .int .i64 ds, .int .i64 a, .int .i64 b, .int .i32 n, .int .i64 to] 44)).heap[w.heap.size]? = some (.cells #[.int .i64 P, .int .i64 R, .slice cad len cap] 24 (0, 0)) := by
    rw [Below.heap_alloc _ _ _ (by simp)]; exact heap_alloc_new w _
  have hI0 : ((w.alloc (.cells #[.int .i64 P, .int .i64 R, .slice cad len cap] 24)).alloc (.cells #[.int .i64 7, .int .i64 ds, .int .i64 a, .int .i64 b, .int .i32 n, .int .i64 to] 44)).heap[w.heap.size + 1]? = some (.cells #[.int .i64 7, .int .i64 ds, .int .i64 a, .int .i64 b, .int .i32 n, .int .i64 to] 44 (0, 0)) := by
    have := heap_alloc_new (w.alloc (.cells #[.int .i64 P, .int .i64 R, .slice cad len cap] 24)) (.cells #[.int .i64 7, .int .i64 ds, .int .i64 a, .int .i64 b, .int .i32 n, .int .i64 to] 44)
    simpa using this
  go_enter Tryz.func21, Tryz.ntmps21
  go_wp2_with (go_at_call 28; refine (reads28 7 ds a b n to _).mono ?_; rintro e w1 ⟨v, rfl, hown, hb1⟩; obtain ⟨ad, cp, rfl, hrow⟩ := row_get hown)
  have hB1 := hB0.trans (hb1.mono (by omega))
  have hF1 := (hb1.block w.heap.size (by omega)).trans hF0
  have hI1 := (hb1.block (w.heap.size + 1) (by omega)).trans hI0
  have hS1 : w.heap.size + 2 ≤ w1.heap.size := by have := hb1.size; omega
  have hll := allIn_rl R 7 a b n
  have hl2 := rl_le 7 a b n
  generalize rl 7 a b n = l at *
  clear hown hb1 hF0 hI0 hB0
  go_loopw [5, 12] (fun q i wr => ∃ k : Nat, k ≤ l.length ∧ i = .int .i64 k ∧ q = .bool (allIn R (l.take k)) ∧ Below w1.heap.size w1 wr) (fun _ i _ => l.length - (intOf i).toNat)
  case atStart => exact ⟨0, Nat.zero_le _, rfl, rfl, Below.refl _ _⟩
  case round =>
    obtain ⟨k, hk, rfl, rfl, hbl⟩ := hrel
    have hF1 := (hbl.block w.heap.size (by omega)).trans hF1
    have hI1 := (hbl.block (w.heap.size + 1) (by omega)).trans hI1
    have hB1 := hB1.trans (hbl.mono (by omega))
    have hS1 : w.heap.size + 2 ≤ wr.heap.size := by have := hbl.size; omega
    have hx1 : wr.cell? ⟨w.heap.size, 1, none⟩ = some (.int .i64 R) := by simp [World.cell?, hF1]
    by_cases hk1 : k < l.length
    · obtain ⟨g, rfl, hg, hc0⟩ := hrow k hk1
      have hc := (hbl.cell (p := ⟨g, k, none⟩) hg).trans hc0
      clear hc0
      have hs := allIn_succ R l k hk1
      generalize l.getD k 0 = x at hc hs
      cases hq : allIn R (l.take k)
      · go_wp2
        go_roundw
        case rel => exact ⟨k + 1, by omega, by go_num, by rw [hs, hq]; rfl, hbl⟩
        case measure => simp [intOf]; omega
      · by_cases h1 : 0 ≤ x
        · by_cases h2 : x < R
          · go_wp2
            go_roundw
            case rel => exact ⟨k + 1, by omega, by go_num, by rw [hs, hq]; simp [inR, h1, h2], hbl⟩
            case measure => simp [intOf]; omega
          · go_wp2
            go_roundw
            case rel => exact ⟨k + 1, by omega, by go_num, by rw [hs, hq]; simp [inR, h1, h2], hbl⟩
            case measure => simp [intOf]; omega
        · go_wp2
          go_roundw
          case rel => exact ⟨k + 1, by omega, by go_num, by rw [hs, hq]; simp [inR, h1], hbl⟩
          case measure => simp [intOf]; omega
    · have hkl : k = l.length := by omega
      subst hkl
      rw [List.take_length, hll]
      have hy0 : wr.cell? ⟨w.heap.size + 1, 0, none⟩ = some (.int .i64 7) := by simp [World.cell?, hI1]
      have hy1 : wr.cell? ⟨w.heap.size + 1, 1, none⟩ = some (.int .i64 ds) := by simp [World.cell?, hI1]
      have hy2 : wr.cell? ⟨w.heap.size + 1, 2, none⟩ = some (.int .i64 a) := by simp [World.cell?, hI1]
      have hy3 : wr.cell? ⟨w.heap.size + 1, 3, none⟩ = some (.int .i64 b) := by simp [World.cell?, hI1]
      have hy4 : wr.cell? ⟨w.heap.size + 1, 4, none⟩ = some (.int .i32 n) := by simp [World.cell?, hI1]
      have hy5 : wr.cell? ⟨w.heap.size + 1, 5, none⟩ = some (.int .i64 to) := by simp [World.cell?, hI1]
      have hF2 : ∀ w2, Below wr.heap.size wr w2 → w2.cell? ⟨w.heap.size, 1, none⟩ = some (.int .i64 R) ∧ w2.cell? ⟨w.heap.size, 2, none⟩ = some (.slice cad len cap) := fun w2 hb => by
        have := (hb.block w.heap.size (by omega)).trans hF1
        exact ⟨by simp [World.cell?, this], by simp [World.cell?, this]⟩
      have hI2 : ∀ w2, Below wr.heap.size wr w2 → w2.heap[w.heap.size + 1]? = some (.cells #[.int .i64 7, .int .i64 ds, .int .i64 a, .int .i64 b, .int .i32 n, .int .i64 to] 44 (0, 0)) := fun w2 hb => (hb.block (w.heap.size + 1) (by omega)).trans hI1
      have hwr : irx.wr 7 = false := by decide
      generalize hqq : ((!rdA 7 || inR R a) && (!rdB 7 n || inR R b)) = q0
      clear hll hl2
      cases q0
      · go_wp2_with fail
        refine (writes29 7 ds a b n to _).mono ?_
        rintro e w2 ⟨rfl, hb2⟩
        obtain ⟨hz1, hz2⟩ := hF2 _ hb2
        have hB2 := hB1.trans (hb2.mono (by omega))
        have hI3 := hI2 _ hb2
        have hz3 : w2.cell? ⟨w.heap.size + 1, 0, none⟩ = some (.int .i64 7) := by simp [World.cell?, hI3]
        have hz4 : w2.cell? ⟨w.heap.size + 1, 1, none⟩ = some (.int .i64 ds) := by simp [World.cell?, hI3]
        have hz5 : w2.cell? ⟨w.heap.size + 1, 4, none⟩ = some (.int .i32 n) := by simp [World.cell?, hI3]
        have hz6 : w2.cell? ⟨w.heap.size + 1, 5, none⟩ = some (.int .i64 to) := by simp [World.cell?, hI3]
        clear hF2 hI2 hI3 hx1 hy0 hy1 hy2 hy3 hy4 hy5 hF1 hI1 hrow hB1 hbl
        go_wp2_with (fail)
        all_goals go_ret
        all_goals refine ⟨?_, hB2⟩
        all_goals go_light
        all_goals simp_all [right, fine, why, rdA, rdB, irx.wr, ar, inR]
        all_goals (intros; first | omega | (simp_all <;> omega))
      · go_wp2_with fail
        refine (writes29 7 ds a b n to _).mono ?_
        rintro e w2 ⟨rfl, hb2⟩
        obtain ⟨hz1, hz2⟩ := hF2 _ hb2
        have hB2 := hB1.trans (hb2.mono (by omega))
        have hI3 := hI2 _ hb2
        have hz3 : w2.cell? ⟨w.heap.size + 1, 0, none⟩ = some (.int .i64 7) := by simp [World.cell?, hI3]
        have hz4 : w2.cell? ⟨w.heap.size + 1, 1, none⟩ = some (.int .i64 ds) := by simp [World.cell?, hI3]
        have hz5 : w2.cell? ⟨w.heap.size + 1, 4, none⟩ = some (.int .i32 n) := by simp [World.cell?, hI3]
        have hz6 : w2.cell? ⟨w.heap.size + 1, 5, none⟩ = some (.int .i64 to) := by simp [World.cell?, hI3]
        clear hF2 hI2 hI3 hx1 hy0 hy1 hy2 hy3 hy4 hy5 hF1 hI1 hrow hB1 hbl
        go_wp2_with (fail)
        all_goals go_ret
        all_goals refine ⟨?_, hB2⟩
        all_goals go_light
        all_goals simp_all [right, fine, why, rdA, rdB, irx.wr, ar, inR]
        all_goals (intros; first | omega | (simp_all <;> omega))
set_option maxHeartbeats 3200000 in
set_option maxRecDepth 1000000 in
theorem right21_8 (P R : Int) (cad : Option Addr) (len cap : Nat) (ds a b n to : Int) (hw : wrap64 n = n) (w : World) : Calls Tryz.prog 21 #[fval P R cad len cap, inst 8 ds a b n to] w fun e w' =>
    e = .returned (.int .i64 (right ar R len 8 ds a b n to)) ∧ Below w.heap.size w w' := by
  have hB0 : Below w.heap.size w ((w.alloc (.cells #[.int .i64 P, .int .i64 R, .slice cad len cap] 24)).alloc (.cells #[.int .i64 8, .int .i64 ds, .int .i64 a, .int .i64 b, .int .i32 n, .int .i64 to] 44)) := ((Below.refl _ _).alloc (Nat.le_refl _) _).alloc (by simp) _
  have hS0 : ((w.alloc (.cells #[.int .i64 P, .int .i64 R, .slice cad len cap] 24)).alloc (.cells #[.int .i64 8, .int .i64 ds, .int .i64 a, .int .i64 b, .int .i32 n, .int .i64 to] 44)).heap.size = w.heap.size + 2 := by simp
  have hF0 : ((w.alloc (.cells #[.int .i64 P, .int .i64 R, .slice cad len cap] 24)).alloc (.cells #[.int .i64 8, .int .i64 ds, .int .i64 a, .int .i64 b, .int .i32 n, .int .i64 to] 44)).heap[w.heap.size]? = some (.cells #[.int .i64 P, .int .i64 R, .slice cad len cap] 24 (0, 0)) := by
    rw [Below.heap_alloc _ _ _ (by simp)]; exact heap_alloc_new w _
  have hI0 : ((w.alloc (.cells #[.int .i64 P, .int .i64 R, .slice cad len cap] 24)).alloc (.cells #[.int .i64 8, .int .i64 ds, .int .i64 a, .int .i64 b, .int .i32 n, .int .i64 to] 44)).heap[w.heap.size + 1]? = some (.cells #[.int .i64 8, .int .i64 ds, .int .i64 a, .int .i64 b, .int .i32 n, .int .i64 to] 44 (0, 0)) := by
    have := heap_alloc_new (w.alloc (.cells #[.int .i64 P, .int .i64 R, .slice cad len cap] 24)) (.cells #[.int .i64 8, .int .i64 ds, .int .i64 a, .int .i64 b, .int .i32 n, .int .i64 to] 44)
    simpa using this
  go_enter Tryz.func21, Tryz.ntmps21
  go_wp2_with (go_at_call 28; refine (reads28 8 ds a b n to _).mono ?_; rintro e w1 ⟨v, rfl, hown, hb1⟩; obtain ⟨ad, cp, rfl, hrow⟩ := row_get hown)
  have hB1 := hB0.trans (hb1.mono (by omega))
  have hF1 := (hb1.block w.heap.size (by omega)).trans hF0
  have hI1 := (hb1.block (w.heap.size + 1) (by omega)).trans hI0
  have hS1 : w.heap.size + 2 ≤ w1.heap.size := by have := hb1.size; omega
  have hll := allIn_rl R 8 a b n
  have hl2 := rl_le 8 a b n
  generalize rl 8 a b n = l at *
  clear hown hb1 hF0 hI0 hB0
  go_loopw [5, 12] (fun q i wr => ∃ k : Nat, k ≤ l.length ∧ i = .int .i64 k ∧ q = .bool (allIn R (l.take k)) ∧ Below w1.heap.size w1 wr) (fun _ i _ => l.length - (intOf i).toNat)
  case atStart => exact ⟨0, Nat.zero_le _, rfl, rfl, Below.refl _ _⟩
  case round =>
    obtain ⟨k, hk, rfl, rfl, hbl⟩ := hrel
    have hF1 := (hbl.block w.heap.size (by omega)).trans hF1
    have hI1 := (hbl.block (w.heap.size + 1) (by omega)).trans hI1
    have hB1 := hB1.trans (hbl.mono (by omega))
    have hS1 : w.heap.size + 2 ≤ wr.heap.size := by have := hbl.size; omega
    have hx1 : wr.cell? ⟨w.heap.size, 1, none⟩ = some (.int .i64 R) := by simp [World.cell?, hF1]
    by_cases hk1 : k < l.length
    · obtain ⟨g, rfl, hg, hc0⟩ := hrow k hk1
      have hc := (hbl.cell (p := ⟨g, k, none⟩) hg).trans hc0
      clear hc0
      have hs := allIn_succ R l k hk1
      generalize l.getD k 0 = x at hc hs
      cases hq : allIn R (l.take k)
      · go_wp2
        go_roundw
        case rel => exact ⟨k + 1, by omega, by go_num, by rw [hs, hq]; rfl, hbl⟩
        case measure => simp [intOf]; omega
      · by_cases h1 : 0 ≤ x
        · by_cases h2 : x < R
          · go_wp2
            go_roundw
            case rel => exact ⟨k + 1, by omega, by go_num, by rw [hs, hq]; simp [inR, h1, h2], hbl⟩
            case measure => simp [intOf]; omega
          · go_wp2
            go_roundw
            case rel => exact ⟨k + 1, by omega, by go_num, by rw [hs, hq]; simp [inR, h1, h2], hbl⟩
            case measure => simp [intOf]; omega
        · go_wp2
          go_roundw
          case rel => exact ⟨k + 1, by omega, by go_num, by rw [hs, hq]; simp [inR, h1], hbl⟩
          case measure => simp [intOf]; omega
    · have hkl : k = l.length := by omega
      subst hkl
      rw [List.take_length, hll]
      have hy0 : wr.cell? ⟨w.heap.size + 1, 0, none⟩ = some (.int .i64 8) := by simp [World.cell?, hI1]
      have hy1 : wr.cell? ⟨w.heap.size + 1, 1, none⟩ = some (.int .i64 ds) := by simp [World.cell?, hI1]
      have hy2 : wr.cell? ⟨w.heap.size + 1, 2, none⟩ = some (.int .i64 a) := by simp [World.cell?, hI1]
      have hy3 : wr.cell? ⟨w.heap.size + 1, 3, none⟩ = some (.int .i64 b) := by simp [World.cell?, hI1]
      have hy4 : wr.cell? ⟨w.heap.size + 1, 4, none⟩ = some (.int .i32 n) := by simp [World.cell?, hI1]
      have hy5 : wr.cell? ⟨w.heap.size + 1, 5, none⟩ = some (.int .i64 to) := by simp [World.cell?, hI1]
      have hF2 : ∀ w2, Below wr.heap.size wr w2 → w2.cell? ⟨w.heap.size, 1, none⟩ = some (.int .i64 R) ∧ w2.cell? ⟨w.heap.size, 2, none⟩ = some (.slice cad len cap) := fun w2 hb => by
        have := (hb.block w.heap.size (by omega)).trans hF1
        exact ⟨by simp [World.cell?, this], by simp [World.cell?, this]⟩
      have hI2 : ∀ w2, Below wr.heap.size wr w2 → w2.heap[w.heap.size + 1]? = some (.cells #[.int .i64 8, .int .i64 ds, .int .i64 a, .int .i64 b, .int .i32 n, .int .i64 to] 44 (0, 0)) := fun w2 hb => (hb.block (w.heap.size + 1) (by omega)).trans hI1
      have hwr : irx.wr 8 = false := by decide
      generalize hqq : ((!rdA 8 || inR R a) && (!rdB 8 n || inR R b)) = q0
      clear hll hl2
      cases q0
      · go_wp2_with fail
        refine (writes29 8 ds a b n to _).mono ?_
        rintro e w2 ⟨rfl, hb2⟩
        obtain ⟨hz1, hz2⟩ := hF2 _ hb2
        have hB2 := hB1.trans (hb2.mono (by omega))
        have hI3 := hI2 _ hb2
        have hz3 : w2.cell? ⟨w.heap.size + 1, 0, none⟩ = some (.int .i64 8) := by simp [World.cell?, hI3]
        have hz4 : w2.cell? ⟨w.heap.size + 1, 1, none⟩ = some (.int .i64 ds) := by simp [World.cell?, hI3]
        have hz5 : w2.cell? ⟨w.heap.size + 1, 4, none⟩ = some (.int .i32 n) := by simp [World.cell?, hI3]
        have hz6 : w2.cell? ⟨w.heap.size + 1, 5, none⟩ = some (.int .i64 to) := by simp [World.cell?, hI3]
        clear hF2 hI2 hI3 hx1 hy0 hy1 hy2 hy3 hy4 hy5 hF1 hI1 hrow hB1 hbl
        go_wp2_with (fail)
        all_goals go_ret
        all_goals refine ⟨?_, hB2⟩
        all_goals go_light
        all_goals simp_all [right, fine, why, rdA, rdB, irx.wr, ar, inR]
        all_goals (intros; first | omega | (simp_all <;> omega))
      · go_wp2_with fail
        refine (writes29 8 ds a b n to _).mono ?_
        rintro e w2 ⟨rfl, hb2⟩
        obtain ⟨hz1, hz2⟩ := hF2 _ hb2
        have hB2 := hB1.trans (hb2.mono (by omega))
        have hI3 := hI2 _ hb2
        have hz3 : w2.cell? ⟨w.heap.size + 1, 0, none⟩ = some (.int .i64 8) := by simp [World.cell?, hI3]
        have hz4 : w2.cell? ⟨w.heap.size + 1, 1, none⟩ = some (.int .i64 ds) := by simp [World.cell?, hI3]
        have hz5 : w2.cell? ⟨w.heap.size + 1, 4, none⟩ = some (.int .i32 n) := by simp [World.cell?, hI3]
        have hz6 : w2.cell? ⟨w.heap.size + 1, 5, none⟩ = some (.int .i64 to) := by simp [World.cell?, hI3]
        clear hF2 hI2 hI3 hx1 hy0 hy1 hy2 hy3 hy4 hy5 hF1 hI1 hrow hB1 hbl
        go_wp2_with (fail)
        all_goals go_ret
        all_goals refine ⟨?_, hB2⟩
        all_goals go_light
        all_goals simp_all [right, fine, why, rdA, rdB, irx.wr, ar, inR]
        all_goals (intros; first | omega | (simp_all <;> omega))
set_option maxHeartbeats 3200000 in
set_option maxRecDepth 1000000 in
theorem right21_9 (P R : Int) (cad : Option Addr) (len cap : Nat) (ds a b n to : Int) (hw : wrap64 n = n) (w : World) : Calls Tryz.prog 21 #[fval P R cad len cap, inst 9 ds a b n to] w fun e w' =>
    e = .returned (.int .i64 (right ar R len 9 ds a b n to)) ∧ Below w.heap.size w w' := by
  have hB0 : Below w.heap.size w ((w.alloc (.cells #[.int .i64 P, .int .i64 R, .slice cad len cap] 24)).alloc (.cells #[.int .i64 9, .int .i64 ds, .int .i64 a, .int .i64 b, .int .i32 n, .int .i64 to] 44)) := ((Below.refl _ _).alloc (Nat.le_refl _) _).alloc (by simp) _
  have hS0 : ((w.alloc (.cells #[.int .i64 P, .int .i64 R, .slice cad len cap] 24)).alloc (.cells #[.int .i64 9, .int .i64 ds, .int .i64 a, .int .i64 b, .int .i32 n, .int .i64 to] 44)).heap.size = w.heap.size + 2 := by simp
  have hF0 : ((w.alloc (.cells #[.int .i64 P, .int .i64 R, .slice cad len cap] 24)).alloc (.cells #[.int .i64 9, .int .i64 ds, .int .i64 a, .int .i64 b, .int .i32 n, .int .i64 to] 44)).heap[w.heap.size]? = some (.cells #[.int .i64 P, .int .i64 R, .slice cad len cap] 24 (0, 0)) := by
    rw [Below.heap_alloc _ _ _ (by simp)]; exact heap_alloc_new w _
  have hI0 : ((w.alloc (.cells #[.int .i64 P, .int .i64 R, .slice cad len cap] 24)).alloc (.cells #[.int .i64 9, .int .i64 ds, .int .i64 a, .int .i64 b, .int .i32 n, .int .i64 to] 44)).heap[w.heap.size + 1]? = some (.cells #[.int .i64 9, .int .i64 ds, .int .i64 a, .int .i64 b, .int .i32 n, .int .i64 to] 44 (0, 0)) := by
    have := heap_alloc_new (w.alloc (.cells #[.int .i64 P, .int .i64 R, .slice cad len cap] 24)) (.cells #[.int .i64 9, .int .i64 ds, .int .i64 a, .int .i64 b, .int .i32 n, .int .i64 to] 44)
    simpa using this
  go_enter Tryz.func21, Tryz.ntmps21
  go_wp2_with (go_at_call 28; refine (reads28 9 ds a b n to _).mono ?_; rintro e w1 ⟨v, rfl, hown, hb1⟩; obtain ⟨ad, cp, rfl, hrow⟩ := row_get hown)
  have hB1 := hB0.trans (hb1.mono (by omega))
  have hF1 := (hb1.block w.heap.size (by omega)).trans hF0
  have hI1 := (hb1.block (w.heap.size + 1) (by omega)).trans hI0
  have hS1 : w.heap.size + 2 ≤ w1.heap.size := by have := hb1.size; omega
  have hll := allIn_rl R 9 a b n
  have hl2 := rl_le 9 a b n
  generalize rl 9 a b n = l at *
  clear hown hb1 hF0 hI0 hB0
  go_loopw [5, 12] (fun q i wr => ∃ k : Nat, k ≤ l.length ∧ i = .int .i64 k ∧ q = .bool (allIn R (l.take k)) ∧ Below w1.heap.size w1 wr) (fun _ i _ => l.length - (intOf i).toNat)
  case atStart => exact ⟨0, Nat.zero_le _, rfl, rfl, Below.refl _ _⟩
  case round =>
    obtain ⟨k, hk, rfl, rfl, hbl⟩ := hrel
    have hF1 := (hbl.block w.heap.size (by omega)).trans hF1
    have hI1 := (hbl.block (w.heap.size + 1) (by omega)).trans hI1
    have hB1 := hB1.trans (hbl.mono (by omega))
    have hS1 : w.heap.size + 2 ≤ wr.heap.size := by have := hbl.size; omega
    have hx1 : wr.cell? ⟨w.heap.size, 1, none⟩ = some (.int .i64 R) := by simp [World.cell?, hF1]
    by_cases hk1 : k < l.length
    · obtain ⟨g, rfl, hg, hc0⟩ := hrow k hk1
      have hc := (hbl.cell (p := ⟨g, k, none⟩) hg).trans hc0
      clear hc0
      have hs := allIn_succ R l k hk1
      generalize l.getD k 0 = x at hc hs
      cases hq : allIn R (l.take k)
      · go_wp2
        go_roundw
        case rel => exact ⟨k + 1, by omega, by go_num, by rw [hs, hq]; rfl, hbl⟩
        case measure => simp [intOf]; omega
      · by_cases h1 : 0 ≤ x
        · by_cases h2 : x < R
          · go_wp2
            go_roundw
            case rel => exact ⟨k + 1, by omega, by go_num, by rw [hs, hq]; simp [inR, h1, h2], hbl⟩
            case measure => simp [intOf]; omega
          · go_wp2
            go_roundw
            case rel => exact ⟨k + 1, by omega, by go_num, by rw [hs, hq]; simp [inR, h1, h2], hbl⟩
            case measure => simp [intOf]; omega
        · go_wp2
          go_roundw
          case rel => exact ⟨k + 1, by omega, by go_num, by rw [hs, hq]; simp [inR, h1], hbl⟩
          case measure => simp [intOf]; omega
    · have hkl : k = l.length := by omega
      subst hkl
      rw [List.take_length, hll]
      have hy0 : wr.cell? ⟨w.heap.size + 1, 0, none⟩ = some (.int .i64 9) := by simp [World.cell?, hI1]
      have hy1 : wr.cell? ⟨w.heap.size + 1, 1, none⟩ = some (.int .i64 ds) := by simp [World.cell?, hI1]
      have hy2 : wr.cell? ⟨w.heap.size + 1, 2, none⟩ = some (.int .i64 a) := by simp [World.cell?, hI1]
      have hy3 : wr.cell? ⟨w.heap.size + 1, 3, none⟩ = some (.int .i64 b) := by simp [World.cell?, hI1]
      have hy4 : wr.cell? ⟨w.heap.size + 1, 4, none⟩ = some (.int .i32 n) := by simp [World.cell?, hI1]
      have hy5 : wr.cell? ⟨w.heap.size + 1, 5, none⟩ = some (.int .i64 to) := by simp [World.cell?, hI1]
      have hF2 : ∀ w2, Below wr.heap.size wr w2 → w2.cell? ⟨w.heap.size, 1, none⟩ = some (.int .i64 R) ∧ w2.cell? ⟨w.heap.size, 2, none⟩ = some (.slice cad len cap) := fun w2 hb => by
        have := (hb.block w.heap.size (by omega)).trans hF1
        exact ⟨by simp [World.cell?, this], by simp [World.cell?, this]⟩
      have hI2 : ∀ w2, Below wr.heap.size wr w2 → w2.heap[w.heap.size + 1]? = some (.cells #[.int .i64 9, .int .i64 ds, .int .i64 a, .int .i64 b, .int .i32 n, .int .i64 to] 44 (0, 0)) := fun w2 hb => (hb.block (w.heap.size + 1) (by omega)).trans hI1
      have hwr : irx.wr 9 = false := by decide
      generalize hqq : ((!rdA 9 || inR R a) && (!rdB 9 n || inR R b)) = q0
      clear hll hl2
      cases q0
      · go_wp2_with fail
        refine (writes29 9 ds a b n to _).mono ?_
        rintro e w2 ⟨rfl, hb2⟩
        obtain ⟨hz1, hz2⟩ := hF2 _ hb2
        have hB2 := hB1.trans (hb2.mono (by omega))
        have hI3 := hI2 _ hb2
        have hz3 : w2.cell? ⟨w.heap.size + 1, 0, none⟩ = some (.int .i64 9) := by simp [World.cell?, hI3]
        have hz4 : w2.cell? ⟨w.heap.size + 1, 1, none⟩ = some (.int .i64 ds) := by simp [World.cell?, hI3]
        have hz5 : w2.cell? ⟨w.heap.size + 1, 4, none⟩ = some (.int .i32 n) := by simp [World.cell?, hI3]
        have hz6 : w2.cell? ⟨w.heap.size + 1, 5, none⟩ = some (.int .i64 to) := by simp [World.cell?, hI3]
        clear hF2 hI2 hI3 hx1 hy0 hy1 hy2 hy3 hy4 hy5 hF1 hI1 hrow hB1 hbl
        go_wp2_with (fail)
        all_goals go_ret
        all_goals refine ⟨?_, hB2⟩
        all_goals go_light
        all_goals simp_all [right, fine, why, rdA, rdB, irx.wr, ar, inR]
        all_goals (intros; first | omega | (simp_all <;> omega))
      · go_wp2_with fail
        refine (writes29 9 ds a b n to _).mono ?_
        rintro e w2 ⟨rfl, hb2⟩
        obtain ⟨hz1, hz2⟩ := hF2 _ hb2
        have hB2 := hB1.trans (hb2.mono (by omega))
        have hI3 := hI2 _ hb2
        have hz3 : w2.cell? ⟨w.heap.size + 1, 0, none⟩ = some (.int .i64 9) := by simp [World.cell?, hI3]
        have hz4 : w2.cell? ⟨w.heap.size + 1, 1, none⟩ = some (.int .i64 ds) := by simp [World.cell?, hI3]
        have hz5 : w2.cell? ⟨w.heap.size + 1, 4, none⟩ = some (.int .i32 n) := by simp [World.cell?, hI3]
        have hz6 : w2.cell? ⟨w.heap.size + 1, 5, none⟩ = some (.int .i64 to) := by simp [World.cell?, hI3]
        clear hF2 hI2 hI3 hx1 hy0 hy1 hy2 hy3 hy4 hy5 hF1 hI1 hrow hB1 hbl
        go_wp2_with (fail)
        all_goals go_ret
        all_goals refine ⟨?_, hB2⟩
        all_goals go_light
        all_goals simp_all [right, fine, why, rdA, rdB, irx.wr, ar, inR]
        all_goals (intros; first | omega | (simp_all <;> omega))
set_option maxHeartbeats 3200000 in
set_option maxRecDepth 1000000 in
theorem right21_x (P R : Int) (cad : Option Addr) (len cap : Nat) (op ds a b n to : Int) (hop : op < 1 ∨ 9 < op) (hw : wrap64 n = n) (w : World) : Calls Tryz.prog 21 #[fval P R cad len cap, inst op ds a b n to] w fun e w' =>
    e = .returned (.int .i64 (right ar R len op ds a b n to)) ∧ Below w.heap.size w w' := by
  have hB0 : Below w.heap.size w ((w.alloc (.cells #[.int .i64 P, .int .i64 R, .slice cad len cap] 24)).alloc (.cells #[.int .i64 op, .int .i64 ds, .int .i64 a, .int .i64 b, .int .i32 n, .int .i64 to] 44)) := ((Below.refl _ _).alloc (Nat.le_refl _) _).alloc (by simp) _
  have hS0 : ((w.alloc (.cells #[.int .i64 P, .int .i64 R, .slice cad len cap] 24)).alloc (.cells #[.int .i64 op, .int .i64 ds, .int .i64 a, .int .i64 b, .int .i32 n, .int .i64 to] 44)).heap.size = w.heap.size + 2 := by simp
  have hF0 : ((w.alloc (.cells #[.int .i64 P, .int .i64 R, .slice cad len cap] 24)).alloc (.cells #[.int .i64 op, .int .i64 ds, .int .i64 a, .int .i64 b, .int .i32 n, .int .i64 to] 44)).heap[w.heap.size]? = some (.cells #[.int .i64 P, .int .i64 R, .slice cad len cap] 24 (0, 0)) := by
    rw [Below.heap_alloc _ _ _ (by simp)]; exact heap_alloc_new w _
  have hI0 : ((w.alloc (.cells #[.int .i64 P, .int .i64 R, .slice cad len cap] 24)).alloc (.cells #[.int .i64 op, .int .i64 ds, .int .i64 a, .int .i64 b, .int .i32 n, .int .i64 to] 44)).heap[w.heap.size + 1]? = some (.cells #[.int .i64 op, .int .i64 ds, .int .i64 a, .int .i64 b, .int .i32 n, .int .i64 to] 44 (0, 0)) := by
    have := heap_alloc_new (w.alloc (.cells #[.int .i64 P, .int .i64 R, .slice cad len cap] 24)) (.cells #[.int .i64 op, .int .i64 ds, .int .i64 a, .int .i64 b, .int .i32 n, .int .i64 to] 44)
    simpa using this
  go_enter Tryz.func21, Tryz.ntmps21
  go_wp2_with (go_at_call 28; refine (reads28 op ds a b n to _).mono ?_; rintro e w1 ⟨v, rfl, hown, hb1⟩; obtain ⟨ad, cp, rfl, hrow⟩ := row_get hown)
  have hB1 := hB0.trans (hb1.mono (by omega))
  have hF1 := (hb1.block w.heap.size (by omega)).trans hF0
  have hI1 := (hb1.block (w.heap.size + 1) (by omega)).trans hI0
  have hS1 : w.heap.size + 2 ≤ w1.heap.size := by have := hb1.size; omega
  have hll := allIn_rl R op a b n
  have hl2 := rl_le op a b n
  generalize rl op a b n = l at *
  clear hown hb1 hF0 hI0 hB0
  go_loopw [5, 12] (fun q i wr => ∃ k : Nat, k ≤ l.length ∧ i = .int .i64 k ∧ q = .bool (allIn R (l.take k)) ∧ Below w1.heap.size w1 wr) (fun _ i _ => l.length - (intOf i).toNat)
  case atStart => exact ⟨0, Nat.zero_le _, rfl, rfl, Below.refl _ _⟩
  case round =>
    obtain ⟨k, hk, rfl, rfl, hbl⟩ := hrel
    have hF1 := (hbl.block w.heap.size (by omega)).trans hF1
    have hI1 := (hbl.block (w.heap.size + 1) (by omega)).trans hI1
    have hB1 := hB1.trans (hbl.mono (by omega))
    have hS1 : w.heap.size + 2 ≤ wr.heap.size := by have := hbl.size; omega
    have hx1 : wr.cell? ⟨w.heap.size, 1, none⟩ = some (.int .i64 R) := by simp [World.cell?, hF1]
    by_cases hk1 : k < l.length
    · obtain ⟨g, rfl, hg, hc0⟩ := hrow k hk1
      have hc := (hbl.cell (p := ⟨g, k, none⟩) hg).trans hc0
      clear hc0
      have hs := allIn_succ R l k hk1
      generalize l.getD k 0 = x at hc hs
      cases hq : allIn R (l.take k)
      · go_wp2
        go_roundw
        case rel => exact ⟨k + 1, by omega, by go_num, by rw [hs, hq]; rfl, hbl⟩
        case measure => simp [intOf]; omega
      · by_cases h1 : 0 ≤ x
        · by_cases h2 : x < R
          · go_wp2
            go_roundw
            case rel => exact ⟨k + 1, by omega, by go_num, by rw [hs, hq]; simp [inR, h1, h2], hbl⟩
            case measure => simp [intOf]; omega
          · go_wp2
            go_roundw
            case rel => exact ⟨k + 1, by omega, by go_num, by rw [hs, hq]; simp [inR, h1, h2], hbl⟩
            case measure => simp [intOf]; omega
        · go_wp2
          go_roundw
          case rel => exact ⟨k + 1, by omega, by go_num, by rw [hs, hq]; simp [inR, h1], hbl⟩
          case measure => simp [intOf]; omega
    · have hkl : k = l.length := by omega
      subst hkl
      rw [List.take_length, hll]
      have hy0 : wr.cell? ⟨w.heap.size + 1, 0, none⟩ = some (.int .i64 op) := by simp [World.cell?, hI1]
      have hy1 : wr.cell? ⟨w.heap.size + 1, 1, none⟩ = some (.int .i64 ds) := by simp [World.cell?, hI1]
      have hy2 : wr.cell? ⟨w.heap.size + 1, 2, none⟩ = some (.int .i64 a) := by simp [World.cell?, hI1]
      have hy3 : wr.cell? ⟨w.heap.size + 1, 3, none⟩ = some (.int .i64 b) := by simp [World.cell?, hI1]
      have hy4 : wr.cell? ⟨w.heap.size + 1, 4, none⟩ = some (.int .i32 n) := by simp [World.cell?, hI1]
      have hy5 : wr.cell? ⟨w.heap.size + 1, 5, none⟩ = some (.int .i64 to) := by simp [World.cell?, hI1]
      have hF2 : ∀ w2, Below wr.heap.size wr w2 → w2.cell? ⟨w.heap.size, 1, none⟩ = some (.int .i64 R) ∧ w2.cell? ⟨w.heap.size, 2, none⟩ = some (.slice cad len cap) := fun w2 hb => by
        have := (hb.block w.heap.size (by omega)).trans hF1
        exact ⟨by simp [World.cell?, this], by simp [World.cell?, this]⟩
      have hI2 : ∀ w2, Below wr.heap.size wr w2 → w2.heap[w.heap.size + 1]? = some (.cells #[.int .i64 op, .int .i64 ds, .int .i64 a, .int .i64 b, .int .i32 n, .int .i64 to] 44 (0, 0)) := fun w2 hb => (hb.block (w.heap.size + 1) (by omega)).trans hI1
      have hwr : irx.wr op = false := by (simp [irx.wr]; omega)
      generalize hqq : ((!rdA op || inR R a) && (!rdB op n || inR R b)) = q0
      clear hll hl2
      cases q0
      · go_wp2_with fail
        refine (writes29 op ds a b n to _).mono ?_
        rintro e w2 ⟨rfl, hb2⟩
        obtain ⟨hz1, hz2⟩ := hF2 _ hb2
        have hB2 := hB1.trans (hb2.mono (by omega))
        have hI3 := hI2 _ hb2
        have hz3 : w2.cell? ⟨w.heap.size + 1, 0, none⟩ = some (.int .i64 op) := by simp [World.cell?, hI3]
        have hz4 : w2.cell? ⟨w.heap.size + 1, 1, none⟩ = some (.int .i64 ds) := by simp [World.cell?, hI3]
        have hz5 : w2.cell? ⟨w.heap.size + 1, 4, none⟩ = some (.int .i32 n) := by simp [World.cell?, hI3]
        have hz6 : w2.cell? ⟨w.heap.size + 1, 5, none⟩ = some (.int .i64 to) := by simp [World.cell?, hI3]
        clear hF2 hI2 hI3 hx1 hy0 hy1 hy2 hy3 hy4 hy5 hF1 hI1 hrow hB1 hbl
        go_wp2_with (fail)
        all_goals go_ret
        all_goals refine ⟨?_, hB2⟩
        all_goals go_light
        all_goals simp_all [right, fine, why, rdA, rdB, irx.wr, ar, inR]
        all_goals (intros; first | omega | (simp_all <;> omega))
      · go_wp2_with fail
        refine (writes29 op ds a b n to _).mono ?_
        rintro e w2 ⟨rfl, hb2⟩
        obtain ⟨hz1, hz2⟩ := hF2 _ hb2
        have hB2 := hB1.trans (hb2.mono (by omega))
        have hI3 := hI2 _ hb2
        have hz3 : w2.cell? ⟨w.heap.size + 1, 0, none⟩ = some (.int .i64 op) := by simp [World.cell?, hI3]
        have hz4 : w2.cell? ⟨w.heap.size + 1, 1, none⟩ = some (.int .i64 ds) := by simp [World.cell?, hI3]
        have hz5 : w2.cell? ⟨w.heap.size + 1, 4, none⟩ = some (.int .i32 n) := by simp [World.cell?, hI3]
        have hz6 : w2.cell? ⟨w.heap.size + 1, 5, none⟩ = some (.int .i64 to) := by simp [World.cell?, hI3]
        clear hF2 hI2 hI3 hx1 hy0 hy1 hy2 hy3 hy4 hy5 hF1 hI1 hrow hB1 hbl
        go_wp2_with (fail)
        all_goals go_ret
        all_goals refine ⟨?_, hB2⟩
        all_goals go_light
        all_goals simp_all [right, fine, why, rdA, rdB, irx.wr, ar, inR]
        all_goals (intros; first | omega | (simp_all <;> omega))
theorem right21 (P R : Int) (cad : Option Addr) (len cap : Nat) (op ds a b n to : Int) (hw : wrap64 n = n) (w : World) : Calls Tryz.prog 21 #[fval P R cad len cap, inst op ds a b n to] w fun e w' =>
    e = .returned (.int .i64 (right ar R len op ds a b n to)) ∧ Below w.heap.size w w' := by
  by_cases h1 : op = 1
  · subst h1; exact right21_1 P R cad len cap ds a b n to hw w
  by_cases h2 : op = 2
  · subst h2; exact right21_2 P R cad len cap ds a b n to hw w
  by_cases h3 : op = 3
  · subst h3; exact right21_3 P R cad len cap ds a b n to hw w
  by_cases h4 : op = 4
  · subst h4; exact right21_4 P R cad len cap ds a b n to hw w
  by_cases h5 : op = 5
  · subst h5; exact right21_5 P R cad len cap ds a b n to hw w
  by_cases h6 : op = 6
  · subst h6; exact right21_6 P R cad len cap ds a b n to hw w
  by_cases h7 : op = 7
  · subst h7; exact right21_7 P R cad len cap ds a b n to hw w
  by_cases h8 : op = 8
  · subst h8; exact right21_8 P R cad len cap ds a b n to hw w
  by_cases h9 : op = 9
  · subst h9; exact right21_9 P R cad len cap ds a b n to hw w
  exact right21_x P R cad len cap op ds a b n to (by omega) hw w
end Go.Proofs.YtondggcbldnhcaaGreat.irx
