/-
  alloc.Scan: what it refuses; no spans at all.
-/
import Derived.Test.YtkejnhmhbmbhcaaAlR
set_option maxHeartbeats 64000000
set_option maxRecDepth 1000000
set_option linter.unusedVariables false
set_option linter.unusedSimpArgs false
namespace Go.Proofs.Ytkejnhmhbmbhcaa.al
open Go Go.RowKit Go.BigFrame
open Go.Proofs.Ytkejnhmhbmbhcaa
theorem scan7_arg (lv : Value) (z : Int) (hz : z < 0 ∨ 16 < z) (w : World) :
    Calls Try.prog 7 #[lv, .int .i64 z] w fun e w' => e = refusal 1 ∧ Below w.heap.size w w' := by
  by_cases h1 : z < 0
  · have d1 : decide (z < 0) = true := decide_eq_true h1
    clear hz
    go_enter Try.func7, Try.ntmps7
    go_wp2_with fail
    all_goals (go_ret3; exact ⟨rfl, (Below.refl _ _).alloc (Nat.le_refl _) _⟩)
  · have d1 : decide (z < 0) = false := decide_eq_false h1
    have d2 : decide (16 < z) = true := decide_eq_true (by omega)
    go_enter Try.func7, Try.ntmps7
    go_wp2_with fail
    all_goals (go_ret3; exact ⟨rfl, (Below.refl _ _).alloc (Nat.le_refl _) _⟩)
theorem scan7_many (o : Option Addr) (N cap R : Nat) (hN : 256 < N) (hR : R ≤ 16) (w : World) :
    Calls Try.prog 7 #[.slice o N cap, .int .i64 (R : Int)] w fun e w' => e = refusal 4 ∧ Below w.heap.size w w' := by
  have d1 : decide ((16 : Int) < (R : Int)) = false := by simp; omega
  have d2 : decide ((256 : Int) < (N : Int)) = true := by simp; omega
  go_enter Try.func7, Try.ntmps7
  go_wp2_with fail
  go_ret3
  exact ⟨rfl, (Below.refl _ _).alloc (Nat.le_refl _) _⟩
theorem scan7_zero (o : Option Addr) (cap R : Nat) (s : AlScan.Sps) (hR : R ≤ 16) (w : World) :
    Calls Try.prog 7 #[.slice o 0 cap, .int .i64 (R : Int)] w (ScanO w R 0 s) := by
  have d1 : decide ((16 : Int) < (R : Int)) = false := by simp; omega
  have hm1 : ∀ w, (Instr.makeSlice 23 (.int .i64 0) (.int .i64 0)).run Try.prog w = .ok (.slice (some ⟨w.heap.size, 0, none⟩) 0 0) (w.alloc (.cells #[] 33)) := fun w => by have := mk23 0 (by omega) w; simpa [madeCells, Array.range_zero'] using this
  have hm2 : ∀ w, (Instr.makeSlice 37 (.int .i64 0) (.int .i64 0)).run Try.prog w = .ok (.slice (some ⟨w.heap.size, 0, none⟩) 0 0) (w.alloc (.cells #[] 3)) := fun w => by have := mk37 0 (by omega) w; simpa [madeCells, Array.range_zero'] using this
  go_enter Try.func7, Try.ntmps7
  go_wp2_with fail
  generalize hW1 : w.alloc (Obj.cells #[.slice o 0 cap] 22) = w1
  have c1 : w1.cell? ⟨w.heap.size, 0, none⟩ = some (.slice o 0 cap) := by rw [← hW1]; simp
  have hb1 : w.heap.size < w1.heap.size := by rw [← hW1]; simp
  have hB1 : Below w.heap.size w w1 := by rw [← hW1]; exact (Below.refl _ _).alloc (Nat.le_refl _) _
  clear hW1
  go_loopw [35] (fun u wq => u = .int .i64 0 ∧ wq = w1) (fun _ _ => 0)
  case atStart => exact ⟨rfl, rfl⟩
  case round =>
    obtain ⟨rfl, rfl⟩ := hrel
    go_wp2_with fail
    generalize hWA : wr.alloc (Obj.cells #[] 33) = wa
    generalize hWB : wa.alloc (Obj.cells #[] 3) = wb
    generalize hob : wr.heap.size = ob
    generalize hgb : ob + 1 = gb
    have na : wa.heap[ob]? = some (.cells #[] 33 (0, 0)) := by rw [← hWA, ← hob]; exact heap_alloc_new wr _
    have sa : wa.heap.size = gb := by rw [← hWA, ← hgb, ← hob]; simp
    have nb : wb.heap[gb]? = some (.cells #[] 3 (0, 0)) := by rw [← hWB, ← sa]; exact heap_alloc_new wa _
    have oa : Only [] wr wa := by rw [← hWA]; exact (Only.refl _ _).alloc _
    have obb : Only [] wa wb := by rw [← hWB]; exact (Only.refl _ _).alloc _
    have na' : wb.heap[ob]? = some (.cells #[] 33 (0, 0)) := (obb.same ob (by omega) (by simp)).trans na
    have hR1 : IRow wb gb 0 (fun _ => 0) := ⟨by simpa using nb⟩
    have hS1 : SpM wb w.heap.size 0 0 0 cap s := ⟨fun h => absurd h (by omega), fun i hi => absurd hi (by omega), fun i hi => absurd hi (by omega), fun i hi => absurd hi (by omega)⟩
    have cS := sort15 gb 0 w.heap.size 0 0 0 cap s _ (by omega) (by omega) (fun i hi => absurd hi (by omega)) (fun i j h1 h2 => absurd h2 (by omega)) wb hR1 hS1
    have CS := Lib.hid cS
    have c2 : wb.cell? ⟨w.heap.size, 0, none⟩ = some (.slice o 0 cap) := (World.cell?_of_block (a := ⟨w.heap.size, 0, none⟩) ((oa.trans obb).same _ (by omega) (by simp))).trans c1
    have HW := Lib.hid (And.intro na' (And.intro oa obb))
    have HOB := Lib.hid (And.intro hob (And.intro hgb (And.intro hb1 sa)))
    clear na na' sa nb oa obb hR1 hS1 cS hWA hWB hob hgb hm1 hm2 c1 hb1
    go_loopw [74] (fun u wq => u = .int .i64 0 ∧ wq = wb) (fun _ _ => 0)
    case atStart => exact ⟨rfl, rfl⟩
    case round =>
      obtain ⟨rfl, rfl⟩ := hrel
      go_wp2_with (go_at_call 15; (with_reducible refine CS.out.mono ?_); rintro ee w3 ⟨rfl, hX, hW⟩; have HX := Lib.hid (And.intro hX hW); clear hX hW)
      obtain ⟨⟨E, hE1, hE2, hE3⟩, hW⟩ := HX.out
      have hsrt : Srt s 0 E := ⟨AlSo.Same.refl _ _ _ |>.trans (by simpa using hE2), hE3⟩
      generalize hW4 : (((w3.alloc (Obj.cells #[.slice none 0 0, .func (.func 18) #[] #[ptr w.heap.size]] 51)).alloc (Obj.cells #[.slice none 0 0, .func (.func 19) #[] #[ptr w.heap.size]] 51)).alloc
            (Obj.cells #[.bool false, .bool false, .bool false, .bool false, .bool false, .bool false, .bool false, .bool false, .bool false, .bool false, .bool false, .bool false, .bool false, .bool false, .bool false, .bool false] 52)) = w4
      have o3 : Only [] w3 w4 := by rw [← hW4]; exact (((Only.refl _ _).alloc _).alloc _).alloc _
      obtain ⟨na', oa, obb⟩ := HW.out
      obtain ⟨hob, hgb, hb1, sa⟩ := HOB.out
      have oW : Only [gb] wr w4 := hW.trans (o3.mono (by simp))
      have hlt := block_lt na'
      have hsz := oW.size
      have hsz2 := oa.size
      have hF : ScanO w R 0 s (.returned (.tuple #[.slice (some ⟨ob, 0, none⟩) 0 0, .int .i64 0, .int .i64 0])) w4 := by
        refine ⟨(hB1.trans ((oa.trans obb).below_of (by simp) (by omega))).trans (oW.below_of (fun c hc => by simp at hc; omega) (by have := obb.size; omega)), .inr ⟨fun i hi => absurd hi (by omega), ob, E, AlScan.st0, hsrt, AlScan.At.start s R 0 E (fun g hg => absurd hg (by omega)) hsrt.ordr, ⟨fun i hi => absurd hi (by omega), fun i hi => absurd hi (by omega), fun i hi => absurd hi (by omega), fun j => ?_⟩, by omega, by omega, rfl⟩⟩
        exact froz_keep hlt (frozen_of_row wr ob j _ _ na') oW (by simp <;> omega)
      have HF := Lib.hid hF
      clear HX hE1 hE2 hE3 hW hsrt hW4 o3 na' oa obb hob hgb hb1 sa oW hlt hsz hsz2 hF
      go_loopw [16, 101] (fun v u wq => u = .int .i64 0 ∧ v = .int .i64 0 ∧ wq = w4) (fun _ _ _ => 0)
      case atStart => exact ⟨rfl, rfl, rfl⟩
      case round =>
        obtain ⟨rfl, rfl, rfl⟩ := hrel
        go_wp2_with fail
        go_ret3
        exact HF.out
end Go.Proofs.Ytkejnhmhbmbhcaa.al
namespace Go.Proofs.Ytkejnhmhbmbhcaa.al
open Go Go.RowKit Go.BigFrame
open Go.Proofs.Ytkejnhmhbmbhcaa
def SpV (w : World) (lv : Value) (N : Nat) (s : AlScan.Sps) : Prop := ∃ o cap, lv = .slice o N cap ∧ (0 < N → ∃ bs off, o = some ⟨bs, off, none⟩ ∧ SpW w bs off N s)
theorem scan7_ok (lv : Value) (N R : Nat) (s : AlScan.Sps) (w : World) (h : SpV w lv N s) (hN : N ≤ 256) (hR : R ≤ 16) : Calls Try.prog 7 #[lv, .int .i64 (R : Int)] w (ScanO w R N s) := by
  obtain ⟨o, cap, rfl, h⟩ := h
  by_cases h0 : N = 0
  · subst h0
    exact scan7_zero o cap R s hR w
  · obtain ⟨bs, off, rfl, hs⟩ := h (by omega)
    exact scan7 bs off N cap R s (by omega) hN hR w hs
theorem SpV.below {w w' : World} {lv : Value} {N : Nat} {s : AlScan.Sps} (h : SpV w lv N s) (ho : Below w.heap.size w w') : SpV w' lv N s := by
  obtain ⟨o, cap, rfl, h⟩ := h
  refine ⟨o, cap, rfl, fun h0 => ?_⟩
  obtain ⟨bs, off, rfl, hs⟩ := h h0
  exact ⟨bs, off, rfl, hs.below (World.block_lt_of_cell? w ⟨bs, off + 0 * 3, none⟩ (hs.v 0 h0)) ho⟩
theorem within12 (n : Int) (h : Nat) (hh : h ≤ 1000) (w : World) : Calls Try.prog 12 #[.int .i64 n, .int .i64 0, .int .i64 (h : Int)] w fun e w' => (∃ q : Nat, q ≤ h ∧ e = .returned (.int .i64 (q : Int))) ∧ w' = w := by
  have t1 : -((h : Int) + 1) < n.tmod ((h : Int) + 1) := Int.lt_tmod_of_pos n (by omega)
  have t2 : n.tmod ((h : Int) + 1) < (h : Int) + 1 := Int.tmod_lt_of_pos n (by omega)
  obtain ⟨z, hz⟩ : ∃ z, n.tmod ((h : Int) + 1) = z := ⟨_, rfl⟩
  rw [hz] at t1 t2
  by_cases hn : z < 0
  · have d1 : decide (z < 0) = true := decide_eq_true hn
    go_enter Try.func12, Try.ntmps12
    go_wp2
    go_ret
    refine ⟨⟨(z + h + 1).toNat, by omega, ?_⟩, rfl⟩
    simp
    omega
  · have d1 : decide (z < 0) = false := decide_eq_false hn
    go_enter Try.func12, Try.ntmps12
    go_wp2
    go_ret
    refine ⟨⟨z.toNat, by omega, ?_⟩, rfl⟩
    simp
    omega
def spl (s : AlScan.Sps) : Nat → List Value
  | 0 => []
  | n + 1 => spl s n ++ [.int .i64 (s.V n), .int .i64 (s.F n), .int .i64 (s.T n)]
theorem spl_len (s : AlScan.Sps) : ∀ n, (spl s n).length = n * 3
  | 0 => rfl
  | n + 1 => by simp [spl, spl_len s n]; omega
theorem spl_at (s : AlScan.Sps) : ∀ n i, i < n → (spl s n)[i * 3]? = some (.int .i64 (s.V i)) ∧ (spl s n)[i * 3 + 1]? = some (.int .i64 (s.F i)) ∧ (spl s n)[i * 3 + 2]? = some (.int .i64 (s.T i))
  | n + 1, i, hi => by
    by_cases e : i = n
    · subst e
      have hl := spl_len s i
      refine ⟨?_, ?_, ?_⟩ <;> simp only [spl]
      · rw [List.getElem?_append_right (by omega), hl]; simp
      · rw [List.getElem?_append_right (by omega), hl]; simp
      · rw [List.getElem?_append_right (by omega), hl]; simp
    · have hl := spl_len s n
      obtain ⟨h1, h2, h3⟩ := spl_at s n i (by omega)
      refine ⟨?_, ?_, ?_⟩ <;> simp only [spl]
      · rw [List.getElem?_append_left (by omega)]; exact h1
      · rw [List.getElem?_append_left (by omega)]; exact h2
      · rw [List.getElem?_append_left (by omega)]; exact h3
end Go.Proofs.Ytkejnhmhbmbhcaa.al
namespace Go.Proofs.Ytkejnhmhbmbhcaa.al
open Go Go.RowKit Go.BigFrame
open Go.Proofs.Ytkejnhmhbmbhcaa
theorem w8 (n : Int) (w : World) : Calls Try.prog 12 #[.int .i64 n, .int .i64 0, .int .i64 8] w fun e w' => (∃ q : Nat, q ≤ 8 ∧ e = .returned (.int .i64 (q : Int))) ∧ w' = w := within12 n 8 (by omega) w
structure Fine (s : AlScan.Sps) (n : Nat) : Prop where
  v : ∀ i, i < n → s.V i = ((2 * i : Nat) : Int)
  f : ∀ i, i < n → 0 ≤ s.F i ∧ s.F i ≤ 60
  t : ∀ i, i < n → s.F i ≤ s.T i ∧ s.T i ≤ 80
theorem Fine.good {s : AlScan.Sps} {n : Nat} (h : Fine s n) : ∀ i, i < n → Good s i := fun i hi => ⟨(h.t i hi).1, (h.f i hi).1, fun h0 => by rw [h.v i hi, h.v (i - 1) (by omega)]; omega⟩
def snocS (s : AlScan.Sps) (n : Nat) (v f t : Int) : AlScan.Sps := ⟨AlScan.upd s.V n v, AlScan.upd s.F n f, AlScan.upd s.T n t⟩
theorem Fine.snoc {s : AlScan.Sps} {n q r : Nat} (h : Fine s n) (hq : q ≤ 60) (hr : r ≤ 20) : Fine (snocS s n ((2 * n : Nat) : Int) (q : Int) ((q : Int) + (r : Int))) (n + 1) := by
  refine ⟨fun i hi => ?_, fun i hi => ?_, fun i hi => ?_⟩ <;> simp only [snocS]
  all_goals
    by_cases e : i = n
    · subst e
      simp only [AlScan.upd_self]
      try omega
    · simp only [AlScan.upd_ne _ _ e]
      have h1 := h.v i (by omega)
      have h2 := h.f i (by omega)
      have h3 := h.t i (by omega)
      omega
end Go.Proofs.Ytkejnhmhbmbhcaa.al
