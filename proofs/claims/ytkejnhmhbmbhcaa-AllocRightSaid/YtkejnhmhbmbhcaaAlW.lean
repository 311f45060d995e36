/-
  alloc.Scan: what it refuses; no spans at all.
-/
import Derived.Test.YtkejnhmhbmbhcaaAlR
set_option maxHeartbeats 64000000
set_option maxRecDepth 1000000
set_option linter.unusedVariables false
set_option linter.unusedSimpArgs false
namespace Go.Proofs.Ytkejnhmhbmbhcaa.al
open Go Go.RowKit Go.BigFrame
open Go.Proofs.Ytkejnhmhbmbhcaa
theorem scan7_zero (o : Option Addr) (cap R : Nat) (s : AlScan.Sps) (hR : R ≤ 16) (w : World) :
    Calls Try.prog 7 #[.slice o 0 cap, .int .i64 (R : Int)] w (ScanO w R 0 s) := by
  have d1 : decide ((16 : Int) < (R : Int)) = false := by simp; omega
  have hm1 : ∀ w, (Instr.makeSlice 23 (.int .i64 0) (.int .i64 0)).run Try.prog w = .ok (.slice (some ⟨w.heap.size, 0, none⟩) 0 0) (w.alloc (.cells #[] 33)) := fun w => by have := mk23 0 (by omega) w; simpa [madeCells, Array.range_zero'] using this
  have hm2 : ∀ w, (Instr.makeSlice 37 (.int .i64 0) (.int .i64 0)).run Try.prog w = .ok (.slice (some ⟨w.heap.size, 0, none⟩) 0 0) (w.alloc (.cells #[] 3)) := fun w => by have := mk37 0 (by omega) w; simpa [madeCells, Array.range_zero'] using this
  go_enter Try.func7, Try.ntmps7
  go_wp2_with fail
  generalize hW1 : w.alloc (Obj.cells #[.slice o 0 cap] 22) = w1
  have c1 : w1.cell? ⟨w.heap.size, 0, none⟩ = some (.slice o 0 cap) := by rw [← hW1]; simp
  have hb1 : w.heap.size < w1.heap.size := by rw [← hW1]; simp
  have hB1 : Below w.heap.size w w1 := by rw [← hW1]; exact (Below.refl _ _).alloc (Nat.le_refl _) _
  clear hW1
  go_loopw [35] (fun u wq => u = .int .i64 0 ∧ wq = w1) (fun _ _ => 0)
  case atStart => exact ⟨rfl, rfl⟩
  case round =>
    obtain ⟨rfl, rfl⟩ := hrel
    go_wp2_with fail
    generalize hWA : wr.alloc (Obj.cells #[] 33) = wa
    generalize hWB : wa.alloc (Obj.cells #[] 3) = wb
    generalize hob : wr.heap.size = ob
    generalize hgb : ob + 1 = gb
    have na : wa.heap[ob]? = some (.cells #[] 33 (0, 0)) := by rw [← hWA, ← hob]; exact heap_alloc_new wr _
    have sa : wa.heap.size = gb := by rw [← hWA, ← hgb, ← hob]; simp
    have nb : wb.heap[gb]? = some (.cells #[] 3 (0, 0)) := by rw [← hWB, ← sa]; exact heap_alloc_new wa _
    have oa : Only [] wr wa := by rw [← hWA]; exact (Only.refl _ _).alloc _
    have obb : Only [] wa wb := by rw [← hWB]; exact (Only.refl _ _).alloc _
    have na' : wb.heap[ob]? = some (.cells #[] 33 (0, 0)) := (obb.same ob (by omega) (by simp)).trans na
    have hR1 : IRow wb gb 0 (fun _ => 0) := ⟨by simpa using nb⟩
    have hS1 : SpM wb w.heap.size 0 0 0 cap s := ⟨fun h => absurd h (by omega), fun i hi => absurd hi (by omega), fun i hi => absurd hi (by omega), fun i hi => absurd hi (by omega)⟩
    have cS := sort15 gb 0 w.heap.size 0 0 0 cap s _ (by omega) (by omega) (fun i hi => absurd hi (by omega)) (fun i j h1 h2 => absurd h2 (by omega)) wb hR1 hS1
    have CS := Lib.hid cS
    have c2 : wb.cell? ⟨w.heap.size, 0, none⟩ = some (.slice o 0 cap) := (World.cell?_of_block (a := ⟨w.heap.size, 0, none⟩) ((oa.trans obb).same _ (by omega) (by simp))).trans c1
    have HW := Lib.hid (And.intro na' (And.intro oa obb))
    have HOB := Lib.hid (And.intro hob (And.intro hgb (And.intro hb1 sa)))
    clear na na' sa nb oa obb hR1 hS1 cS hWA hWB hob hgb hm1 hm2 c1 hb1
    go_loopw [74] (fun u wq => u = .int .i64 0 ∧ wq = wb) (fun _ _ => 0)
    case atStart => exact ⟨rfl, rfl⟩
    case round =>
      obtain ⟨rfl, rfl⟩ := hrel
      go_wp2_with (go_at_call 15; (with_reducible refine CS.out.mono ?_); rintro ee w3 ⟨rfl, hX, hW⟩; have HX := Lib.hid (And.intro hX hW); clear hX hW)
      obtain ⟨⟨E, hE1, hE2, hE3⟩, hW⟩ := HX.out
      have hsrt : Srt s 0 E := ⟨AlSo.Same.refl _ _ _ |>.trans (by simpa using hE2), hE3⟩
      generalize hW4 : (((w3.alloc (Obj.cells #[.slice none 0 0, .func (.func 18) #[] #[ptr w.heap.size]] 51)).alloc (Obj.cells #[.slice none 0 0, .func (.func 19) #[] #[ptr w.heap.size]] 51)).alloc
            (Obj.cells #[.bool false, .bool false, .bool false, .bool false, .bool false, .bool false, .bool false, .bool false, .bool false, .bool false, .bool false, .bool false, .bool false, .bool false, .bool false, .bool false] 52)) = w4
      have o3 : Only [] w3 w4 := by rw [← hW4]; exact (((Only.refl _ _).alloc _).alloc _).alloc _
      obtain ⟨na', oa, obb⟩ := HW.out
      obtain ⟨hob, hgb, hb1, sa⟩ := HOB.out
      have oW : Only [gb] wr w4 := hW.trans (o3.mono (by simp))
      have hlt := block_lt na'
      have hsz := oW.size
      have hsz2 := oa.size
      have hF : ScanO w R 0 s (.returned (.tuple #[.slice (some ⟨ob, 0, none⟩) 0 0, .int .i64 0, .int .i64 0])) w4 := by
        refine ⟨(hB1.trans ((oa.trans obb).below_of (by simp) (by omega))).trans (oW.below_of (fun c hc => by simp at hc; omega) (by have := obb.size; omega)), .inr ⟨fun i hi => absurd hi (by omega), ob, E, AlScan.st0, hsrt, AlScan.At.start s R 0 E (fun g hg => absurd hg (by omega)) hsrt.ordr, ⟨fun i hi => absurd hi (by omega), fun i hi => absurd hi (by omega), fun i hi => absurd hi (by omega), fun j => ?_⟩, by omega, by omega, rfl⟩⟩
        exact froz_keep hlt (frozen_of_row wr ob j _ _ na') oW (by simp <;> omega)
      have HF := Lib.hid hF
      clear HX hE1 hE2 hE3 hW hsrt hW4 o3 na' oa obb hob hgb hb1 sa oW hlt hsz hsz2 hF
      go_loopw [16, 101] (fun v u wq => u = .int .i64 0 ∧ v = .int .i64 0 ∧ wq = w4) (fun _ _ _ => 0)
      case atStart => exact ⟨rfl, rfl, rfl⟩
      case round =>
        obtain ⟨rfl, rfl, rfl⟩ := hrel
        go_wp2_with fail
        go_ret3
        exact HF.out
end Go.Proofs.Ytkejnhmhbmbhcaa.al
namespace Go.Proofs.Ytkejnhmhbmbhcaa.al
open Go Go.RowKit Go.BigFrame
open Go.Proofs.Ytkejnhmhbmbhcaa
def SpV (w : World) (lv : Value) (N : Nat) (s : AlScan.Sps) : Prop := ∃ o cap, lv = .slice o N cap ∧ (0 < N → ∃ bs off, o = some ⟨bs, off, none⟩ ∧ SpW w bs off N s)
theorem scan7_ok (lv : Value) (N R : Nat) (s : AlScan.Sps) (w : World) (h : SpV w lv N s) (hN : N ≤ 256) (hR : R ≤ 16) : Calls Try.prog 7 #[lv, .int .i64 (R : Int)] w (ScanO w R N s) := by
  obtain ⟨o, cap, rfl, h⟩ := h
  by_cases h0 : N = 0
  · subst h0
    exact scan7_zero o cap R s hR w
  · obtain ⟨bs, off, rfl, hs⟩ := h (by omega)
    exact scan7 bs off N cap R s (by omega) hN hR w hs
theorem SpV.below {w w' : World} {lv : Value} {N : Nat} {s : AlScan.Sps} (h : SpV w lv N s) (ho : Below w.heap.size w w') : SpV w' lv N s := by
  obtain ⟨o, cap, rfl, h⟩ := h
  refine ⟨o, cap, rfl, fun h0 => ?_⟩
  obtain ⟨bs, off, rfl, hs⟩ := h h0
  exact ⟨bs, off, rfl, hs.below (World.block_lt_of_cell? w ⟨bs, off + 0 * 3, none⟩ (hs.v 0 h0)) ho⟩
theorem within12 (n : Int) (h : Nat) (hh : h ≤ 1000) (w : World) : Calls Try.prog 12 #[.int .i64 n, .int .i64 0, .int .i64 (h : Int)] w fun e w' => (∃ q : Nat, q ≤ h ∧ e = .returned (.int .i64 (q : Int))) ∧ w' = w := by
  have t1 : -((h : Int) + 1) < n.tmod ((h : Int) + 1) := Int.lt_tmod_of_pos n (by omega)
  have t2 : n.tmod ((h : Int) + 1) < (h : Int) + 1 := Int.tmod_lt_of_pos n (by omega)
  obtain ⟨z, hz⟩ : ∃ z, n.tmod ((h : Int) + 1) = z := ⟨_, rfl⟩
  rw [hz] at t1 t2
  by_cases hn : z < 0
  · have d1 : decide (z < 0) = true := decide_eq_true hn
    go_enter Try.func12, Try.ntmps12
    go_wp2
    go_ret
    refine ⟨⟨(z + h + 1).toNat, by omega, ?_⟩, rfl⟩
    simp
    omega
  · have d1 : decide (z < 0) = false := decide_eq_false hn
    go_enter Try.func12, Try.ntmps12
    go_wp2
    go_ret
    refine ⟨⟨z.toNat, by omega, ?_⟩, rfl⟩
    simp
    omega
def spl (s : AlScan.Sps) : Nat → List Value
  | 0 => []
  | n + 1 => spl s n ++ [.int .i64 (s.V n), .int .i64 (s.F n), .int .i64 (s.T n)]
theorem spl_len (s : AlScan.Sps) : ∀ n, (spl s n).length = n * 3
  | 0 => rfl
  | n + 1 => by simp [spl, spl_len s n]; omega
theorem spl_congr {s s' : AlScan.Sps} : ∀ n, (∀ i, i < n → s.V i = s'.V i ∧ s.F i = s'.F i ∧ s.T i = s'.T i) → spl s n = spl s' n
  | 0, _ => rfl
  | n + 1, h => by
    obtain ⟨h1, h2, h3⟩ := h n (by omega)
    simp only [spl, spl_congr n (fun i hi => h i (by omega)), h1, h2, h3]
theorem spl_at (s : AlScan.Sps) : ∀ n i, i < n → (spl s n)[i * 3]? = some (.int .i64 (s.V i)) ∧ (spl s n)[i * 3 + 1]? = some (.int .i64 (s.F i)) ∧ (spl s n)[i * 3 + 2]? = some (.int .i64 (s.T i))
  | n + 1, i, hi => by
    by_cases e : i = n
    · subst e
      have hl := spl_len s i
      refine ⟨?_, ?_, ?_⟩ <;> simp only [spl]
      · rw [List.getElem?_append_right (by omega), hl]; simp
      · rw [List.getElem?_append_right (by omega), hl]; simp
      · rw [List.getElem?_append_right (by omega), hl]; simp
    · have hl := spl_len s n
      obtain ⟨h1, h2, h3⟩ := spl_at s n i (by omega)
      refine ⟨?_, ?_, ?_⟩ <;> simp only [spl]
      · rw [List.getElem?_append_left (by omega)]; exact h1
      · rw [List.getElem?_append_left (by omega)]; exact h2
      · rw [List.getElem?_append_left (by omega)]; exact h3
theorem own_spv {w : World} {B n : Nat} {v : Value} {s : AlScan.Sps} (h : w.ownsRow B 41 3 v n (spl s n)) : SpV w v n s := by
  rcases h.2 with ⟨rfl, rfl⟩ | ⟨g, cap, cur, rfl, hx⟩
  · exact ⟨none, 0, rfl, fun h => absurd h (by omega)⟩
  · refine ⟨_, cap, rfl, fun h0 => ⟨g, 0, rfl, fun i hi => ?_, fun i hi => ?_, fun i hi => ?_⟩⟩
    · rw [Nat.zero_add, h.cellAt _ (by omega)]; exact (spl_at s n i hi).1
    · rw [Nat.zero_add, h.cellAt _ (by omega)]; exact (spl_at s n i hi).2.1
    · rw [Nat.zero_add, h.cellAt _ (by omega)]; exact (spl_at s n i hi).2.2
end Go.Proofs.Ytkejnhmhbmbhcaa.al
namespace Go.Proofs.Ytkejnhmhbmbhcaa.al
open Go Go.RowKit Go.BigFrame
open Go.Proofs.Ytkejnhmhbmbhcaa
theorem info41 : (Try.prog.info? 41).map (fun i => (i.zero, i.size, i.bytes)) = some (some (.agg #[.int .i64 0, .int .i64 0, .int .i64 0]), 3, 24) := by kernel_rfl
theorem w60 (n : Int) (w : World) : Calls Try.prog 12 #[.int .i64 n, .int .i64 0, .int .i64 60] w fun e w' => (∃ q : Nat, q ≤ 60 ∧ e = .returned (.int .i64 (q : Int))) ∧ w' = w := within12 n 60 (by omega) w
theorem w20 (n : Int) (w : World) : Calls Try.prog 12 #[.int .i64 n, .int .i64 0, .int .i64 20] w fun e w' => (∃ q : Nat, q ≤ 20 ∧ e = .returned (.int .i64 (q : Int))) ∧ w' = w := within12 n 20 (by omega) w
theorem w16 (n : Int) (w : World) : Calls Try.prog 12 #[.int .i64 n, .int .i64 0, .int .i64 16] w fun e w' => (∃ q : Nat, q ≤ 16 ∧ e = .returned (.int .i64 (q : Int))) ∧ w' = w := within12 n 16 (by omega) w
theorem w8 (n : Int) (w : World) : Calls Try.prog 12 #[.int .i64 n, .int .i64 0, .int .i64 8] w fun e w' => (∃ q : Nat, q ≤ 8 ∧ e = .returned (.int .i64 (q : Int))) ∧ w' = w := within12 n 8 (by omega) w
structure Fine (s : AlScan.Sps) (n : Nat) : Prop where
  v : ∀ i, i < n → s.V i = ((2 * i : Nat) : Int)
  f : ∀ i, i < n → 0 ≤ s.F i ∧ s.F i ≤ 60
  t : ∀ i, i < n → s.F i ≤ s.T i ∧ s.T i ≤ 80
theorem Fine.good {s : AlScan.Sps} {n : Nat} (h : Fine s n) : ∀ i, i < n → Good s i := fun i hi => ⟨(h.t i hi).1, (h.f i hi).1, fun h0 => by rw [h.v i hi, h.v (i - 1) (by omega)]; omega⟩
def snocS (s : AlScan.Sps) (n : Nat) (v f t : Int) : AlScan.Sps := ⟨AlScan.upd s.V n v, AlScan.upd s.F n f, AlScan.upd s.T n t⟩
theorem spl_snoc (s : AlScan.Sps) (n : Nat) (v f t : Int) : spl s n ++ [.int .i64 v, .int .i64 f, .int .i64 t] = spl (snocS s n v f t) (n + 1) := by
  show _ = spl (snocS s n v f t) n ++ _
  rw [spl_congr (s := snocS s n v f t) (s' := s) n (fun i hi => ⟨AlScan.upd_ne _ _ (by omega), AlScan.upd_ne _ _ (by omega), AlScan.upd_ne _ _ (by omega)⟩)]
  simp only [snocS, AlScan.upd_self]
theorem Fine.snoc {s : AlScan.Sps} {n q r : Nat} (h : Fine s n) (hq : q ≤ 60) (hr : r ≤ 20) : Fine (snocS s n ((2 * n : Nat) : Int) (q : Int) ((q : Int) + (r : Int))) (n + 1) := by
  refine ⟨fun i hi => ?_, fun i hi => ?_, fun i hi => ?_⟩ <;> simp only [snocS]
  all_goals
    by_cases e : i = n
    · subst e
      simp only [AlScan.upd_self]
      try omega
    · simp only [AlScan.upd_ne _ _ e]
      have h1 := h.v i (by omega)
      have h2 := h.f i (by omega)
      have h3 := h.t i (by omega)
      omega
theorem fine11 (o : Option Addr) (N cap : Nat) (X : Nat → Int) (w : World) (h : 0 < N → ∃ g off, o = some ⟨g, off, none⟩ ∧ ∀ i, i < N → w.cell? ⟨g, off + i, none⟩ = some (.int .i64 (X i))) :
    Calls Try.prog 11 #[.slice o N cap] w fun e w' => Below w.heap.size w w' ∧ ∃ lv n s, n ≤ 40 ∧ SpV w' lv n s ∧ Fine s n ∧ e = .returned lv := by
  obtain ⟨i41, hi41, hz0, hz1, hz2⟩ := info_parts info41
  have H := Lib.hid h
  clear h
  go_enter Try.func11, Try.ntmps11
  go_wp2_with fail
  go_loopw [3, 4] (fun v u wq => ∃ n : Nat, n ≤ 40 ∧ u = .int .i64 ((2 * n : Nat) : Int) ∧ Hid (∃ s, wq.ownsRow w.heap.size 41 3 v n (spl s n) ∧ Fine s n ∧ Below w.heap.size w wq)) (fun _ u _ => 100 - (intOf u).toNat)
  case atStart => exact ⟨0, by omega, rfl, Lib.hid ⟨⟨fun _ => 0, fun _ => 0, fun _ => 0⟩, ⟨rfl, .inl ⟨rfl, rfl⟩⟩, ⟨fun i hi => absurd hi (by omega), fun i hi => absurd hi (by omega), fun i hi => absurd hi (by omega)⟩, Below.refl _ _⟩⟩
  case round =>
    obtain ⟨n, hn, rfl, hM⟩ := hrel
    obtain ⟨s, hown, hf, hb⟩ := hM.out
    obtain ⟨ov, cv, hv⟩ : ∃ o c, u3 = .slice o n c := by
      rcases hown.2 with ⟨rfl, rfl⟩ | ⟨g, cp, cur, rfl, _⟩
      · exact ⟨none, 0, rfl⟩
      · exact ⟨_, cp, rfl⟩
    subst hv
    obtain ⟨i, hi⟩ : ∃ i, 2 * n = i := ⟨_, rfl⟩
    simp only [hi]
    have hi80 : i ≤ 80 := by omega
    by_cases c1 : i + 1 < N
    · have b1 : (i : Int) + 1 < (N : Int) := by omega
      have b1' : (i : Int) < (N : Int) := by omega
      obtain ⟨g, off, rfl, hc⟩ := H.out (by omega)
      by_cases c2 : n < 40
      · have d2 : decide ((n : Int) < 40) = true := by simp; omega
        have d2' : decide (n < 40) = true := by simp; omega
        have x1 := hc i (by omega)
        have x2 := hc (i + 1) c1
        have hlt : g < w.heap.size := World.block_lt_of_cell? w _ x1
        have y1 : wr.cell? ⟨g, off + i, none⟩ = some (.int .i64 (X i)) := (World.cell?_of_block (a := ⟨g, _, none⟩) (hb.block g hlt)).trans x1
        have y2 : wr.cell? ⟨g, off + (i + 1), none⟩ = some (.int .i64 (X (i + 1))) := (World.cell?_of_block (a := ⟨g, _, none⟩) (hb.block g hlt)).trans x2
        have HI := Lib.hid hi
        have HP := Lib.hid (And.intro hf hb)
        have hszb := hb.size
        clear hM hf hb hc x1 x2 hi c1
        go_wp2_with (first
          | (go_at_call 12; (with_reducible refine (w60 _ _).mono ?_); rintro ee w1 ⟨⟨q, hq, rfl⟩, rfl⟩)
          | (go_at_call 12; (with_reducible refine (w20 _ _).mono ?_); rintro ee w1 ⟨⟨q2, hq2, rfl⟩, rfl⟩)
          | (at_builtin; refine wpList_append_lies _ rfl _ _ 22 rfl w.heap.size 41 i41 _ 3 24 Try.underlying22 hi41 hz0 hz1 hz2 rfl (by decide) _ _ _ rfl (hown.alloc _) ⟨_, 0, none⟩ 1 1 [.int .i64 (i : Int), .int .i64 (q : Int), .int .i64 ((q : Int) + (q2 : Int))] rfl rfl (World.news_of_block (heap_alloc_new _ _)) (by simp [Value.oneCell']) (by omega) (by unfold maxLen; omega) (by omega) (by simp; omega) _ rfl ?_; intro gg cp2 w2 hown2 hgrow2 hat hlt2))
        have hbel := (HP.out.2.alloc HP.out.2.size _).grown hgrow2 (by simp; omega) (fun j hj => (hown.lt j hj).1)
        refine ⟨⟨n + 1, by omega, by rw [← HI.out]; congr 1 <;> omega, Lib.hid ⟨snocS s n ((2 * n : Nat) : Int) (q : Int) ((q : Int) + (q2 : Int)), ?_, HP.out.1.snoc hq hq2, hbel⟩⟩, by simp [intOf]; omega⟩
        rw [← spl_snoc, HI.out]
        exact hown2
      · have d2 : decide ((n : Int) < 40) = false := by simp; omega
        have d2' : decide (n < 40) = false := by simp; omega
        have HF := Lib.hid (And.intro hb (own_spv hown))
        have HF2 := Lib.hid hf
        clear hM hf hb hown hi
        go_wp2_with fail
        go_ret
        exact ⟨HF.out.1, _, n, s, hn, HF.out.2, HF2.out, rfl⟩
    · have b1 : ¬ (i : Int) + 1 < (N : Int) := by omega
      have HF := Lib.hid (And.intro hb (own_spv hown))
      have HF2 := Lib.hid hf
      clear hM hf hb hown hi
      go_wp2_with fail
      go_ret
      first | exact ⟨HF.out.1, _, n, hn, s, HF.out.2, HF2.out, rfl⟩ | exact ⟨HF.out.1, _, n, s, hn, HF.out.2, HF2.out, rfl⟩
end Go.Proofs.Ytkejnhmhbmbhcaa.al
