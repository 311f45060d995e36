/-
  caraferef21.Check answers what ir.Check does.
-/
import Derived.Test.YtondggcbldnhcaaGreatIrCk
import Derived.Test.YtondggcbldnhcaaGreatIrRd2
import Derived.Deep.Cut
import Derived.Deep.QuietTactic
import Derived.BigQuiet
namespace Go.Proofs.YtondggcbldnhcaaGreat.irx
open Go Go.RowKit
open Go.Proofs.YtondggcbldnhcaaGreat
set_option linter.unusedVariables false
set_option linter.unusedSimpArgs false
def rr (op ds a b n : Int) : List Int := rl2 op a b n ++ (if wr op = true then [ds] else [])
theorem fine_rr (R : Int) (len : Nat) (op ds a b n to : Int) (h1 : 1 ≤ op) (h9 : op ≤ 9) (hs : op = 6 → second n = rdB 6 n) : fine R len op ds a b n to = (allIn R (rr op ds a b n) && (!(decide (op = 5) || decide (op = 6)) || inR len to)) := by
  have : op = 1 ∨ op = 2 ∨ op = 3 ∨ op = 4 ∨ op = 5 ∨ op = 6 ∨ op = 7 ∨ op = 8 ∨ op = 9 := by omega
  rcases this with rfl | rfl | rfl | rfl | rfl | rfl | rfl | rfl | rfl
  all_goals (try have hs := hs rfl)
  all_goals (first | (cases hb : rdB 6 n <;> rw [hb] at hs <;> simp [fine, rr, rl2, rdA, hs, hb, allIn, irx.wr]; done) | simp [fine, rr, rl2, rdA, rdB, allIn, irx.wr])
  all_goals (cases inR R a <;> cases inR R b <;> cases inR R ds <;> cases inR len to <;> simp)
theorem second_why {n : Int} (h : why ar 6 n = 0) : second n = rdB 6 n := by
  have hn : 153 ≤ n ∧ n ≤ 164 := by
    have h' : (test n 1 1).2 = 0 := by simpa [why, ar] using h
    unfold test at h'
    split at h'
    · omega
    · split at h'
      · omega
      · simp at h'
  simp [second, rdB]; omega
theorem right_ref (R : Int) (len : Nat) (op ds a b n to : Int) (h1 : 1 ≤ op) (h9 : op ≤ 9) : right ar R len op ds a b n to =
    if why ar op n = 0 ∧ allIn R (rr op ds a b n) = true ∧ ((op = 5 ∨ op = 6) → inR len to = true) then 0 else 1 := by
  unfold right
  rw [if_neg (by omega)]
  by_cases hw : why ar op n = 0
  · rw [fine_rr R len op ds a b n to h1 h9 (fun h => by subst h; exact second_why hw)]
    cases hA : allIn R (rr op ds a b n)
    · simp
    · by_cases hj : op = 5 ∨ op = 6
      · cases hi : inR len to <;> rcases hj with rfl | rfl <;> simp [hw]
      · have h5 : op ≠ 5 := fun h => hj (.inl h)
        have h6 : op ≠ 6 := fun h => hj (.inr h)
        simp [hw, h5, h6]
  · rw [if_pos (.inr hw), if_neg (fun h => hw h.1)]
theorem rl2_le (op a b n : Int) : (rl2 op a b n).length ≤ 2 := by
  unfold rl2
  split
  · simp
  · split
    · split <;> simp
    · split <;> simp
theorem rr_le (op ds a b n : Int) : (rr op ds a b n).length ≤ 3 := by
  have := rl2_le op a b n
  unfold rr
  rw [List.length_append]
  split <;> simp <;> omega
theorem i32one : I32 1 := by unfold I32; omega

set_option maxHeartbeats 1600000 in
set_option maxRecDepth 1000000 in
theorem check10_h0 (P R : Int) (cad : Option Addr) (len cap : Nat) (hh : R < 0) (w : World) : Calls Tryz.prog 10 #[fval P R cad len cap] w fun e w' => e = .returned (.int .i64 1) ∧ Below w.heap.size w w' := by
  go_enter Tryz.func10, Tryz.ntmps10
  go_wp2
  go_ret
  exact ⟨rfl, (Below.refl _ _).alloc (Nat.le_refl _) _⟩
set_option maxHeartbeats 1600000 in
set_option maxRecDepth 1000000 in
theorem check10_h1 (P R : Int) (cad : Option Addr) (len cap : Nat) (h1 : 0 ≤ R) (hh : 34 < R) (w : World) : Calls Tryz.prog 10 #[fval P R cad len cap] w fun e w' => e = .returned (.int .i64 1) ∧ Below w.heap.size w w' := by
  go_enter Tryz.func10, Tryz.ntmps10
  go_wp2
  go_ret
  exact ⟨rfl, (Below.refl _ _).alloc (Nat.le_refl _) _⟩
set_option maxHeartbeats 1600000 in
set_option maxRecDepth 1000000 in
theorem check10_h2 (P R : Int) (cad : Option Addr) (len cap : Nat) (h1 : 0 ≤ R) (h2 : R ≤ 34) (hh : P < 0) (w : World) : Calls Tryz.prog 10 #[fval P R cad len cap] w fun e w' => e = .returned (.int .i64 1) ∧ Below w.heap.size w w' := by
  go_enter Tryz.func10, Tryz.ntmps10
  go_wp2
  go_ret
  exact ⟨rfl, (Below.refl _ _).alloc (Nat.le_refl _) _⟩
set_option maxHeartbeats 1600000 in
set_option maxRecDepth 1000000 in
theorem check10_h3 (P R : Int) (cad : Option Addr) (len cap : Nat) (h1 : 0 ≤ R) (h2 : R ≤ 34) (h3 : 0 ≤ P) (hh : R < P) (w : World) : Calls Tryz.prog 10 #[fval P R cad len cap] w fun e w' => e = .returned (.int .i64 1) ∧ Below w.heap.size w w' := by
  go_enter Tryz.func10, Tryz.ntmps10
  go_wp2
  go_ret
  exact ⟨rfl, (Below.refl _ _).alloc (Nat.le_refl _) _⟩
set_option maxHeartbeats 40000000 in
set_option maxRecDepth 1000000 in
theorem check10_ok (P R : Int) (len : Nat) (op ds a b n to : Nat → Int) (cad : Option Addr) (cap : Nat) (w : World) (hlen : len ≤ 60) (hh : head ⟨P, R, len, op, ds, a, b, n, to⟩ = false) (hN : Nice ⟨P, R, len, op, ds, a, b, n, to⟩) (hc : Code_ w w.heap.size cad ⟨P, R, len, op, ds, a, b, n, to⟩) :
    Calls Tryz.prog 10 #[fval P R cad len cap] w fun e w' => e = .returned (.int .i64 (chk ar ⟨P, R, len, op, ds, a, b, n, to⟩)) ∧ Below w.heap.size w w' := by
  obtain ⟨i0, hi, hz0, hz1, hz2⟩ := info_parts info3
  have hck : chk ar ⟨P, R, len, op, ds, a, b, n, to⟩ = if firstBad (rightAt ar ⟨P, R, len, op, ds, a, b, n, to⟩) len ≠ 0 then firstBad (rightAt ar ⟨P, R, len, op, ds, a, b, n, to⟩) len else if len = 0 then 17
      else if op (len - 1) = 5 ∨ op (len - 1) = 7 ∨ op (len - 1) = 8 then 0 else 17 := by
    unfold chk; rw [hh]; simp
  generalize hres0 : chk ar ⟨P, R, len, op, ds, a, b, n, to⟩ = res at hck ⊢
  have hN' : ∀ k, wrap64 (n k) = n k := hN
  have hra : ∀ k, right ar R len (op k) (ds k) (a k) (b k) (n k) (to k) = rightAt ar ⟨P, R, len, op, ds, a, b, n, to⟩ k := fun k => rfl
  generalize hf : rightAt ar ⟨P, R, len, op, ds, a, b, n, to⟩ = f at hra hck
  have hres : Hid (res = if firstBad f len ≠ 0 then firstBad f len else if len = 0 then 17 else if op (len - 1) = 5 ∨ op (len - 1) = 7 ∨ op (len - 1) = 8 then 0 else 17) := hck
  clear hck hres0 hf
  simp only [head, Bool.or_eq_false_iff, decide_eq_false_iff_not] at hh
  obtain ⟨⟨⟨⟨q1, q2⟩, q3⟩, q4⟩, q5⟩ := hh
  have hB0 : Below w.heap.size w (w.alloc (.cells #[.int .i64 P, .int .i64 R, .slice cad len cap] 29)) := (Below.refl _ _).alloc (Nat.le_refl _) _
  have hF0 : (w.alloc (.cells #[.int .i64 P, .int .i64 R, .slice cad len cap] 29)).heap[w.heap.size]? = some (.cells #[.int .i64 P, .int .i64 R, .slice cad len cap] 29 (0, 0)) := heap_alloc_new w _
  have hS0 : (w.alloc (.cells #[.int .i64 P, .int .i64 R, .slice cad len cap] 29)).heap.size = w.heap.size + 1 := by simp
  go_enter Tryz.func10, Tryz.ntmps10
  go_wp2
  clear q1 q2 q3 q4 q5
  go_loopw [3] (fun i wr => ∃ k : Nat, k ≤ len ∧ i = .int .i64 k ∧ Below w.heap.size w wr ∧ wr.heap[w.heap.size]? = some (.cells #[.int .i64 P, .int .i64 R, .slice cad len cap] 29 (0, 0)) ∧ w.heap.size + 1 ≤ wr.heap.size ∧ Hid (firstBad f k = 0))
    (fun i _ => len - (intOf i).toNat)
  case atStart => exact ⟨0, Nat.zero_le _, rfl, hB0, hF0, by omega, rfl⟩
  case round =>
    obtain ⟨k, hk, rfl, hbl, hF1, hS1, hfb⟩ := hrel
    clear hB0 hF0 hS0
    have hx2 : wr.cell? ⟨w.heap.size, 2, none⟩ = some (.slice cad len cap) := by simp [World.cell?, hF1]
    by_cases hk1 : k < len
    · obtain ⟨cb, off, he, hb, hat⟩ := hc k hk1
      subst he
      obtain ⟨d0, d1, d2, d3, d4, d5⟩ := hat.mono hbl hb
      have hFa : (wr.alloc (.cells #[.int .i64 (op k), .int .i64 (ds k), .int .i64 (a k), .int .i64 (b k), .int .i32 (n k), .int .i64 (to k)] 45)).heap[w.heap.size]? = some (.cells #[.int .i64 P, .int .i64 R, .slice (some ⟨cb, off, none⟩) len cap] 29 (0, 0)) := by rw [Below.heap_alloc _ _ _ (by omega)]; exact hF1
      have hIa : (wr.alloc (.cells #[.int .i64 (op k), .int .i64 (ds k), .int .i64 (a k), .int .i64 (b k), .int .i32 (n k), .int .i64 (to k)] 45)).heap[wr.heap.size]? = some (.cells #[.int .i64 (op k), .int .i64 (ds k), .int .i64 (a k), .int .i64 (b k), .int .i32 (n k), .int .i64 (to k)] 45 (0, 0)) := heap_alloc_new _ _
      have hba : Below w.heap.size w (wr.alloc (.cells #[.int .i64 (op k), .int .i64 (ds k), .int .i64 (a k), .int .i64 (b k), .int .i32 (n k), .int .i64 (to k)] 45)) := hbl.alloc (by omega) _
      have hsa : (wr.alloc (.cells #[.int .i64 (op k), .int .i64 (ds k), .int .i64 (a k), .int .i64 (b k), .int .i32 (n k), .int .i64 (to k)] 45)).heap.size = wr.heap.size + 1 := by simp
      go_upto_region 7 with fail
      generalize (wr.alloc (.cells #[.int .i64 (op k), .int .i64 (ds k), .int .i64 (a k), .int .i64 (b k), .int .i32 (n k), .int .i64 (to k)] 45)) = wa at *
      generalize wr.heap.size = I at *
      clear d0 d1 d2 d3 d4 d5 hx2 hbl hF1 hat hc hN
      have hfk0 := hra k
      have hNk := hN' k
      clear hra hN'
      generalize hop : op k = o at *
      clear hop
      have wf1 : wa.cell? ⟨w.heap.size, 1, none⟩ = some (.int .i64 R) := (by simp [World.cell?, hFa])
      have wf2 : wa.cell? ⟨w.heap.size, 2, none⟩ = some (.slice (some ⟨cb, off, none⟩) len cap) := (by simp [World.cell?, hFa])
      have wi0 : wa.cell? ⟨I, 0, none⟩ = some (.int .i64 o) := (by simp [World.cell?, hIa])
      have wi1 : wa.cell? ⟨I, 1, none⟩ = some (.int .i64 (ds k)) := (by simp [World.cell?, hIa])
      have wi2 : wa.cell? ⟨I, 2, none⟩ = some (.int .i64 (a k)) := (by simp [World.cell?, hIa])
      have wi3 : wa.cell? ⟨I, 3, none⟩ = some (.int .i64 (b k)) := (by simp [World.cell?, hIa])
      have wi4 : wa.cell? ⟨I, 4, none⟩ = some (.int .i32 (n k)) := (by simp [World.cell?, hIa])
      have wi5 : wa.cell? ⟨I, 5, none⟩ = some (.int .i64 (to k)) := (by simp [World.cell?, hIa])
      by_cases hv : o < 1
      · have hfk : f k = 15 := by rw [← hfk0]; unfold right; rw [if_pos (by omega)]
        go_wp2
        go_ret
        have e1 : firstBad f (k + 1) = f k := by simp only [firstBad]; rw [hfb.out]; simp
        have e2 : firstBad f len = f k := by rw [firstBad_stop (by rw [e1, hfk]; decide) len (by omega), e1]
        have e3 : res = f k := by rw [hres.out, e2, if_pos (by rw [hfk]; decide)]
        exact ⟨by rw [e3, hfk]; rfl, hba⟩
      · have hv' : 1 ≤ o := by omega
        by_cases hv9 : 9 < o
        · have hfk : f k = 15 := by rw [← hfk0]; unfold right; rw [if_pos (by omega)]
          go_wp2
          go_ret
          have e1 : firstBad f (k + 1) = f k := by simp only [firstBad]; rw [hfb.out]; simp
          have e2 : firstBad f len = f k := by rw [firstBad_stop (by rw [e1, hfk]; decide) len (by omega), e1]
          have e3 : res = f k := by rw [hres.out, e2, if_pos (by rw [hfk]; decide)]
          exact ⟨by rw [e3, hfk]; rfl, hba⟩
        · have hv9' : o ≤ 9 := by omega
          have hfk1 := hfk0.symm.trans (right_ref R len o (ds k) (a k) (b k) (n k) (to k) hv' hv9')
          clear hfk0
          have hor : o = 1 ∨ o = 2 ∨ o = 3 ∨ o = 4 ∨ o = 5 ∨ o = 6 ∨ o = 7 ∨ o = 8 ∨ o = 9 := by omega
          rcases hor with rfl | rfl | rfl | rfl | rfl | rfl | rfl | rfl | rfl
          · as_aux_lemma =>
              have hwr : irx.wr 1 = true := by decide
              by_cases hd0 : 0 ≤ ds k
              · go_wp2_with (first | (go_at_call 22; refine (reads22 1 (ds k) (a k) (b k) (n k) (to k) _).mono ?_; rintro e w2 ⟨v2, rfl, hown2, hb2⟩; have hF2 := (hb2.block w.heap.size (by omega)).trans hFa; have hI2 := (hb2.block I (by omega)).trans hIa; have hs2 := hb2.size; have xf1 : w2.cell? ⟨w.heap.size, 1, none⟩ = some (.int .i64 R) := (by simp [World.cell?, hF2]); have xf2 : w2.cell? ⟨w.heap.size, 2, none⟩ = some (.slice (some ⟨cb, off, none⟩) len cap) := (by simp [World.cell?, hF2]); have xi0 : w2.cell? ⟨I, 0, none⟩ = some (.int .i64 1) := (by simp [World.cell?, hI2]); have xi1 : w2.cell? ⟨I, 1, none⟩ = some (.int .i64 (ds k)) := (by simp [World.cell?, hI2]); have xi2 : w2.cell? ⟨I, 2, none⟩ = some (.int .i64 (a k)) := (by simp [World.cell?, hI2]); have xi3 : w2.cell? ⟨I, 3, none⟩ = some (.int .i64 (b k)) := (by simp [World.cell?, hI2]); have xi4 : w2.cell? ⟨I, 4, none⟩ = some (.int .i32 (n k)) := (by simp [World.cell?, hI2]); have xi5 : w2.cell? ⟨I, 5, none⟩ = some (.int .i64 (to k)) := (by simp [World.cell?, hI2])) | (go_at_call 23; refine (writes23 1 (ds k) (a k) (b k) (n k) (to k) _).mono ?_; rintro e w3 ⟨rfl, hb3⟩; rw [hwr]; have hF3 := (hb3.block w.heap.size (by omega)).trans hF2; have hI3 := (hb3.block I (by omega)).trans hI2; have hs3 := hb3.size; have hown3 := own_below hown2 hb3; have yf1 : w3.cell? ⟨w.heap.size, 1, none⟩ = some (.int .i64 R) := (by simp [World.cell?, hF3]); have yf2 : w3.cell? ⟨w.heap.size, 2, none⟩ = some (.slice (some ⟨cb, off, none⟩) len cap) := (by simp [World.cell?, hF3]); have yi0 : w3.cell? ⟨I, 0, none⟩ = some (.int .i64 1) := (by simp [World.cell?, hI3]); have yi1 : w3.cell? ⟨I, 1, none⟩ = some (.int .i64 (ds k)) := (by simp [World.cell?, hI3]); have yi2 : w3.cell? ⟨I, 2, none⟩ = some (.int .i64 (a k)) := (by simp [World.cell?, hI3]); have yi3 : w3.cell? ⟨I, 3, none⟩ = some (.int .i64 (b k)) := (by simp [World.cell?, hI3]); have yi4 : w3.cell? ⟨I, 4, none⟩ = some (.int .i32 (n k)) := (by simp [World.cell?, hI3]); have yi5 : w3.cell? ⟨I, 5, none⟩ = some (.int .i64 (to k)) := (by simp [World.cell?, hI3])) | (at_builtin; refine wpList_append_own _ rfl _ _ 60 rfl (wa.heap.size + 1) 3 i0 (.int .i64 0) 1 8 Tryz.underlying60 hi hz0 hz1 hz2 rfl (by decide) _ _ _ rfl (hown3.alloc _) ⟨w3.heap.size, 0, none⟩ 1 1 [.int .i64 (ds k)] rfl rfl (new1 _ _ _) (one1 _) (by have := rl2_le 1 (a k) (b k) (n k); unfold maxLen; omega) (by have := rl2_le 1 (a k) (b k) (n k); omega) (by simp; omega) ?_; intro v4 w4 hown4 hgrow4 _))
                have hgb : Below wa.heap.size wa w4 := (((hb2.trans (hb3.mono hs2)).alloc (by omega) _).grown hgrow4 (by simp; omega) (fun j hj => by have := (hown3.lt j hj).1; omega))
                have hownz : w4.ownsRow (wa.heap.size + 1) 3 1 v4 (rr 1 (ds k) (a k) (b k) (n k)).length (ints (rr 1 (ds k) (a k) (b k) (n k))) := by
                  have e : rr 1 (ds k) (a k) (b k) (n k) = rl2 1 (a k) (b k) (n k) ++ [ds k] := by unfold rr; rw [hwr]; rfl
                  rw [e, ints_snoc, List.length_append]; simpa using hown4
                clear hown4 hgrow4 hown3 hown2
                generalize w4 = wz at *
                generalize v4 = vz at *
                obtain ⟨rad, rcap, hrv, hrow⟩ := row_get hownz
                have hll := rr_le 1 (ds k) (a k) (b k) (n k)
                have hsz := hgb.size
                have hFz := (hgb.block w.heap.size (by omega)).trans hFa
                have hIz := (hgb.block I (by omega)).trans hIa
                have hbz := hba.trans (hgb.mono (by omega))
                subst hrv
                generalize rr 1 (ds k) (a k) (b k) (n k) = l at *
                clear hownz hgb hb2 hb3 hF2 hI2 hF3 hI3 hs2 hs3 hFa hIa hba
                go_loopw [5, 7] (fun ev j wq => ∃ q : Nat, q ≤ l.length ∧ j = .int .i64 q ∧ ev = .int .i64 (if allIn R (l.take q) = true then 0 else 1) ∧ Below wz.heap.size wz wq)
                  (fun _ j _ => l.length - (intOf j).toNat)
                case atStart => exact ⟨0, Nat.zero_le _, rfl, by simp [allIn], Below.refl _ _⟩
                case round =>
                  obtain ⟨q, hq, rfl, rfl, hbq⟩ := hrel
                  have hFq := (hbq.block w.heap.size (by omega)).trans hFz
                  have hIq := (hbq.block I (by omega)).trans hIz
                  have hbw := hbz.trans (hbq.mono (by omega))
                  have hsq := hbq.size
                  have zf1 : wr.cell? ⟨w.heap.size, 1, none⟩ = some (.int .i64 R) := (by simp [World.cell?, hFq])
                  have zf2 : wr.cell? ⟨w.heap.size, 2, none⟩ = some (.slice (some ⟨cb, off, none⟩) len cap) := (by simp [World.cell?, hFq])
                  have zi0 : wr.cell? ⟨I, 0, none⟩ = some (.int .i64 1) := (by simp [World.cell?, hIq])
                  have zi1 : wr.cell? ⟨I, 1, none⟩ = some (.int .i64 (ds k)) := (by simp [World.cell?, hIq])
                  have zi2 : wr.cell? ⟨I, 2, none⟩ = some (.int .i64 (a k)) := (by simp [World.cell?, hIq])
                  have zi3 : wr.cell? ⟨I, 3, none⟩ = some (.int .i64 (b k)) := (by simp [World.cell?, hIq])
                  have zi4 : wr.cell? ⟨I, 4, none⟩ = some (.int .i32 (n k)) := (by simp [World.cell?, hIq])
                  have zi5 : wr.cell? ⟨I, 5, none⟩ = some (.int .i64 (to k)) := (by simp [World.cell?, hIq])
                  by_cases hq1 : q < l.length
                  · obtain ⟨g, rfl, hg, hcell0⟩ := hrow q hq1
                    have hcell := (hbq.cell (p := ⟨g, q, none⟩) hg).trans hcell0
                    have hsu := allIn_succ R l q hq1
                    generalize l.getD q 0 = x at hcell hsu hcell0
                    clear hcell0 hrow
                    cases hA0 : allIn R (l.take q)
                    · rw [if_neg (by decide)]
                      by_cases hx0 : x < 0
                      · go_wp2_with fail
                        go_quiet (fail)
                        go_wp2
                        go_roundw
                        case rel => exact ⟨q + 1, by omega, by go_num, by rw [hsu, hA0]; have : inR R x = false := (by simp [inR]; omega); simp [this], ⟨hbq.os, hbq.tape, hbq.output, hbq.size, hbq.block⟩⟩
                        case measure => simp [intOf]; omega
                      · have hx0' : 0 ≤ x := by omega
                        have hxd : decide (x < 0) = false := by simpa using hx0'
                        by_cases hxR : R ≤ x
                        · go_wp2_with fail
                          go_quiet (fail)
                          go_wp2
                          go_roundw
                          case rel => exact ⟨q + 1, by omega, by go_num, by rw [hsu, hA0]; have : inR R x = false := (by simp [inR]; omega); simp [this], ⟨hbq.os, hbq.tape, hbq.output, hbq.size, hbq.block⟩⟩
                          case measure => simp [intOf]; omega
                        · have hxR' : x < R := by omega
                          go_wp2_with fail
                          go_quiet (fail)
                          go_wp2
                          go_roundw
                          case rel => exact ⟨q + 1, by omega, by go_num, by rw [hsu, hA0]; have : inR R x = true := (by simp [inR]; omega); simp [this], ⟨hbq.os, hbq.tape, hbq.output, hbq.size, hbq.block⟩⟩
                          case measure => simp [intOf]; omega
                    · rw [if_pos rfl]
                      by_cases hx0 : x < 0
                      · go_wp2_with fail
                        go_quiet (fail)
                        go_wp2
                        go_roundw
                        case rel => exact ⟨q + 1, by omega, by go_num, by rw [hsu, hA0]; have : inR R x = false := (by simp [inR]; omega); simp [this], ⟨hbq.os, hbq.tape, hbq.output, hbq.size, hbq.block⟩⟩
                        case measure => simp [intOf]; omega
                      · have hx0' : 0 ≤ x := by omega
                        have hxd : decide (x < 0) = false := by simpa using hx0'
                        by_cases hxR : R ≤ x
                        · go_wp2_with fail
                          go_quiet (fail)
                          go_wp2
                          go_roundw
                          case rel => exact ⟨q + 1, by omega, by go_num, by rw [hsu, hA0]; have : inR R x = false := (by simp [inR]; omega); simp [this], ⟨hbq.os, hbq.tape, hbq.output, hbq.size, hbq.block⟩⟩
                          case measure => simp [intOf]; omega
                        · have hxR' : x < R := by omega
                          go_wp2_with fail
                          go_quiet (fail)
                          go_wp2
                          go_roundw
                          case rel => exact ⟨q + 1, by omega, by go_num, by rw [hsu, hA0]; have : inR R x = true := (by simp [inR]; omega); simp [this], ⟨hbq.os, hbq.tape, hbq.output, hbq.size, hbq.block⟩⟩
                          case measure => simp [intOf]; omega
                  · have hql : q = l.length := by omega
                    subst hql
                    rw [List.take_length]
                    cases hA : allIn R l
                    · rw [if_neg (by decide)]
                      have hfk : f k = 1 := by rw [hfk1, if_neg (by simp [why, ar, hA])]
                      go_wp2
                      go_ret
                      have e1 : firstBad f (k + 1) = f k := by simp only [firstBad]; rw [hfb.out]; simp
                      have e2 : firstBad f len = f k := by rw [firstBad_stop (by rw [e1, hfk]; decide) len (by omega), e1]
                      have e3 : res = f k := by rw [hres.out, e2, if_pos (by rw [hfk]; decide)]
                      exact ⟨by rw [e3, hfk]; rfl, hbw⟩
                    · rw [if_pos rfl]
                      have hfk : f k = 0 := by rw [hfk1, if_pos (by simp [why, ar, hA])]
                      go_wp2
                      go_roundw
                      case rel => exact ⟨k + 1, by omega, by go_num, hbw, hFq, by omega, show firstBad f (k + 1) = 0 by simp only [firstBad]; rw [hfb.out]; simpa using hfk⟩
                      case measure => simp [intOf]; omega
              · have hd0' : ds k < 0 := by omega
                go_wp2_with (first | (go_at_call 22; refine (reads22 1 (ds k) (a k) (b k) (n k) (to k) _).mono ?_; rintro e w2 ⟨v2, rfl, hown2, hb2⟩; have hF2 := (hb2.block w.heap.size (by omega)).trans hFa; have hI2 := (hb2.block I (by omega)).trans hIa; have hs2 := hb2.size; have xf1 : w2.cell? ⟨w.heap.size, 1, none⟩ = some (.int .i64 R) := (by simp [World.cell?, hF2]); have xf2 : w2.cell? ⟨w.heap.size, 2, none⟩ = some (.slice (some ⟨cb, off, none⟩) len cap) := (by simp [World.cell?, hF2]); have xi0 : w2.cell? ⟨I, 0, none⟩ = some (.int .i64 1) := (by simp [World.cell?, hI2]); have xi1 : w2.cell? ⟨I, 1, none⟩ = some (.int .i64 (ds k)) := (by simp [World.cell?, hI2]); have xi2 : w2.cell? ⟨I, 2, none⟩ = some (.int .i64 (a k)) := (by simp [World.cell?, hI2]); have xi3 : w2.cell? ⟨I, 3, none⟩ = some (.int .i64 (b k)) := (by simp [World.cell?, hI2]); have xi4 : w2.cell? ⟨I, 4, none⟩ = some (.int .i32 (n k)) := (by simp [World.cell?, hI2]); have xi5 : w2.cell? ⟨I, 5, none⟩ = some (.int .i64 (to k)) := (by simp [World.cell?, hI2])) | (go_at_call 23; refine (writes23 1 (ds k) (a k) (b k) (n k) (to k) _).mono ?_; rintro e w3 ⟨rfl, hb3⟩; rw [hwr]; have hF3 := (hb3.block w.heap.size (by omega)).trans hF2; have hI3 := (hb3.block I (by omega)).trans hI2; have hs3 := hb3.size; have hown3 := own_below hown2 hb3; have yf1 : w3.cell? ⟨w.heap.size, 1, none⟩ = some (.int .i64 R) := (by simp [World.cell?, hF3]); have yf2 : w3.cell? ⟨w.heap.size, 2, none⟩ = some (.slice (some ⟨cb, off, none⟩) len cap) := (by simp [World.cell?, hF3]); have yi0 : w3.cell? ⟨I, 0, none⟩ = some (.int .i64 1) := (by simp [World.cell?, hI3]); have yi1 : w3.cell? ⟨I, 1, none⟩ = some (.int .i64 (ds k)) := (by simp [World.cell?, hI3]); have yi2 : w3.cell? ⟨I, 2, none⟩ = some (.int .i64 (a k)) := (by simp [World.cell?, hI3]); have yi3 : w3.cell? ⟨I, 3, none⟩ = some (.int .i64 (b k)) := (by simp [World.cell?, hI3]); have yi4 : w3.cell? ⟨I, 4, none⟩ = some (.int .i32 (n k)) := (by simp [World.cell?, hI3]); have yi5 : w3.cell? ⟨I, 5, none⟩ = some (.int .i64 (to k)) := (by simp [World.cell?, hI3])) | (at_builtin; refine wpList_append_own _ rfl _ _ 60 rfl (wa.heap.size + 1) 3 i0 (.int .i64 0) 1 8 Tryz.underlying60 hi hz0 hz1 hz2 rfl (by decide) _ _ _ rfl (hown3.alloc _) ⟨w3.heap.size, 0, none⟩ 1 1 [.int .i64 (ds k)] rfl rfl (new1 _ _ _) (one1 _) (by have := rl2_le 1 (a k) (b k) (n k); unfold maxLen; omega) (by have := rl2_le 1 (a k) (b k) (n k); omega) (by simp; omega) ?_; intro v4 w4 hown4 hgrow4 _))
                have hgb : Below wa.heap.size wa w4 := (((hb2.trans (hb3.mono hs2)).alloc (by omega) _).grown hgrow4 (by simp; omega) (fun j hj => by have := (hown3.lt j hj).1; omega))
                have hownz : w4.ownsRow (wa.heap.size + 1) 3 1 v4 (rr 1 (ds k) (a k) (b k) (n k)).length (ints (rr 1 (ds k) (a k) (b k) (n k))) := by
                  have e : rr 1 (ds k) (a k) (b k) (n k) = rl2 1 (a k) (b k) (n k) ++ [ds k] := by unfold rr; rw [hwr]; rfl
                  rw [e, ints_snoc, List.length_append]; simpa using hown4
                clear hown4 hgrow4 hown3 hown2
                generalize w4 = wz at *
                generalize v4 = vz at *
                obtain ⟨rad, rcap, hrv, hrow⟩ := row_get hownz
                have hll := rr_le 1 (ds k) (a k) (b k) (n k)
                have hsz := hgb.size
                have hFz := (hgb.block w.heap.size (by omega)).trans hFa
                have hIz := (hgb.block I (by omega)).trans hIa
                have hbz := hba.trans (hgb.mono (by omega))
                subst hrv
                generalize rr 1 (ds k) (a k) (b k) (n k) = l at *
                clear hownz hgb hb2 hb3 hF2 hI2 hF3 hI3 hs2 hs3 hFa hIa hba
                go_loopw [5, 7] (fun ev j wq => ∃ q : Nat, q ≤ l.length ∧ j = .int .i64 q ∧ ev = .int .i64 (if allIn R (l.take q) = true then 0 else 1) ∧ Below wz.heap.size wz wq)
                  (fun _ j _ => l.length - (intOf j).toNat)
                case atStart => exact ⟨0, Nat.zero_le _, rfl, by simp [allIn], Below.refl _ _⟩
                case round =>
                  obtain ⟨q, hq, rfl, rfl, hbq⟩ := hrel
                  have hFq := (hbq.block w.heap.size (by omega)).trans hFz
                  have hIq := (hbq.block I (by omega)).trans hIz
                  have hbw := hbz.trans (hbq.mono (by omega))
                  have hsq := hbq.size
                  have zf1 : wr.cell? ⟨w.heap.size, 1, none⟩ = some (.int .i64 R) := (by simp [World.cell?, hFq])
                  have zf2 : wr.cell? ⟨w.heap.size, 2, none⟩ = some (.slice (some ⟨cb, off, none⟩) len cap) := (by simp [World.cell?, hFq])
                  have zi0 : wr.cell? ⟨I, 0, none⟩ = some (.int .i64 1) := (by simp [World.cell?, hIq])
                  have zi1 : wr.cell? ⟨I, 1, none⟩ = some (.int .i64 (ds k)) := (by simp [World.cell?, hIq])
                  have zi2 : wr.cell? ⟨I, 2, none⟩ = some (.int .i64 (a k)) := (by simp [World.cell?, hIq])
                  have zi3 : wr.cell? ⟨I, 3, none⟩ = some (.int .i64 (b k)) := (by simp [World.cell?, hIq])
                  have zi4 : wr.cell? ⟨I, 4, none⟩ = some (.int .i32 (n k)) := (by simp [World.cell?, hIq])
                  have zi5 : wr.cell? ⟨I, 5, none⟩ = some (.int .i64 (to k)) := (by simp [World.cell?, hIq])
                  by_cases hq1 : q < l.length
                  · obtain ⟨g, rfl, hg, hcell0⟩ := hrow q hq1
                    have hcell := (hbq.cell (p := ⟨g, q, none⟩) hg).trans hcell0
                    have hsu := allIn_succ R l q hq1
                    generalize l.getD q 0 = x at hcell hsu hcell0
                    clear hcell0 hrow
                    cases hA0 : allIn R (l.take q)
                    · rw [if_neg (by decide)]
                      by_cases hx0 : x < 0
                      · go_wp2_with fail
                        go_quiet (fail)
                        go_wp2
                        go_roundw
                        case rel => exact ⟨q + 1, by omega, by go_num, by rw [hsu, hA0]; have : inR R x = false := (by simp [inR]; omega); simp [this], ⟨hbq.os, hbq.tape, hbq.output, hbq.size, hbq.block⟩⟩
                        case measure => simp [intOf]; omega
                      · have hx0' : 0 ≤ x := by omega
                        have hxd : decide (x < 0) = false := by simpa using hx0'
                        by_cases hxR : R ≤ x
                        · go_wp2_with fail
                          go_quiet (fail)
                          go_wp2
                          go_roundw
                          case rel => exact ⟨q + 1, by omega, by go_num, by rw [hsu, hA0]; have : inR R x = false := (by simp [inR]; omega); simp [this], ⟨hbq.os, hbq.tape, hbq.output, hbq.size, hbq.block⟩⟩
                          case measure => simp [intOf]; omega
                        · have hxR' : x < R := by omega
                          go_wp2_with fail
                          go_quiet (fail)
                          go_wp2
                          go_roundw
                          case rel => exact ⟨q + 1, by omega, by go_num, by rw [hsu, hA0]; have : inR R x = true := (by simp [inR]; omega); simp [this], ⟨hbq.os, hbq.tape, hbq.output, hbq.size, hbq.block⟩⟩
                          case measure => simp [intOf]; omega
                    · rw [if_pos rfl]
                      by_cases hx0 : x < 0
                      · go_wp2_with fail
                        go_quiet (fail)
                        go_wp2
                        go_roundw
                        case rel => exact ⟨q + 1, by omega, by go_num, by rw [hsu, hA0]; have : inR R x = false := (by simp [inR]; omega); simp [this], ⟨hbq.os, hbq.tape, hbq.output, hbq.size, hbq.block⟩⟩
                        case measure => simp [intOf]; omega
                      · have hx0' : 0 ≤ x := by omega
                        have hxd : decide (x < 0) = false := by simpa using hx0'
                        by_cases hxR : R ≤ x
                        · go_wp2_with fail
                          go_quiet (fail)
                          go_wp2
                          go_roundw
                          case rel => exact ⟨q + 1, by omega, by go_num, by rw [hsu, hA0]; have : inR R x = false := (by simp [inR]; omega); simp [this], ⟨hbq.os, hbq.tape, hbq.output, hbq.size, hbq.block⟩⟩
                          case measure => simp [intOf]; omega
                        · have hxR' : x < R := by omega
                          go_wp2_with fail
                          go_quiet (fail)
                          go_wp2
                          go_roundw
                          case rel => exact ⟨q + 1, by omega, by go_num, by rw [hsu, hA0]; have : inR R x = true := (by simp [inR]; omega); simp [this], ⟨hbq.os, hbq.tape, hbq.output, hbq.size, hbq.block⟩⟩
                          case measure => simp [intOf]; omega
                  · have hql : q = l.length := by omega
                    subst hql
                    rw [List.take_length]
                    cases hA : allIn R l
                    · rw [if_neg (by decide)]
                      have hfk : f k = 1 := by rw [hfk1, if_neg (by simp [why, ar, hA])]
                      go_wp2
                      go_ret
                      have e1 : firstBad f (k + 1) = f k := by simp only [firstBad]; rw [hfb.out]; simp
                      have e2 : firstBad f len = f k := by rw [firstBad_stop (by rw [e1, hfk]; decide) len (by omega), e1]
                      have e3 : res = f k := by rw [hres.out, e2, if_pos (by rw [hfk]; decide)]
                      exact ⟨by rw [e3, hfk]; rfl, hbw⟩
                    · rw [if_pos rfl]
                      have hfk : f k = 0 := by rw [hfk1, if_pos (by simp [why, ar, hA])]
                      go_wp2
                      go_roundw
                      case rel => exact ⟨k + 1, by omega, by go_num, hbw, hFq, by omega, show firstBad f (k + 1) = 0 by simp only [firstBad]; rw [hfb.out]; simpa using hfk⟩
                      case measure => simp [intOf]; omega
          · as_aux_lemma =>
              have hwr : irx.wr 2 = true := by decide
              by_cases hd0 : 0 ≤ ds k
              · go_wp2_with (first | (go_at_call 22; refine (reads22 2 (ds k) (a k) (b k) (n k) (to k) _).mono ?_; rintro e w2 ⟨v2, rfl, hown2, hb2⟩; have hF2 := (hb2.block w.heap.size (by omega)).trans hFa; have hI2 := (hb2.block I (by omega)).trans hIa; have hs2 := hb2.size; have xf1 : w2.cell? ⟨w.heap.size, 1, none⟩ = some (.int .i64 R) := (by simp [World.cell?, hF2]); have xf2 : w2.cell? ⟨w.heap.size, 2, none⟩ = some (.slice (some ⟨cb, off, none⟩) len cap) := (by simp [World.cell?, hF2]); have xi0 : w2.cell? ⟨I, 0, none⟩ = some (.int .i64 2) := (by simp [World.cell?, hI2]); have xi1 : w2.cell? ⟨I, 1, none⟩ = some (.int .i64 (ds k)) := (by simp [World.cell?, hI2]); have xi2 : w2.cell? ⟨I, 2, none⟩ = some (.int .i64 (a k)) := (by simp [World.cell?, hI2]); have xi3 : w2.cell? ⟨I, 3, none⟩ = some (.int .i64 (b k)) := (by simp [World.cell?, hI2]); have xi4 : w2.cell? ⟨I, 4, none⟩ = some (.int .i32 (n k)) := (by simp [World.cell?, hI2]); have xi5 : w2.cell? ⟨I, 5, none⟩ = some (.int .i64 (to k)) := (by simp [World.cell?, hI2])) | (go_at_call 23; refine (writes23 2 (ds k) (a k) (b k) (n k) (to k) _).mono ?_; rintro e w3 ⟨rfl, hb3⟩; rw [hwr]; have hF3 := (hb3.block w.heap.size (by omega)).trans hF2; have hI3 := (hb3.block I (by omega)).trans hI2; have hs3 := hb3.size; have hown3 := own_below hown2 hb3; have yf1 : w3.cell? ⟨w.heap.size, 1, none⟩ = some (.int .i64 R) := (by simp [World.cell?, hF3]); have yf2 : w3.cell? ⟨w.heap.size, 2, none⟩ = some (.slice (some ⟨cb, off, none⟩) len cap) := (by simp [World.cell?, hF3]); have yi0 : w3.cell? ⟨I, 0, none⟩ = some (.int .i64 2) := (by simp [World.cell?, hI3]); have yi1 : w3.cell? ⟨I, 1, none⟩ = some (.int .i64 (ds k)) := (by simp [World.cell?, hI3]); have yi2 : w3.cell? ⟨I, 2, none⟩ = some (.int .i64 (a k)) := (by simp [World.cell?, hI3]); have yi3 : w3.cell? ⟨I, 3, none⟩ = some (.int .i64 (b k)) := (by simp [World.cell?, hI3]); have yi4 : w3.cell? ⟨I, 4, none⟩ = some (.int .i32 (n k)) := (by simp [World.cell?, hI3]); have yi5 : w3.cell? ⟨I, 5, none⟩ = some (.int .i64 (to k)) := (by simp [World.cell?, hI3])) | (at_builtin; refine wpList_append_own _ rfl _ _ 60 rfl (wa.heap.size + 1) 3 i0 (.int .i64 0) 1 8 Tryz.underlying60 hi hz0 hz1 hz2 rfl (by decide) _ _ _ rfl (hown3.alloc _) ⟨w3.heap.size, 0, none⟩ 1 1 [.int .i64 (ds k)] rfl rfl (new1 _ _ _) (one1 _) (by have := rl2_le 2 (a k) (b k) (n k); unfold maxLen; omega) (by have := rl2_le 2 (a k) (b k) (n k); omega) (by simp; omega) ?_; intro v4 w4 hown4 hgrow4 _))
                have hgb : Below wa.heap.size wa w4 := (((hb2.trans (hb3.mono hs2)).alloc (by omega) _).grown hgrow4 (by simp; omega) (fun j hj => by have := (hown3.lt j hj).1; omega))
                have hownz : w4.ownsRow (wa.heap.size + 1) 3 1 v4 (rr 2 (ds k) (a k) (b k) (n k)).length (ints (rr 2 (ds k) (a k) (b k) (n k))) := by
                  have e : rr 2 (ds k) (a k) (b k) (n k) = rl2 2 (a k) (b k) (n k) ++ [ds k] := by unfold rr; rw [hwr]; rfl
                  rw [e, ints_snoc, List.length_append]; simpa using hown4
                clear hown4 hgrow4 hown3 hown2
                generalize w4 = wz at *
                generalize v4 = vz at *
                obtain ⟨rad, rcap, hrv, hrow⟩ := row_get hownz
                have hll := rr_le 2 (ds k) (a k) (b k) (n k)
                have hsz := hgb.size
                have hFz := (hgb.block w.heap.size (by omega)).trans hFa
                have hIz := (hgb.block I (by omega)).trans hIa
                have hbz := hba.trans (hgb.mono (by omega))
                subst hrv
                generalize rr 2 (ds k) (a k) (b k) (n k) = l at *
                clear hownz hgb hb2 hb3 hF2 hI2 hF3 hI3 hs2 hs3 hFa hIa hba
                go_loopw [5, 7] (fun ev j wq => ∃ q : Nat, q ≤ l.length ∧ j = .int .i64 q ∧ ev = .int .i64 (if allIn R (l.take q) = true then 0 else 1) ∧ Below wz.heap.size wz wq)
                  (fun _ j _ => l.length - (intOf j).toNat)
                case atStart => exact ⟨0, Nat.zero_le _, rfl, by simp [allIn], Below.refl _ _⟩
                case round =>
                  obtain ⟨q, hq, rfl, rfl, hbq⟩ := hrel
                  have hFq := (hbq.block w.heap.size (by omega)).trans hFz
                  have hIq := (hbq.block I (by omega)).trans hIz
                  have hbw := hbz.trans (hbq.mono (by omega))
                  have hsq := hbq.size
                  have zf1 : wr.cell? ⟨w.heap.size, 1, none⟩ = some (.int .i64 R) := (by simp [World.cell?, hFq])
                  have zf2 : wr.cell? ⟨w.heap.size, 2, none⟩ = some (.slice (some ⟨cb, off, none⟩) len cap) := (by simp [World.cell?, hFq])
                  have zi0 : wr.cell? ⟨I, 0, none⟩ = some (.int .i64 2) := (by simp [World.cell?, hIq])
                  have zi1 : wr.cell? ⟨I, 1, none⟩ = some (.int .i64 (ds k)) := (by simp [World.cell?, hIq])
                  have zi2 : wr.cell? ⟨I, 2, none⟩ = some (.int .i64 (a k)) := (by simp [World.cell?, hIq])
                  have zi3 : wr.cell? ⟨I, 3, none⟩ = some (.int .i64 (b k)) := (by simp [World.cell?, hIq])
                  have zi4 : wr.cell? ⟨I, 4, none⟩ = some (.int .i32 (n k)) := (by simp [World.cell?, hIq])
                  have zi5 : wr.cell? ⟨I, 5, none⟩ = some (.int .i64 (to k)) := (by simp [World.cell?, hIq])
                  by_cases hq1 : q < l.length
                  · obtain ⟨g, rfl, hg, hcell0⟩ := hrow q hq1
                    have hcell := (hbq.cell (p := ⟨g, q, none⟩) hg).trans hcell0
                    have hsu := allIn_succ R l q hq1
                    generalize l.getD q 0 = x at hcell hsu hcell0
                    clear hcell0 hrow
                    cases hA0 : allIn R (l.take q)
                    · rw [if_neg (by decide)]
                      by_cases hx0 : x < 0
                      · go_wp2_with fail
                        go_quiet (fail)
                        go_wp2
                        go_roundw
                        case rel => exact ⟨q + 1, by omega, by go_num, by rw [hsu, hA0]; have : inR R x = false := (by simp [inR]; omega); simp [this], ⟨hbq.os, hbq.tape, hbq.output, hbq.size, hbq.block⟩⟩
                        case measure => simp [intOf]; omega
                      · have hx0' : 0 ≤ x := by omega
                        have hxd : decide (x < 0) = false := by simpa using hx0'
                        by_cases hxR : R ≤ x
                        · go_wp2_with fail
                          go_quiet (fail)
                          go_wp2
                          go_roundw
                          case rel => exact ⟨q + 1, by omega, by go_num, by rw [hsu, hA0]; have : inR R x = false := (by simp [inR]; omega); simp [this], ⟨hbq.os, hbq.tape, hbq.output, hbq.size, hbq.block⟩⟩
                          case measure => simp [intOf]; omega
                        · have hxR' : x < R := by omega
                          go_wp2_with fail
                          go_quiet (fail)
                          go_wp2
                          go_roundw
                          case rel => exact ⟨q + 1, by omega, by go_num, by rw [hsu, hA0]; have : inR R x = true := (by simp [inR]; omega); simp [this], ⟨hbq.os, hbq.tape, hbq.output, hbq.size, hbq.block⟩⟩
                          case measure => simp [intOf]; omega
                    · rw [if_pos rfl]
                      by_cases hx0 : x < 0
                      · go_wp2_with fail
                        go_quiet (fail)
                        go_wp2
                        go_roundw
                        case rel => exact ⟨q + 1, by omega, by go_num, by rw [hsu, hA0]; have : inR R x = false := (by simp [inR]; omega); simp [this], ⟨hbq.os, hbq.tape, hbq.output, hbq.size, hbq.block⟩⟩
                        case measure => simp [intOf]; omega
                      · have hx0' : 0 ≤ x := by omega
                        have hxd : decide (x < 0) = false := by simpa using hx0'
                        by_cases hxR : R ≤ x
                        · go_wp2_with fail
                          go_quiet (fail)
                          go_wp2
                          go_roundw
                          case rel => exact ⟨q + 1, by omega, by go_num, by rw [hsu, hA0]; have : inR R x = false := (by simp [inR]; omega); simp [this], ⟨hbq.os, hbq.tape, hbq.output, hbq.size, hbq.block⟩⟩
                          case measure => simp [intOf]; omega
                        · have hxR' : x < R := by omega
                          go_wp2_with fail
                          go_quiet (fail)
                          go_wp2
                          go_roundw
                          case rel => exact ⟨q + 1, by omega, by go_num, by rw [hsu, hA0]; have : inR R x = true := (by simp [inR]; omega); simp [this], ⟨hbq.os, hbq.tape, hbq.output, hbq.size, hbq.block⟩⟩
                          case measure => simp [intOf]; omega
                  · have hql : q = l.length := by omega
                    subst hql
                    rw [List.take_length]
                    cases hA : allIn R l
                    · rw [if_neg (by decide)]
                      have hfk : f k = 1 := by rw [hfk1, if_neg (by simp [why, ar, hA])]
                      go_wp2
                      go_ret
                      have e1 : firstBad f (k + 1) = f k := by simp only [firstBad]; rw [hfb.out]; simp
                      have e2 : firstBad f len = f k := by rw [firstBad_stop (by rw [e1, hfk]; decide) len (by omega), e1]
                      have e3 : res = f k := by rw [hres.out, e2, if_pos (by rw [hfk]; decide)]
                      exact ⟨by rw [e3, hfk]; rfl, hbw⟩
                    · rw [if_pos rfl]
                      have hfk : f k = 0 := by rw [hfk1, if_pos (by simp [why, ar, hA])]
                      go_wp2
                      go_roundw
                      case rel => exact ⟨k + 1, by omega, by go_num, hbw, hFq, by omega, show firstBad f (k + 1) = 0 by simp only [firstBad]; rw [hfb.out]; simpa using hfk⟩
                      case measure => simp [intOf]; omega
              · have hd0' : ds k < 0 := by omega
                go_wp2_with (first | (go_at_call 22; refine (reads22 2 (ds k) (a k) (b k) (n k) (to k) _).mono ?_; rintro e w2 ⟨v2, rfl, hown2, hb2⟩; have hF2 := (hb2.block w.heap.size (by omega)).trans hFa; have hI2 := (hb2.block I (by omega)).trans hIa; have hs2 := hb2.size; have xf1 : w2.cell? ⟨w.heap.size, 1, none⟩ = some (.int .i64 R) := (by simp [World.cell?, hF2]); have xf2 : w2.cell? ⟨w.heap.size, 2, none⟩ = some (.slice (some ⟨cb, off, none⟩) len cap) := (by simp [World.cell?, hF2]); have xi0 : w2.cell? ⟨I, 0, none⟩ = some (.int .i64 2) := (by simp [World.cell?, hI2]); have xi1 : w2.cell? ⟨I, 1, none⟩ = some (.int .i64 (ds k)) := (by simp [World.cell?, hI2]); have xi2 : w2.cell? ⟨I, 2, none⟩ = some (.int .i64 (a k)) := (by simp [World.cell?, hI2]); have xi3 : w2.cell? ⟨I, 3, none⟩ = some (.int .i64 (b k)) := (by simp [World.cell?, hI2]); have xi4 : w2.cell? ⟨I, 4, none⟩ = some (.int .i32 (n k)) := (by simp [World.cell?, hI2]); have xi5 : w2.cell? ⟨I, 5, none⟩ = some (.int .i64 (to k)) := (by simp [World.cell?, hI2])) | (go_at_call 23; refine (writes23 2 (ds k) (a k) (b k) (n k) (to k) _).mono ?_; rintro e w3 ⟨rfl, hb3⟩; rw [hwr]; have hF3 := (hb3.block w.heap.size (by omega)).trans hF2; have hI3 := (hb3.block I (by omega)).trans hI2; have hs3 := hb3.size; have hown3 := own_below hown2 hb3; have yf1 : w3.cell? ⟨w.heap.size, 1, none⟩ = some (.int .i64 R) := (by simp [World.cell?, hF3]); have yf2 : w3.cell? ⟨w.heap.size, 2, none⟩ = some (.slice (some ⟨cb, off, none⟩) len cap) := (by simp [World.cell?, hF3]); have yi0 : w3.cell? ⟨I, 0, none⟩ = some (.int .i64 2) := (by simp [World.cell?, hI3]); have yi1 : w3.cell? ⟨I, 1, none⟩ = some (.int .i64 (ds k)) := (by simp [World.cell?, hI3]); have yi2 : w3.cell? ⟨I, 2, none⟩ = some (.int .i64 (a k)) := (by simp [World.cell?, hI3]); have yi3 : w3.cell? ⟨I, 3, none⟩ = some (.int .i64 (b k)) := (by simp [World.cell?, hI3]); have yi4 : w3.cell? ⟨I, 4, none⟩ = some (.int .i32 (n k)) := (by simp [World.cell?, hI3]); have yi5 : w3.cell? ⟨I, 5, none⟩ = some (.int .i64 (to k)) := (by simp [World.cell?, hI3])) | (at_builtin; refine wpList_append_own _ rfl _ _ 60 rfl (wa.heap.size + 1) 3 i0 (.int .i64 0) 1 8 Tryz.underlying60 hi hz0 hz1 hz2 rfl (by decide) _ _ _ rfl (hown3.alloc _) ⟨w3.heap.size, 0, none⟩ 1 1 [.int .i64 (ds k)] rfl rfl (new1 _ _ _) (one1 _) (by have := rl2_le 2 (a k) (b k) (n k); unfold maxLen; omega) (by have := rl2_le 2 (a k) (b k) (n k); omega) (by simp; omega) ?_; intro v4 w4 hown4 hgrow4 _))
                have hgb : Below wa.heap.size wa w4 := (((hb2.trans (hb3.mono hs2)).alloc (by omega) _).grown hgrow4 (by simp; omega) (fun j hj => by have := (hown3.lt j hj).1; omega))
                have hownz : w4.ownsRow (wa.heap.size + 1) 3 1 v4 (rr 2 (ds k) (a k) (b k) (n k)).length (ints (rr 2 (ds k) (a k) (b k) (n k))) := by
                  have e : rr 2 (ds k) (a k) (b k) (n k) = rl2 2 (a k) (b k) (n k) ++ [ds k] := by unfold rr; rw [hwr]; rfl
                  rw [e, ints_snoc, List.length_append]; simpa using hown4
                clear hown4 hgrow4 hown3 hown2
                generalize w4 = wz at *
                generalize v4 = vz at *
                obtain ⟨rad, rcap, hrv, hrow⟩ := row_get hownz
                have hll := rr_le 2 (ds k) (a k) (b k) (n k)
                have hsz := hgb.size
                have hFz := (hgb.block w.heap.size (by omega)).trans hFa
                have hIz := (hgb.block I (by omega)).trans hIa
                have hbz := hba.trans (hgb.mono (by omega))
                subst hrv
                generalize rr 2 (ds k) (a k) (b k) (n k) = l at *
                clear hownz hgb hb2 hb3 hF2 hI2 hF3 hI3 hs2 hs3 hFa hIa hba
                go_loopw [5, 7] (fun ev j wq => ∃ q : Nat, q ≤ l.length ∧ j = .int .i64 q ∧ ev = .int .i64 (if allIn R (l.take q) = true then 0 else 1) ∧ Below wz.heap.size wz wq)
                  (fun _ j _ => l.length - (intOf j).toNat)
                case atStart => exact ⟨0, Nat.zero_le _, rfl, by simp [allIn], Below.refl _ _⟩
                case round =>
                  obtain ⟨q, hq, rfl, rfl, hbq⟩ := hrel
                  have hFq := (hbq.block w.heap.size (by omega)).trans hFz
                  have hIq := (hbq.block I (by omega)).trans hIz
                  have hbw := hbz.trans (hbq.mono (by omega))
                  have hsq := hbq.size
                  have zf1 : wr.cell? ⟨w.heap.size, 1, none⟩ = some (.int .i64 R) := (by simp [World.cell?, hFq])
                  have zf2 : wr.cell? ⟨w.heap.size, 2, none⟩ = some (.slice (some ⟨cb, off, none⟩) len cap) := (by simp [World.cell?, hFq])
                  have zi0 : wr.cell? ⟨I, 0, none⟩ = some (.int .i64 2) := (by simp [World.cell?, hIq])
                  have zi1 : wr.cell? ⟨I, 1, none⟩ = some (.int .i64 (ds k)) := (by simp [World.cell?, hIq])
                  have zi2 : wr.cell? ⟨I, 2, none⟩ = some (.int .i64 (a k)) := (by simp [World.cell?, hIq])
                  have zi3 : wr.cell? ⟨I, 3, none⟩ = some (.int .i64 (b k)) := (by simp [World.cell?, hIq])
                  have zi4 : wr.cell? ⟨I, 4, none⟩ = some (.int .i32 (n k)) := (by simp [World.cell?, hIq])
                  have zi5 : wr.cell? ⟨I, 5, none⟩ = some (.int .i64 (to k)) := (by simp [World.cell?, hIq])
                  by_cases hq1 : q < l.length
                  · obtain ⟨g, rfl, hg, hcell0⟩ := hrow q hq1
                    have hcell := (hbq.cell (p := ⟨g, q, none⟩) hg).trans hcell0
                    have hsu := allIn_succ R l q hq1
                    generalize l.getD q 0 = x at hcell hsu hcell0
                    clear hcell0 hrow
                    cases hA0 : allIn R (l.take q)
                    · rw [if_neg (by decide)]
                      by_cases hx0 : x < 0
                      · go_wp2_with fail
                        go_quiet (fail)
                        go_wp2
                        go_roundw
                        case rel => exact ⟨q + 1, by omega, by go_num, by rw [hsu, hA0]; have : inR R x = false := (by simp [inR]; omega); simp [this], ⟨hbq.os, hbq.tape, hbq.output, hbq.size, hbq.block⟩⟩
                        case measure => simp [intOf]; omega
                      · have hx0' : 0 ≤ x := by omega
                        have hxd : decide (x < 0) = false := by simpa using hx0'
                        by_cases hxR : R ≤ x
                        · go_wp2_with fail
                          go_quiet (fail)
                          go_wp2
                          go_roundw
                          case rel => exact ⟨q + 1, by omega, by go_num, by rw [hsu, hA0]; have : inR R x = false := (by simp [inR]; omega); simp [this], ⟨hbq.os, hbq.tape, hbq.output, hbq.size, hbq.block⟩⟩
                          case measure => simp [intOf]; omega
                        · have hxR' : x < R := by omega
                          go_wp2_with fail
                          go_quiet (fail)
                          go_wp2
                          go_roundw
                          case rel => exact ⟨q + 1, by omega, by go_num, by rw [hsu, hA0]; have : inR R x = true := (by simp [inR]; omega); simp [this], ⟨hbq.os, hbq.tape, hbq.output, hbq.size, hbq.block⟩⟩
                          case measure => simp [intOf]; omega
                    · rw [if_pos rfl]
                      by_cases hx0 : x < 0
                      · go_wp2_with fail
                        go_quiet (fail)
                        go_wp2
                        go_roundw
                        case rel => exact ⟨q + 1, by omega, by go_num, by rw [hsu, hA0]; have : inR R x = false := (by simp [inR]; omega); simp [this], ⟨hbq.os, hbq.tape, hbq.output, hbq.size, hbq.block⟩⟩
                        case measure => simp [intOf]; omega
                      · have hx0' : 0 ≤ x := by omega
                        have hxd : decide (x < 0) = false := by simpa using hx0'
                        by_cases hxR : R ≤ x
                        · go_wp2_with fail
                          go_quiet (fail)
                          go_wp2
                          go_roundw
                          case rel => exact ⟨q + 1, by omega, by go_num, by rw [hsu, hA0]; have : inR R x = false := (by simp [inR]; omega); simp [this], ⟨hbq.os, hbq.tape, hbq.output, hbq.size, hbq.block⟩⟩
                          case measure => simp [intOf]; omega
                        · have hxR' : x < R := by omega
                          go_wp2_with fail
                          go_quiet (fail)
                          go_wp2
                          go_roundw
                          case rel => exact ⟨q + 1, by omega, by go_num, by rw [hsu, hA0]; have : inR R x = true := (by simp [inR]; omega); simp [this], ⟨hbq.os, hbq.tape, hbq.output, hbq.size, hbq.block⟩⟩
                          case measure => simp [intOf]; omega
                  · have hql : q = l.length := by omega
                    subst hql
                    rw [List.take_length]
                    cases hA : allIn R l
                    · rw [if_neg (by decide)]
                      have hfk : f k = 1 := by rw [hfk1, if_neg (by simp [why, ar, hA])]
                      go_wp2
                      go_ret
                      have e1 : firstBad f (k + 1) = f k := by simp only [firstBad]; rw [hfb.out]; simp
                      have e2 : firstBad f len = f k := by rw [firstBad_stop (by rw [e1, hfk]; decide) len (by omega), e1]
                      have e3 : res = f k := by rw [hres.out, e2, if_pos (by rw [hfk]; decide)]
                      exact ⟨by rw [e3, hfk]; rfl, hbw⟩
                    · rw [if_pos rfl]
                      have hfk : f k = 0 := by rw [hfk1, if_pos (by simp [why, ar, hA])]
                      go_wp2
                      go_roundw
                      case rel => exact ⟨k + 1, by omega, by go_num, hbw, hFq, by omega, show firstBad f (k + 1) = 0 by simp only [firstBad]; rw [hfb.out]; simpa using hfk⟩
                      case measure => simp [intOf]; omega
          · as_aux_lemma =>
              have hwr : irx.wr 3 = true := by decide
              by_cases hd0 : 0 ≤ ds k
              · go_wp2_with (first | (go_at_call 17; refine (two17 _ _ _ i32one i32one _).mono ?_; rintro e w5 ⟨rfl, hw5⟩; rw [hw5]) | (go_at_call 22; refine (reads22 3 (ds k) (a k) (b k) (n k) (to k) _).mono ?_; rintro e w2 ⟨v2, rfl, hown2, hb2⟩; have hF2 := (hb2.block w.heap.size (by omega)).trans hFa; have hI2 := (hb2.block I (by omega)).trans hIa; have hs2 := hb2.size; have xf1 : w2.cell? ⟨w.heap.size, 1, none⟩ = some (.int .i64 R) := (by simp [World.cell?, hF2]); have xf2 : w2.cell? ⟨w.heap.size, 2, none⟩ = some (.slice (some ⟨cb, off, none⟩) len cap) := (by simp [World.cell?, hF2]); have xi0 : w2.cell? ⟨I, 0, none⟩ = some (.int .i64 3) := (by simp [World.cell?, hI2]); have xi1 : w2.cell? ⟨I, 1, none⟩ = some (.int .i64 (ds k)) := (by simp [World.cell?, hI2]); have xi2 : w2.cell? ⟨I, 2, none⟩ = some (.int .i64 (a k)) := (by simp [World.cell?, hI2]); have xi3 : w2.cell? ⟨I, 3, none⟩ = some (.int .i64 (b k)) := (by simp [World.cell?, hI2]); have xi4 : w2.cell? ⟨I, 4, none⟩ = some (.int .i32 (n k)) := (by simp [World.cell?, hI2]); have xi5 : w2.cell? ⟨I, 5, none⟩ = some (.int .i64 (to k)) := (by simp [World.cell?, hI2])) | (go_at_call 23; refine (writes23 3 (ds k) (a k) (b k) (n k) (to k) _).mono ?_; rintro e w3 ⟨rfl, hb3⟩; rw [hwr]; have hF3 := (hb3.block w.heap.size (by omega)).trans hF2; have hI3 := (hb3.block I (by omega)).trans hI2; have hs3 := hb3.size; have hown3 := own_below hown2 hb3; have yf1 : w3.cell? ⟨w.heap.size, 1, none⟩ = some (.int .i64 R) := (by simp [World.cell?, hF3]); have yf2 : w3.cell? ⟨w.heap.size, 2, none⟩ = some (.slice (some ⟨cb, off, none⟩) len cap) := (by simp [World.cell?, hF3]); have yi0 : w3.cell? ⟨I, 0, none⟩ = some (.int .i64 3) := (by simp [World.cell?, hI3]); have yi1 : w3.cell? ⟨I, 1, none⟩ = some (.int .i64 (ds k)) := (by simp [World.cell?, hI3]); have yi2 : w3.cell? ⟨I, 2, none⟩ = some (.int .i64 (a k)) := (by simp [World.cell?, hI3]); have yi3 : w3.cell? ⟨I, 3, none⟩ = some (.int .i64 (b k)) := (by simp [World.cell?, hI3]); have yi4 : w3.cell? ⟨I, 4, none⟩ = some (.int .i32 (n k)) := (by simp [World.cell?, hI3]); have yi5 : w3.cell? ⟨I, 5, none⟩ = some (.int .i64 (to k)) := (by simp [World.cell?, hI3])) | (at_builtin; refine wpList_append_own _ rfl _ _ 60 rfl (wa.heap.size + 1) 3 i0 (.int .i64 0) 1 8 Tryz.underlying60 hi hz0 hz1 hz2 rfl (by decide) _ _ _ rfl (hown3.alloc _) ⟨w3.heap.size, 0, none⟩ 1 1 [.int .i64 (ds k)] rfl rfl (new1 _ _ _) (one1 _) (by have := rl2_le 3 (a k) (b k) (n k); unfold maxLen; omega) (by have := rl2_le 3 (a k) (b k) (n k); omega) (by simp; omega) ?_; intro v4 w4 hown4 hgrow4 _))
                have hgb : Below wa.heap.size wa w4 := (((hb2.trans (hb3.mono hs2)).alloc (by omega) _).grown hgrow4 (by simp; omega) (fun j hj => by have := (hown3.lt j hj).1; omega))
                have hownz : w4.ownsRow (wa.heap.size + 1) 3 1 v4 (rr 3 (ds k) (a k) (b k) (n k)).length (ints (rr 3 (ds k) (a k) (b k) (n k))) := by
                  have e : rr 3 (ds k) (a k) (b k) (n k) = rl2 3 (a k) (b k) (n k) ++ [ds k] := by unfold rr; rw [hwr]; rfl
                  rw [e, ints_snoc, List.length_append]; simpa using hown4
                clear hown4 hgrow4 hown3 hown2
                generalize w4 = wz at *
                generalize v4 = vz at *
                obtain ⟨rad, rcap, hrv, hrow⟩ := row_get hownz
                have hll := rr_le 3 (ds k) (a k) (b k) (n k)
                have hsz := hgb.size
                have hFz := (hgb.block w.heap.size (by omega)).trans hFa
                have hIz := (hgb.block I (by omega)).trans hIa
                have hbz := hba.trans (hgb.mono (by omega))
                subst hrv
                generalize rr 3 (ds k) (a k) (b k) (n k) = l at *
                clear hownz hgb hb2 hb3 hF2 hI2 hF3 hI3 hs2 hs3 hFa hIa hba
                go_loopw [5, 7] (fun ev j wq => ∃ q : Nat, q ≤ l.length ∧ j = .int .i64 q ∧ ev = .int .i64 (if allIn R (l.take q) = true then (two (n k) 1 1).2 else 1) ∧ Below wz.heap.size wz wq)
                  (fun _ j _ => l.length - (intOf j).toNat)
                case atStart => exact ⟨0, Nat.zero_le _, rfl, by simp [allIn], Below.refl _ _⟩
                case round =>
                  obtain ⟨q, hq, rfl, rfl, hbq⟩ := hrel
                  have hFq := (hbq.block w.heap.size (by omega)).trans hFz
                  have hIq := (hbq.block I (by omega)).trans hIz
                  have hbw := hbz.trans (hbq.mono (by omega))
                  have hsq := hbq.size
                  have zf1 : wr.cell? ⟨w.heap.size, 1, none⟩ = some (.int .i64 R) := (by simp [World.cell?, hFq])
                  have zf2 : wr.cell? ⟨w.heap.size, 2, none⟩ = some (.slice (some ⟨cb, off, none⟩) len cap) := (by simp [World.cell?, hFq])
                  have zi0 : wr.cell? ⟨I, 0, none⟩ = some (.int .i64 3) := (by simp [World.cell?, hIq])
                  have zi1 : wr.cell? ⟨I, 1, none⟩ = some (.int .i64 (ds k)) := (by simp [World.cell?, hIq])
                  have zi2 : wr.cell? ⟨I, 2, none⟩ = some (.int .i64 (a k)) := (by simp [World.cell?, hIq])
                  have zi3 : wr.cell? ⟨I, 3, none⟩ = some (.int .i64 (b k)) := (by simp [World.cell?, hIq])
                  have zi4 : wr.cell? ⟨I, 4, none⟩ = some (.int .i32 (n k)) := (by simp [World.cell?, hIq])
                  have zi5 : wr.cell? ⟨I, 5, none⟩ = some (.int .i64 (to k)) := (by simp [World.cell?, hIq])
                  by_cases hq1 : q < l.length
                  · obtain ⟨g, rfl, hg, hcell0⟩ := hrow q hq1
                    have hcell := (hbq.cell (p := ⟨g, q, none⟩) hg).trans hcell0
                    have hsu := allIn_succ R l q hq1
                    generalize l.getD q 0 = x at hcell hsu hcell0
                    clear hcell0 hrow
                    cases hA0 : allIn R (l.take q)
                    · rw [if_neg (by decide)]
                      by_cases hx0 : x < 0
                      · go_wp2_with fail
                        go_quiet (fail)
                        go_wp2
                        go_roundw
                        case rel => exact ⟨q + 1, by omega, by go_num, by rw [hsu, hA0]; have : inR R x = false := (by simp [inR]; omega); simp [this], ⟨hbq.os, hbq.tape, hbq.output, hbq.size, hbq.block⟩⟩
                        case measure => simp [intOf]; omega
                      · have hx0' : 0 ≤ x := by omega
                        have hxd : decide (x < 0) = false := by simpa using hx0'
                        by_cases hxR : R ≤ x
                        · go_wp2_with fail
                          go_quiet (fail)
                          go_wp2
                          go_roundw
                          case rel => exact ⟨q + 1, by omega, by go_num, by rw [hsu, hA0]; have : inR R x = false := (by simp [inR]; omega); simp [this], ⟨hbq.os, hbq.tape, hbq.output, hbq.size, hbq.block⟩⟩
                          case measure => simp [intOf]; omega
                        · have hxR' : x < R := by omega
                          go_wp2_with fail
                          go_quiet (fail)
                          go_wp2
                          go_roundw
                          case rel => exact ⟨q + 1, by omega, by go_num, by rw [hsu, hA0]; have : inR R x = true := (by simp [inR]; omega); simp [this], ⟨hbq.os, hbq.tape, hbq.output, hbq.size, hbq.block⟩⟩
                          case measure => simp [intOf]; omega
                    · rw [if_pos rfl]
                      by_cases hx0 : x < 0
                      · go_wp2_with fail
                        go_quiet (fail)
                        go_wp2
                        go_roundw
                        case rel => exact ⟨q + 1, by omega, by go_num, by rw [hsu, hA0]; have : inR R x = false := (by simp [inR]; omega); simp [this], ⟨hbq.os, hbq.tape, hbq.output, hbq.size, hbq.block⟩⟩
                        case measure => simp [intOf]; omega
                      · have hx0' : 0 ≤ x := by omega
                        have hxd : decide (x < 0) = false := by simpa using hx0'
                        by_cases hxR : R ≤ x
                        · go_wp2_with fail
                          go_quiet (fail)
                          go_wp2
                          go_roundw
                          case rel => exact ⟨q + 1, by omega, by go_num, by rw [hsu, hA0]; have : inR R x = false := (by simp [inR]; omega); simp [this], ⟨hbq.os, hbq.tape, hbq.output, hbq.size, hbq.block⟩⟩
                          case measure => simp [intOf]; omega
                        · have hxR' : x < R := by omega
                          go_wp2_with fail
                          go_quiet (fail)
                          go_wp2
                          go_roundw
                          case rel => exact ⟨q + 1, by omega, by go_num, by rw [hsu, hA0]; have : inR R x = true := (by simp [inR]; omega); simp [this], ⟨hbq.os, hbq.tape, hbq.output, hbq.size, hbq.block⟩⟩
                          case measure => simp [intOf]; omega
                  · have hql : q = l.length := by omega
                    subst hql
                    rw [List.take_length]
                    cases hA : allIn R l
                    · rw [if_neg (by decide)]
                      have hfk : f k = 1 := by rw [hfk1, if_neg (by simp [why, ar, hA])]
                      go_wp2
                      go_ret
                      have e1 : firstBad f (k + 1) = f k := by simp only [firstBad]; rw [hfb.out]; simp
                      have e2 : firstBad f len = f k := by rw [firstBad_stop (by rw [e1, hfk]; decide) len (by omega), e1]
                      have e3 : res = f k := by rw [hres.out, e2, if_pos (by rw [hfk]; decide)]
                      exact ⟨by rw [e3, hfk]; rfl, hbw⟩
                    · rw [if_pos rfl]
                      by_cases he0 : (two (n k) 1 1).2 = 0
                      · have hfk : f k = 0 := by rw [hfk1, if_pos (by simp [why, ar, hA, he0])]
                        go_wp2
                        go_roundw
                        case rel => exact ⟨k + 1, by omega, by go_num, hbw, hFq, by omega, show firstBad f (k + 1) = 0 by simp only [firstBad]; rw [hfb.out]; simpa using hfk⟩
                        case measure => simp [intOf]; omega
                      · have hne : ((two (n k) 1 1).2 != 0) = true := by simpa using he0
                        have hfk : f k = 1 := by rw [hfk1, if_neg (by simp [why, ar, hA, he0])]
                        go_wp2
                        go_ret
                        have e1 : firstBad f (k + 1) = f k := by simp only [firstBad]; rw [hfb.out]; simp
                        have e2 : firstBad f len = f k := by rw [firstBad_stop (by rw [e1, hfk]; decide) len (by omega), e1]
                        have e3 : res = f k := by rw [hres.out, e2, if_pos (by rw [hfk]; decide)]
                        exact ⟨by rw [e3, hfk]; rfl, hbw⟩
              · have hd0' : ds k < 0 := by omega
                go_wp2_with (first | (go_at_call 17; refine (two17 _ _ _ i32one i32one _).mono ?_; rintro e w5 ⟨rfl, hw5⟩; rw [hw5]) | (go_at_call 22; refine (reads22 3 (ds k) (a k) (b k) (n k) (to k) _).mono ?_; rintro e w2 ⟨v2, rfl, hown2, hb2⟩; have hF2 := (hb2.block w.heap.size (by omega)).trans hFa; have hI2 := (hb2.block I (by omega)).trans hIa; have hs2 := hb2.size; have xf1 : w2.cell? ⟨w.heap.size, 1, none⟩ = some (.int .i64 R) := (by simp [World.cell?, hF2]); have xf2 : w2.cell? ⟨w.heap.size, 2, none⟩ = some (.slice (some ⟨cb, off, none⟩) len cap) := (by simp [World.cell?, hF2]); have xi0 : w2.cell? ⟨I, 0, none⟩ = some (.int .i64 3) := (by simp [World.cell?, hI2]); have xi1 : w2.cell? ⟨I, 1, none⟩ = some (.int .i64 (ds k)) := (by simp [World.cell?, hI2]); have xi2 : w2.cell? ⟨I, 2, none⟩ = some (.int .i64 (a k)) := (by simp [World.cell?, hI2]); have xi3 : w2.cell? ⟨I, 3, none⟩ = some (.int .i64 (b k)) := (by simp [World.cell?, hI2]); have xi4 : w2.cell? ⟨I, 4, none⟩ = some (.int .i32 (n k)) := (by simp [World.cell?, hI2]); have xi5 : w2.cell? ⟨I, 5, none⟩ = some (.int .i64 (to k)) := (by simp [World.cell?, hI2])) | (go_at_call 23; refine (writes23 3 (ds k) (a k) (b k) (n k) (to k) _).mono ?_; rintro e w3 ⟨rfl, hb3⟩; rw [hwr]; have hF3 := (hb3.block w.heap.size (by omega)).trans hF2; have hI3 := (hb3.block I (by omega)).trans hI2; have hs3 := hb3.size; have hown3 := own_below hown2 hb3; have yf1 : w3.cell? ⟨w.heap.size, 1, none⟩ = some (.int .i64 R) := (by simp [World.cell?, hF3]); have yf2 : w3.cell? ⟨w.heap.size, 2, none⟩ = some (.slice (some ⟨cb, off, none⟩) len cap) := (by simp [World.cell?, hF3]); have yi0 : w3.cell? ⟨I, 0, none⟩ = some (.int .i64 3) := (by simp [World.cell?, hI3]); have yi1 : w3.cell? ⟨I, 1, none⟩ = some (.int .i64 (ds k)) := (by simp [World.cell?, hI3]); have yi2 : w3.cell? ⟨I, 2, none⟩ = some (.int .i64 (a k)) := (by simp [World.cell?, hI3]); have yi3 : w3.cell? ⟨I, 3, none⟩ = some (.int .i64 (b k)) := (by simp [World.cell?, hI3]); have yi4 : w3.cell? ⟨I, 4, none⟩ = some (.int .i32 (n k)) := (by simp [World.cell?, hI3]); have yi5 : w3.cell? ⟨I, 5, none⟩ = some (.int .i64 (to k)) := (by simp [World.cell?, hI3])) | (at_builtin; refine wpList_append_own _ rfl _ _ 60 rfl (wa.heap.size + 1) 3 i0 (.int .i64 0) 1 8 Tryz.underlying60 hi hz0 hz1 hz2 rfl (by decide) _ _ _ rfl (hown3.alloc _) ⟨w3.heap.size, 0, none⟩ 1 1 [.int .i64 (ds k)] rfl rfl (new1 _ _ _) (one1 _) (by have := rl2_le 3 (a k) (b k) (n k); unfold maxLen; omega) (by have := rl2_le 3 (a k) (b k) (n k); omega) (by simp; omega) ?_; intro v4 w4 hown4 hgrow4 _))
                have hgb : Below wa.heap.size wa w4 := (((hb2.trans (hb3.mono hs2)).alloc (by omega) _).grown hgrow4 (by simp; omega) (fun j hj => by have := (hown3.lt j hj).1; omega))
                have hownz : w4.ownsRow (wa.heap.size + 1) 3 1 v4 (rr 3 (ds k) (a k) (b k) (n k)).length (ints (rr 3 (ds k) (a k) (b k) (n k))) := by
                  have e : rr 3 (ds k) (a k) (b k) (n k) = rl2 3 (a k) (b k) (n k) ++ [ds k] := by unfold rr; rw [hwr]; rfl
                  rw [e, ints_snoc, List.length_append]; simpa using hown4
                clear hown4 hgrow4 hown3 hown2
                generalize w4 = wz at *
                generalize v4 = vz at *
                obtain ⟨rad, rcap, hrv, hrow⟩ := row_get hownz
                have hll := rr_le 3 (ds k) (a k) (b k) (n k)
                have hsz := hgb.size
                have hFz := (hgb.block w.heap.size (by omega)).trans hFa
                have hIz := (hgb.block I (by omega)).trans hIa
                have hbz := hba.trans (hgb.mono (by omega))
                subst hrv
                generalize rr 3 (ds k) (a k) (b k) (n k) = l at *
                clear hownz hgb hb2 hb3 hF2 hI2 hF3 hI3 hs2 hs3 hFa hIa hba
                go_loopw [5, 7] (fun ev j wq => ∃ q : Nat, q ≤ l.length ∧ j = .int .i64 q ∧ ev = .int .i64 (if allIn R (l.take q) = true then (two (n k) 1 1).2 else 1) ∧ Below wz.heap.size wz wq)
                  (fun _ j _ => l.length - (intOf j).toNat)
                case atStart => exact ⟨0, Nat.zero_le _, rfl, by simp [allIn], Below.refl _ _⟩
                case round =>
                  obtain ⟨q, hq, rfl, rfl, hbq⟩ := hrel
                  have hFq := (hbq.block w.heap.size (by omega)).trans hFz
                  have hIq := (hbq.block I (by omega)).trans hIz
                  have hbw := hbz.trans (hbq.mono (by omega))
                  have hsq := hbq.size
                  have zf1 : wr.cell? ⟨w.heap.size, 1, none⟩ = some (.int .i64 R) := (by simp [World.cell?, hFq])
                  have zf2 : wr.cell? ⟨w.heap.size, 2, none⟩ = some (.slice (some ⟨cb, off, none⟩) len cap) := (by simp [World.cell?, hFq])
                  have zi0 : wr.cell? ⟨I, 0, none⟩ = some (.int .i64 3) := (by simp [World.cell?, hIq])
                  have zi1 : wr.cell? ⟨I, 1, none⟩ = some (.int .i64 (ds k)) := (by simp [World.cell?, hIq])
                  have zi2 : wr.cell? ⟨I, 2, none⟩ = some (.int .i64 (a k)) := (by simp [World.cell?, hIq])
                  have zi3 : wr.cell? ⟨I, 3, none⟩ = some (.int .i64 (b k)) := (by simp [World.cell?, hIq])
                  have zi4 : wr.cell? ⟨I, 4, none⟩ = some (.int .i32 (n k)) := (by simp [World.cell?, hIq])
                  have zi5 : wr.cell? ⟨I, 5, none⟩ = some (.int .i64 (to k)) := (by simp [World.cell?, hIq])
                  by_cases hq1 : q < l.length
                  · obtain ⟨g, rfl, hg, hcell0⟩ := hrow q hq1
                    have hcell := (hbq.cell (p := ⟨g, q, none⟩) hg).trans hcell0
                    have hsu := allIn_succ R l q hq1
                    generalize l.getD q 0 = x at hcell hsu hcell0
                    clear hcell0 hrow
                    cases hA0 : allIn R (l.take q)
                    · rw [if_neg (by decide)]
                      by_cases hx0 : x < 0
                      · go_wp2_with fail
                        go_quiet (fail)
                        go_wp2
                        go_roundw
                        case rel => exact ⟨q + 1, by omega, by go_num, by rw [hsu, hA0]; have : inR R x = false := (by simp [inR]; omega); simp [this], ⟨hbq.os, hbq.tape, hbq.output, hbq.size, hbq.block⟩⟩
                        case measure => simp [intOf]; omega
                      · have hx0' : 0 ≤ x := by omega
                        have hxd : decide (x < 0) = false := by simpa using hx0'
                        by_cases hxR : R ≤ x
                        · go_wp2_with fail
                          go_quiet (fail)
                          go_wp2
                          go_roundw
                          case rel => exact ⟨q + 1, by omega, by go_num, by rw [hsu, hA0]; have : inR R x = false := (by simp [inR]; omega); simp [this], ⟨hbq.os, hbq.tape, hbq.output, hbq.size, hbq.block⟩⟩
                          case measure => simp [intOf]; omega
                        · have hxR' : x < R := by omega
                          go_wp2_with fail
                          go_quiet (fail)
                          go_wp2
                          go_roundw
                          case rel => exact ⟨q + 1, by omega, by go_num, by rw [hsu, hA0]; have : inR R x = true := (by simp [inR]; omega); simp [this], ⟨hbq.os, hbq.tape, hbq.output, hbq.size, hbq.block⟩⟩
                          case measure => simp [intOf]; omega
                    · rw [if_pos rfl]
                      by_cases hx0 : x < 0
                      · go_wp2_with fail
                        go_quiet (fail)
                        go_wp2
                        go_roundw
                        case rel => exact ⟨q + 1, by omega, by go_num, by rw [hsu, hA0]; have : inR R x = false := (by simp [inR]; omega); simp [this], ⟨hbq.os, hbq.tape, hbq.output, hbq.size, hbq.block⟩⟩
                        case measure => simp [intOf]; omega
                      · have hx0' : 0 ≤ x := by omega
                        have hxd : decide (x < 0) = false := by simpa using hx0'
                        by_cases hxR : R ≤ x
                        · go_wp2_with fail
                          go_quiet (fail)
                          go_wp2
                          go_roundw
                          case rel => exact ⟨q + 1, by omega, by go_num, by rw [hsu, hA0]; have : inR R x = false := (by simp [inR]; omega); simp [this], ⟨hbq.os, hbq.tape, hbq.output, hbq.size, hbq.block⟩⟩
                          case measure => simp [intOf]; omega
                        · have hxR' : x < R := by omega
                          go_wp2_with fail
                          go_quiet (fail)
                          go_wp2
                          go_roundw
                          case rel => exact ⟨q + 1, by omega, by go_num, by rw [hsu, hA0]; have : inR R x = true := (by simp [inR]; omega); simp [this], ⟨hbq.os, hbq.tape, hbq.output, hbq.size, hbq.block⟩⟩
                          case measure => simp [intOf]; omega
                  · have hql : q = l.length := by omega
                    subst hql
                    rw [List.take_length]
                    cases hA : allIn R l
                    · rw [if_neg (by decide)]
                      have hfk : f k = 1 := by rw [hfk1, if_neg (by simp [why, ar, hA])]
                      go_wp2
                      go_ret
                      have e1 : firstBad f (k + 1) = f k := by simp only [firstBad]; rw [hfb.out]; simp
                      have e2 : firstBad f len = f k := by rw [firstBad_stop (by rw [e1, hfk]; decide) len (by omega), e1]
                      have e3 : res = f k := by rw [hres.out, e2, if_pos (by rw [hfk]; decide)]
                      exact ⟨by rw [e3, hfk]; rfl, hbw⟩
                    · rw [if_pos rfl]
                      by_cases he0 : (two (n k) 1 1).2 = 0
                      · have hfk : f k = 0 := by rw [hfk1, if_pos (by simp [why, ar, hA, he0])]
                        go_wp2
                        go_roundw
                        case rel => exact ⟨k + 1, by omega, by go_num, hbw, hFq, by omega, show firstBad f (k + 1) = 0 by simp only [firstBad]; rw [hfb.out]; simpa using hfk⟩
                        case measure => simp [intOf]; omega
                      · have hne : ((two (n k) 1 1).2 != 0) = true := by simpa using he0
                        have hfk : f k = 1 := by rw [hfk1, if_neg (by simp [why, ar, hA, he0])]
                        go_wp2
                        go_ret
                        have e1 : firstBad f (k + 1) = f k := by simp only [firstBad]; rw [hfb.out]; simp
                        have e2 : firstBad f len = f k := by rw [firstBad_stop (by rw [e1, hfk]; decide) len (by omega), e1]
                        have e3 : res = f k := by rw [hres.out, e2, if_pos (by rw [hfk]; decide)]
                        exact ⟨by rw [e3, hfk]; rfl, hbw⟩
          · as_aux_lemma =>
              have hwr : irx.wr 4 = true := by decide
              by_cases hd0 : 0 ≤ ds k
              · go_wp2_with (first | (go_at_call 18; refine (one18 _ _ i32one _).mono ?_; rintro e w5 ⟨rfl, hw5⟩; rw [hw5]) | (go_at_call 22; refine (reads22 4 (ds k) (a k) (b k) (n k) (to k) _).mono ?_; rintro e w2 ⟨v2, rfl, hown2, hb2⟩; have hF2 := (hb2.block w.heap.size (by omega)).trans hFa; have hI2 := (hb2.block I (by omega)).trans hIa; have hs2 := hb2.size; have xf1 : w2.cell? ⟨w.heap.size, 1, none⟩ = some (.int .i64 R) := (by simp [World.cell?, hF2]); have xf2 : w2.cell? ⟨w.heap.size, 2, none⟩ = some (.slice (some ⟨cb, off, none⟩) len cap) := (by simp [World.cell?, hF2]); have xi0 : w2.cell? ⟨I, 0, none⟩ = some (.int .i64 4) := (by simp [World.cell?, hI2]); have xi1 : w2.cell? ⟨I, 1, none⟩ = some (.int .i64 (ds k)) := (by simp [World.cell?, hI2]); have xi2 : w2.cell? ⟨I, 2, none⟩ = some (.int .i64 (a k)) := (by simp [World.cell?, hI2]); have xi3 : w2.cell? ⟨I, 3, none⟩ = some (.int .i64 (b k)) := (by simp [World.cell?, hI2]); have xi4 : w2.cell? ⟨I, 4, none⟩ = some (.int .i32 (n k)) := (by simp [World.cell?, hI2]); have xi5 : w2.cell? ⟨I, 5, none⟩ = some (.int .i64 (to k)) := (by simp [World.cell?, hI2])) | (go_at_call 23; refine (writes23 4 (ds k) (a k) (b k) (n k) (to k) _).mono ?_; rintro e w3 ⟨rfl, hb3⟩; rw [hwr]; have hF3 := (hb3.block w.heap.size (by omega)).trans hF2; have hI3 := (hb3.block I (by omega)).trans hI2; have hs3 := hb3.size; have hown3 := own_below hown2 hb3; have yf1 : w3.cell? ⟨w.heap.size, 1, none⟩ = some (.int .i64 R) := (by simp [World.cell?, hF3]); have yf2 : w3.cell? ⟨w.heap.size, 2, none⟩ = some (.slice (some ⟨cb, off, none⟩) len cap) := (by simp [World.cell?, hF3]); have yi0 : w3.cell? ⟨I, 0, none⟩ = some (.int .i64 4) := (by simp [World.cell?, hI3]); have yi1 : w3.cell? ⟨I, 1, none⟩ = some (.int .i64 (ds k)) := (by simp [World.cell?, hI3]); have yi2 : w3.cell? ⟨I, 2, none⟩ = some (.int .i64 (a k)) := (by simp [World.cell?, hI3]); have yi3 : w3.cell? ⟨I, 3, none⟩ = some (.int .i64 (b k)) := (by simp [World.cell?, hI3]); have yi4 : w3.cell? ⟨I, 4, none⟩ = some (.int .i32 (n k)) := (by simp [World.cell?, hI3]); have yi5 : w3.cell? ⟨I, 5, none⟩ = some (.int .i64 (to k)) := (by simp [World.cell?, hI3])) | (at_builtin; refine wpList_append_own _ rfl _ _ 60 rfl (wa.heap.size + 1) 3 i0 (.int .i64 0) 1 8 Tryz.underlying60 hi hz0 hz1 hz2 rfl (by decide) _ _ _ rfl (hown3.alloc _) ⟨w3.heap.size, 0, none⟩ 1 1 [.int .i64 (ds k)] rfl rfl (new1 _ _ _) (one1 _) (by have := rl2_le 4 (a k) (b k) (n k); unfold maxLen; omega) (by have := rl2_le 4 (a k) (b k) (n k); omega) (by simp; omega) ?_; intro v4 w4 hown4 hgrow4 _))
                have hgb : Below wa.heap.size wa w4 := (((hb2.trans (hb3.mono hs2)).alloc (by omega) _).grown hgrow4 (by simp; omega) (fun j hj => by have := (hown3.lt j hj).1; omega))
                have hownz : w4.ownsRow (wa.heap.size + 1) 3 1 v4 (rr 4 (ds k) (a k) (b k) (n k)).length (ints (rr 4 (ds k) (a k) (b k) (n k))) := by
                  have e : rr 4 (ds k) (a k) (b k) (n k) = rl2 4 (a k) (b k) (n k) ++ [ds k] := by unfold rr; rw [hwr]; rfl
                  rw [e, ints_snoc, List.length_append]; simpa using hown4
                clear hown4 hgrow4 hown3 hown2
                generalize w4 = wz at *
                generalize v4 = vz at *
                obtain ⟨rad, rcap, hrv, hrow⟩ := row_get hownz
                have hll := rr_le 4 (ds k) (a k) (b k) (n k)
                have hsz := hgb.size
                have hFz := (hgb.block w.heap.size (by omega)).trans hFa
                have hIz := (hgb.block I (by omega)).trans hIa
                have hbz := hba.trans (hgb.mono (by omega))
                subst hrv
                generalize rr 4 (ds k) (a k) (b k) (n k) = l at *
                clear hownz hgb hb2 hb3 hF2 hI2 hF3 hI3 hs2 hs3 hFa hIa hba
                go_loopw [5, 7] (fun ev j wq => ∃ q : Nat, q ≤ l.length ∧ j = .int .i64 q ∧ ev = .int .i64 (if allIn R (l.take q) = true then (one (n k) 1).2 else 1) ∧ Below wz.heap.size wz wq)
                  (fun _ j _ => l.length - (intOf j).toNat)
                case atStart => exact ⟨0, Nat.zero_le _, rfl, by simp [allIn], Below.refl _ _⟩
                case round =>
                  obtain ⟨q, hq, rfl, rfl, hbq⟩ := hrel
                  have hFq := (hbq.block w.heap.size (by omega)).trans hFz
                  have hIq := (hbq.block I (by omega)).trans hIz
                  have hbw := hbz.trans (hbq.mono (by omega))
                  have hsq := hbq.size
                  have zf1 : wr.cell? ⟨w.heap.size, 1, none⟩ = some (.int .i64 R) := (by simp [World.cell?, hFq])
                  have zf2 : wr.cell? ⟨w.heap.size, 2, none⟩ = some (.slice (some ⟨cb, off, none⟩) len cap) := (by simp [World.cell?, hFq])
                  have zi0 : wr.cell? ⟨I, 0, none⟩ = some (.int .i64 4) := (by simp [World.cell?, hIq])
                  have zi1 : wr.cell? ⟨I, 1, none⟩ = some (.int .i64 (ds k)) := (by simp [World.cell?, hIq])
                  have zi2 : wr.cell? ⟨I, 2, none⟩ = some (.int .i64 (a k)) := (by simp [World.cell?, hIq])
                  have zi3 : wr.cell? ⟨I, 3, none⟩ = some (.int .i64 (b k)) := (by simp [World.cell?, hIq])
                  have zi4 : wr.cell? ⟨I, 4, none⟩ = some (.int .i32 (n k)) := (by simp [World.cell?, hIq])
                  have zi5 : wr.cell? ⟨I, 5, none⟩ = some (.int .i64 (to k)) := (by simp [World.cell?, hIq])
                  by_cases hq1 : q < l.length
                  · obtain ⟨g, rfl, hg, hcell0⟩ := hrow q hq1
                    have hcell := (hbq.cell (p := ⟨g, q, none⟩) hg).trans hcell0
                    have hsu := allIn_succ R l q hq1
                    generalize l.getD q 0 = x at hcell hsu hcell0
                    clear hcell0 hrow
                    cases hA0 : allIn R (l.take q)
                    · rw [if_neg (by decide)]
                      by_cases hx0 : x < 0
                      · go_wp2_with fail
                        go_quiet (fail)
                        go_wp2
                        go_roundw
                        case rel => exact ⟨q + 1, by omega, by go_num, by rw [hsu, hA0]; have : inR R x = false := (by simp [inR]; omega); simp [this], ⟨hbq.os, hbq.tape, hbq.output, hbq.size, hbq.block⟩⟩
                        case measure => simp [intOf]; omega
                      · have hx0' : 0 ≤ x := by omega
                        have hxd : decide (x < 0) = false := by simpa using hx0'
                        by_cases hxR : R ≤ x
                        · go_wp2_with fail
                          go_quiet (fail)
                          go_wp2
                          go_roundw
                          case rel => exact ⟨q + 1, by omega, by go_num, by rw [hsu, hA0]; have : inR R x = false := (by simp [inR]; omega); simp [this], ⟨hbq.os, hbq.tape, hbq.output, hbq.size, hbq.block⟩⟩
                          case measure => simp [intOf]; omega
                        · have hxR' : x < R := by omega
                          go_wp2_with fail
                          go_quiet (fail)
                          go_wp2
                          go_roundw
                          case rel => exact ⟨q + 1, by omega, by go_num, by rw [hsu, hA0]; have : inR R x = true := (by simp [inR]; omega); simp [this], ⟨hbq.os, hbq.tape, hbq.output, hbq.size, hbq.block⟩⟩
                          case measure => simp [intOf]; omega
                    · rw [if_pos rfl]
                      by_cases hx0 : x < 0
                      · go_wp2_with fail
                        go_quiet (fail)
                        go_wp2
                        go_roundw
                        case rel => exact ⟨q + 1, by omega, by go_num, by rw [hsu, hA0]; have : inR R x = false := (by simp [inR]; omega); simp [this], ⟨hbq.os, hbq.tape, hbq.output, hbq.size, hbq.block⟩⟩
                        case measure => simp [intOf]; omega
                      · have hx0' : 0 ≤ x := by omega
                        have hxd : decide (x < 0) = false := by simpa using hx0'
                        by_cases hxR : R ≤ x
                        · go_wp2_with fail
                          go_quiet (fail)
                          go_wp2
                          go_roundw
                          case rel => exact ⟨q + 1, by omega, by go_num, by rw [hsu, hA0]; have : inR R x = false := (by simp [inR]; omega); simp [this], ⟨hbq.os, hbq.tape, hbq.output, hbq.size, hbq.block⟩⟩
                          case measure => simp [intOf]; omega
                        · have hxR' : x < R := by omega
                          go_wp2_with fail
                          go_quiet (fail)
                          go_wp2
                          go_roundw
                          case rel => exact ⟨q + 1, by omega, by go_num, by rw [hsu, hA0]; have : inR R x = true := (by simp [inR]; omega); simp [this], ⟨hbq.os, hbq.tape, hbq.output, hbq.size, hbq.block⟩⟩
                          case measure => simp [intOf]; omega
                  · have hql : q = l.length := by omega
                    subst hql
                    rw [List.take_length]
                    cases hA : allIn R l
                    · rw [if_neg (by decide)]
                      have hfk : f k = 1 := by rw [hfk1, if_neg (by simp [why, ar, hA])]
                      go_wp2
                      go_ret
                      have e1 : firstBad f (k + 1) = f k := by simp only [firstBad]; rw [hfb.out]; simp
                      have e2 : firstBad f len = f k := by rw [firstBad_stop (by rw [e1, hfk]; decide) len (by omega), e1]
                      have e3 : res = f k := by rw [hres.out, e2, if_pos (by rw [hfk]; decide)]
                      exact ⟨by rw [e3, hfk]; rfl, hbw⟩
                    · rw [if_pos rfl]
                      by_cases he0 : (one (n k) 1).2 = 0
                      · have hfk : f k = 0 := by rw [hfk1, if_pos (by simp [why, ar, hA, he0])]
                        go_wp2
                        go_roundw
                        case rel => exact ⟨k + 1, by omega, by go_num, hbw, hFq, by omega, show firstBad f (k + 1) = 0 by simp only [firstBad]; rw [hfb.out]; simpa using hfk⟩
                        case measure => simp [intOf]; omega
                      · have hne : ((one (n k) 1).2 != 0) = true := by simpa using he0
                        have hfk : f k = 1 := by rw [hfk1, if_neg (by simp [why, ar, hA, he0])]
                        go_wp2
                        go_ret
                        have e1 : firstBad f (k + 1) = f k := by simp only [firstBad]; rw [hfb.out]; simp
                        have e2 : firstBad f len = f k := by rw [firstBad_stop (by rw [e1, hfk]; decide) len (by omega), e1]
                        have e3 : res = f k := by rw [hres.out, e2, if_pos (by rw [hfk]; decide)]
                        exact ⟨by rw [e3, hfk]; rfl, hbw⟩
              · have hd0' : ds k < 0 := by omega
                go_wp2_with (first | (go_at_call 18; refine (one18 _ _ i32one _).mono ?_; rintro e w5 ⟨rfl, hw5⟩; rw [hw5]) | (go_at_call 22; refine (reads22 4 (ds k) (a k) (b k) (n k) (to k) _).mono ?_; rintro e w2 ⟨v2, rfl, hown2, hb2⟩; have hF2 := (hb2.block w.heap.size (by omega)).trans hFa; have hI2 := (hb2.block I (by omega)).trans hIa; have hs2 := hb2.size; have xf1 : w2.cell? ⟨w.heap.size, 1, none⟩ = some (.int .i64 R) := (by simp [World.cell?, hF2]); have xf2 : w2.cell? ⟨w.heap.size, 2, none⟩ = some (.slice (some ⟨cb, off, none⟩) len cap) := (by simp [World.cell?, hF2]); have xi0 : w2.cell? ⟨I, 0, none⟩ = some (.int .i64 4) := (by simp [World.cell?, hI2]); have xi1 : w2.cell? ⟨I, 1, none⟩ = some (.int .i64 (ds k)) := (by simp [World.cell?, hI2]); have xi2 : w2.cell? ⟨I, 2, none⟩ = some (.int .i64 (a k)) := (by simp [World.cell?, hI2]); have xi3 : w2.cell? ⟨I, 3, none⟩ = some (.int .i64 (b k)) := (by simp [World.cell?, hI2]); have xi4 : w2.cell? ⟨I, 4, none⟩ = some (.int .i32 (n k)) := (by simp [World.cell?, hI2]); have xi5 : w2.cell? ⟨I, 5, none⟩ = some (.int .i64 (to k)) := (by simp [World.cell?, hI2])) | (go_at_call 23; refine (writes23 4 (ds k) (a k) (b k) (n k) (to k) _).mono ?_; rintro e w3 ⟨rfl, hb3⟩; rw [hwr]; have hF3 := (hb3.block w.heap.size (by omega)).trans hF2; have hI3 := (hb3.block I (by omega)).trans hI2; have hs3 := hb3.size; have hown3 := own_below hown2 hb3; have yf1 : w3.cell? ⟨w.heap.size, 1, none⟩ = some (.int .i64 R) := (by simp [World.cell?, hF3]); have yf2 : w3.cell? ⟨w.heap.size, 2, none⟩ = some (.slice (some ⟨cb, off, none⟩) len cap) := (by simp [World.cell?, hF3]); have yi0 : w3.cell? ⟨I, 0, none⟩ = some (.int .i64 4) := (by simp [World.cell?, hI3]); have yi1 : w3.cell? ⟨I, 1, none⟩ = some (.int .i64 (ds k)) := (by simp [World.cell?, hI3]); have yi2 : w3.cell? ⟨I, 2, none⟩ = some (.int .i64 (a k)) := (by simp [World.cell?, hI3]); have yi3 : w3.cell? ⟨I, 3, none⟩ = some (.int .i64 (b k)) := (by simp [World.cell?, hI3]); have yi4 : w3.cell? ⟨I, 4, none⟩ = some (.int .i32 (n k)) := (by simp [World.cell?, hI3]); have yi5 : w3.cell? ⟨I, 5, none⟩ = some (.int .i64 (to k)) := (by simp [World.cell?, hI3])) | (at_builtin; refine wpList_append_own _ rfl _ _ 60 rfl (wa.heap.size + 1) 3 i0 (.int .i64 0) 1 8 Tryz.underlying60 hi hz0 hz1 hz2 rfl (by decide) _ _ _ rfl (hown3.alloc _) ⟨w3.heap.size, 0, none⟩ 1 1 [.int .i64 (ds k)] rfl rfl (new1 _ _ _) (one1 _) (by have := rl2_le 4 (a k) (b k) (n k); unfold maxLen; omega) (by have := rl2_le 4 (a k) (b k) (n k); omega) (by simp; omega) ?_; intro v4 w4 hown4 hgrow4 _))
                have hgb : Below wa.heap.size wa w4 := (((hb2.trans (hb3.mono hs2)).alloc (by omega) _).grown hgrow4 (by simp; omega) (fun j hj => by have := (hown3.lt j hj).1; omega))
                have hownz : w4.ownsRow (wa.heap.size + 1) 3 1 v4 (rr 4 (ds k) (a k) (b k) (n k)).length (ints (rr 4 (ds k) (a k) (b k) (n k))) := by
                  have e : rr 4 (ds k) (a k) (b k) (n k) = rl2 4 (a k) (b k) (n k) ++ [ds k] := by unfold rr; rw [hwr]; rfl
                  rw [e, ints_snoc, List.length_append]; simpa using hown4
                clear hown4 hgrow4 hown3 hown2
                generalize w4 = wz at *
                generalize v4 = vz at *
                obtain ⟨rad, rcap, hrv, hrow⟩ := row_get hownz
                have hll := rr_le 4 (ds k) (a k) (b k) (n k)
                have hsz := hgb.size
                have hFz := (hgb.block w.heap.size (by omega)).trans hFa
                have hIz := (hgb.block I (by omega)).trans hIa
                have hbz := hba.trans (hgb.mono (by omega))
                subst hrv
                generalize rr 4 (ds k) (a k) (b k) (n k) = l at *
                clear hownz hgb hb2 hb3 hF2 hI2 hF3 hI3 hs2 hs3 hFa hIa hba
                go_loopw [5, 7] (fun ev j wq => ∃ q : Nat, q ≤ l.length ∧ j = .int .i64 q ∧ ev = .int .i64 (if allIn R (l.take q) = true then (one (n k) 1).2 else 1) ∧ Below wz.heap.size wz wq)
                  (fun _ j _ => l.length - (intOf j).toNat)
                case atStart => exact ⟨0, Nat.zero_le _, rfl, by simp [allIn], Below.refl _ _⟩
                case round =>
                  obtain ⟨q, hq, rfl, rfl, hbq⟩ := hrel
                  have hFq := (hbq.block w.heap.size (by omega)).trans hFz
                  have hIq := (hbq.block I (by omega)).trans hIz
                  have hbw := hbz.trans (hbq.mono (by omega))
                  have hsq := hbq.size
                  have zf1 : wr.cell? ⟨w.heap.size, 1, none⟩ = some (.int .i64 R) := (by simp [World.cell?, hFq])
                  have zf2 : wr.cell? ⟨w.heap.size, 2, none⟩ = some (.slice (some ⟨cb, off, none⟩) len cap) := (by simp [World.cell?, hFq])
                  have zi0 : wr.cell? ⟨I, 0, none⟩ = some (.int .i64 4) := (by simp [World.cell?, hIq])
                  have zi1 : wr.cell? ⟨I, 1, none⟩ = some (.int .i64 (ds k)) := (by simp [World.cell?, hIq])
                  have zi2 : wr.cell? ⟨I, 2, none⟩ = some (.int .i64 (a k)) := (by simp [World.cell?, hIq])
                  have zi3 : wr.cell? ⟨I, 3, none⟩ = some (.int .i64 (b k)) := (by simp [World.cell?, hIq])
                  have zi4 : wr.cell? ⟨I, 4, none⟩ = some (.int .i32 (n k)) := (by simp [World.cell?, hIq])
                  have zi5 : wr.cell? ⟨I, 5, none⟩ = some (.int .i64 (to k)) := (by simp [World.cell?, hIq])
                  by_cases hq1 : q < l.length
                  · obtain ⟨g, rfl, hg, hcell0⟩ := hrow q hq1
                    have hcell := (hbq.cell (p := ⟨g, q, none⟩) hg).trans hcell0
                    have hsu := allIn_succ R l q hq1
                    generalize l.getD q 0 = x at hcell hsu hcell0
                    clear hcell0 hrow
                    cases hA0 : allIn R (l.take q)
                    · rw [if_neg (by decide)]
                      by_cases hx0 : x < 0
                      · go_wp2_with fail
                        go_quiet (fail)
                        go_wp2
                        go_roundw
                        case rel => exact ⟨q + 1, by omega, by go_num, by rw [hsu, hA0]; have : inR R x = false := (by simp [inR]; omega); simp [this], ⟨hbq.os, hbq.tape, hbq.output, hbq.size, hbq.block⟩⟩
                        case measure => simp [intOf]; omega
                      · have hx0' : 0 ≤ x := by omega
                        have hxd : decide (x < 0) = false := by simpa using hx0'
                        by_cases hxR : R ≤ x
                        · go_wp2_with fail
                          go_quiet (fail)
                          go_wp2
                          go_roundw
                          case rel => exact ⟨q + 1, by omega, by go_num, by rw [hsu, hA0]; have : inR R x = false := (by simp [inR]; omega); simp [this], ⟨hbq.os, hbq.tape, hbq.output, hbq.size, hbq.block⟩⟩
                          case measure => simp [intOf]; omega
                        · have hxR' : x < R := by omega
                          go_wp2_with fail
                          go_quiet (fail)
                          go_wp2
                          go_roundw
                          case rel => exact ⟨q + 1, by omega, by go_num, by rw [hsu, hA0]; have : inR R x = true := (by simp [inR]; omega); simp [this], ⟨hbq.os, hbq.tape, hbq.output, hbq.size, hbq.block⟩⟩
                          case measure => simp [intOf]; omega
                    · rw [if_pos rfl]
                      by_cases hx0 : x < 0
                      · go_wp2_with fail
                        go_quiet (fail)
                        go_wp2
                        go_roundw
                        case rel => exact ⟨q + 1, by omega, by go_num, by rw [hsu, hA0]; have : inR R x = false := (by simp [inR]; omega); simp [this], ⟨hbq.os, hbq.tape, hbq.output, hbq.size, hbq.block⟩⟩
                        case measure => simp [intOf]; omega
                      · have hx0' : 0 ≤ x := by omega
                        have hxd : decide (x < 0) = false := by simpa using hx0'
                        by_cases hxR : R ≤ x
                        · go_wp2_with fail
                          go_quiet (fail)
                          go_wp2
                          go_roundw
                          case rel => exact ⟨q + 1, by omega, by go_num, by rw [hsu, hA0]; have : inR R x = false := (by simp [inR]; omega); simp [this], ⟨hbq.os, hbq.tape, hbq.output, hbq.size, hbq.block⟩⟩
                          case measure => simp [intOf]; omega
                        · have hxR' : x < R := by omega
                          go_wp2_with fail
                          go_quiet (fail)
                          go_wp2
                          go_roundw
                          case rel => exact ⟨q + 1, by omega, by go_num, by rw [hsu, hA0]; have : inR R x = true := (by simp [inR]; omega); simp [this], ⟨hbq.os, hbq.tape, hbq.output, hbq.size, hbq.block⟩⟩
                          case measure => simp [intOf]; omega
                  · have hql : q = l.length := by omega
                    subst hql
                    rw [List.take_length]
                    cases hA : allIn R l
                    · rw [if_neg (by decide)]
                      have hfk : f k = 1 := by rw [hfk1, if_neg (by simp [why, ar, hA])]
                      go_wp2
                      go_ret
                      have e1 : firstBad f (k + 1) = f k := by simp only [firstBad]; rw [hfb.out]; simp
                      have e2 : firstBad f len = f k := by rw [firstBad_stop (by rw [e1, hfk]; decide) len (by omega), e1]
                      have e3 : res = f k := by rw [hres.out, e2, if_pos (by rw [hfk]; decide)]
                      exact ⟨by rw [e3, hfk]; rfl, hbw⟩
                    · rw [if_pos rfl]
                      by_cases he0 : (one (n k) 1).2 = 0
                      · have hfk : f k = 0 := by rw [hfk1, if_pos (by simp [why, ar, hA, he0])]
                        go_wp2
                        go_roundw
                        case rel => exact ⟨k + 1, by omega, by go_num, hbw, hFq, by omega, show firstBad f (k + 1) = 0 by simp only [firstBad]; rw [hfb.out]; simpa using hfk⟩
                        case measure => simp [intOf]; omega
                      · have hne : ((one (n k) 1).2 != 0) = true := by simpa using he0
                        have hfk : f k = 1 := by rw [hfk1, if_neg (by simp [why, ar, hA, he0])]
                        go_wp2
                        go_ret
                        have e1 : firstBad f (k + 1) = f k := by simp only [firstBad]; rw [hfb.out]; simp
                        have e2 : firstBad f len = f k := by rw [firstBad_stop (by rw [e1, hfk]; decide) len (by omega), e1]
                        have e3 : res = f k := by rw [hres.out, e2, if_pos (by rw [hfk]; decide)]
                        exact ⟨by rw [e3, hfk]; rfl, hbw⟩
          · as_aux_lemma =>
              have hwr : irx.wr 5 = false := by decide
              go_wp2_with (first | (go_at_call 22; refine (reads22 5 (ds k) (a k) (b k) (n k) (to k) _).mono ?_; rintro e w2 ⟨v2, rfl, hown2, hb2⟩; have hF2 := (hb2.block w.heap.size (by omega)).trans hFa; have hI2 := (hb2.block I (by omega)).trans hIa; have hs2 := hb2.size; have xf1 : w2.cell? ⟨w.heap.size, 1, none⟩ = some (.int .i64 R) := (by simp [World.cell?, hF2]); have xf2 : w2.cell? ⟨w.heap.size, 2, none⟩ = some (.slice (some ⟨cb, off, none⟩) len cap) := (by simp [World.cell?, hF2]); have xi0 : w2.cell? ⟨I, 0, none⟩ = some (.int .i64 5) := (by simp [World.cell?, hI2]); have xi1 : w2.cell? ⟨I, 1, none⟩ = some (.int .i64 (ds k)) := (by simp [World.cell?, hI2]); have xi2 : w2.cell? ⟨I, 2, none⟩ = some (.int .i64 (a k)) := (by simp [World.cell?, hI2]); have xi3 : w2.cell? ⟨I, 3, none⟩ = some (.int .i64 (b k)) := (by simp [World.cell?, hI2]); have xi4 : w2.cell? ⟨I, 4, none⟩ = some (.int .i32 (n k)) := (by simp [World.cell?, hI2]); have xi5 : w2.cell? ⟨I, 5, none⟩ = some (.int .i64 (to k)) := (by simp [World.cell?, hI2])) | (go_at_call 23; refine (writes23 5 (ds k) (a k) (b k) (n k) (to k) _).mono ?_; rintro e w3 ⟨rfl, hb3⟩; rw [hwr]; have hF3 := (hb3.block w.heap.size (by omega)).trans hF2; have hI3 := (hb3.block I (by omega)).trans hI2; have hs3 := hb3.size; have hown3 := own_below hown2 hb3; have yf1 : w3.cell? ⟨w.heap.size, 1, none⟩ = some (.int .i64 R) := (by simp [World.cell?, hF3]); have yf2 : w3.cell? ⟨w.heap.size, 2, none⟩ = some (.slice (some ⟨cb, off, none⟩) len cap) := (by simp [World.cell?, hF3]); have yi0 : w3.cell? ⟨I, 0, none⟩ = some (.int .i64 5) := (by simp [World.cell?, hI3]); have yi1 : w3.cell? ⟨I, 1, none⟩ = some (.int .i64 (ds k)) := (by simp [World.cell?, hI3]); have yi2 : w3.cell? ⟨I, 2, none⟩ = some (.int .i64 (a k)) := (by simp [World.cell?, hI3]); have yi3 : w3.cell? ⟨I, 3, none⟩ = some (.int .i64 (b k)) := (by simp [World.cell?, hI3]); have yi4 : w3.cell? ⟨I, 4, none⟩ = some (.int .i32 (n k)) := (by simp [World.cell?, hI3]); have yi5 : w3.cell? ⟨I, 5, none⟩ = some (.int .i64 (to k)) := (by simp [World.cell?, hI3])))
              have hgb : Below wa.heap.size wa w3 := hb2.trans (hb3.mono hs2)
              have hownz : w3.ownsRow (wa.heap.size + 1) 3 1 v2 (rr 5 (ds k) (a k) (b k) (n k)).length (ints (rr 5 (ds k) (a k) (b k) (n k))) := by
                have e : rr 5 (ds k) (a k) (b k) (n k) = rl2 5 (a k) (b k) (n k) := by unfold rr; rw [hwr]; simp
                rw [e]; exact hown3
              clear hown3 hown2
              have hwz : w3 = w3 := rfl
              obtain ⟨rad, rcap, hrv, hrow⟩ := row_get hownz
              have hll := rr_le 5 (ds k) (a k) (b k) (n k)
              have hsz := hgb.size
              have hFz := (hgb.block w.heap.size (by omega)).trans hFa
              have hIz := (hgb.block I (by omega)).trans hIa
              have hbz := hba.trans (hgb.mono (by omega))
              subst hrv
              generalize rr 5 (ds k) (a k) (b k) (n k) = l at *
              clear hownz hgb hb2 hb3 hF2 hI2 hF3 hI3 hs2 hs3 hFa hIa hba
              go_loopw [5, 7] (fun ev j wq => ∃ q : Nat, q ≤ l.length ∧ j = .int .i64 q ∧ ev = .int .i64 (if allIn R (l.take q) = true then 0 else 1) ∧ Below w3.heap.size w3 wq)
                (fun _ j _ => l.length - (intOf j).toNat)
              case atStart => exact ⟨0, Nat.zero_le _, rfl, by simp [allIn], Below.refl _ _⟩
              case round =>
                obtain ⟨q, hq, rfl, rfl, hbq⟩ := hrel
                have hFq := (hbq.block w.heap.size (by omega)).trans hFz
                have hIq := (hbq.block I (by omega)).trans hIz
                have hbw := hbz.trans (hbq.mono (by omega))
                have hsq := hbq.size
                have zf1 : wr.cell? ⟨w.heap.size, 1, none⟩ = some (.int .i64 R) := (by simp [World.cell?, hFq])
                have zf2 : wr.cell? ⟨w.heap.size, 2, none⟩ = some (.slice (some ⟨cb, off, none⟩) len cap) := (by simp [World.cell?, hFq])
                have zi0 : wr.cell? ⟨I, 0, none⟩ = some (.int .i64 5) := (by simp [World.cell?, hIq])
                have zi1 : wr.cell? ⟨I, 1, none⟩ = some (.int .i64 (ds k)) := (by simp [World.cell?, hIq])
                have zi2 : wr.cell? ⟨I, 2, none⟩ = some (.int .i64 (a k)) := (by simp [World.cell?, hIq])
                have zi3 : wr.cell? ⟨I, 3, none⟩ = some (.int .i64 (b k)) := (by simp [World.cell?, hIq])
                have zi4 : wr.cell? ⟨I, 4, none⟩ = some (.int .i32 (n k)) := (by simp [World.cell?, hIq])
                have zi5 : wr.cell? ⟨I, 5, none⟩ = some (.int .i64 (to k)) := (by simp [World.cell?, hIq])
                by_cases hq1 : q < l.length
                · obtain ⟨g, rfl, hg, hcell0⟩ := hrow q hq1
                  have hcell := (hbq.cell (p := ⟨g, q, none⟩) hg).trans hcell0
                  have hsu := allIn_succ R l q hq1
                  generalize l.getD q 0 = x at hcell hsu hcell0
                  clear hcell0 hrow
                  cases hA0 : allIn R (l.take q)
                  · rw [if_neg (by decide)]
                    by_cases hx0 : x < 0
                    · go_wp2_with fail
                      go_quiet (fail)
                      go_wp2
                      go_roundw
                      case rel => exact ⟨q + 1, by omega, by go_num, by rw [hsu, hA0]; have : inR R x = false := (by simp [inR]; omega); simp [this], ⟨hbq.os, hbq.tape, hbq.output, hbq.size, hbq.block⟩⟩
                      case measure => simp [intOf]; omega
                    · have hx0' : 0 ≤ x := by omega
                      have hxd : decide (x < 0) = false := by simpa using hx0'
                      by_cases hxR : R ≤ x
                      · go_wp2_with fail
                        go_quiet (fail)
                        go_wp2
                        go_roundw
                        case rel => exact ⟨q + 1, by omega, by go_num, by rw [hsu, hA0]; have : inR R x = false := (by simp [inR]; omega); simp [this], ⟨hbq.os, hbq.tape, hbq.output, hbq.size, hbq.block⟩⟩
                        case measure => simp [intOf]; omega
                      · have hxR' : x < R := by omega
                        go_wp2_with fail
                        go_quiet (fail)
                        go_wp2
                        go_roundw
                        case rel => exact ⟨q + 1, by omega, by go_num, by rw [hsu, hA0]; have : inR R x = true := (by simp [inR]; omega); simp [this], ⟨hbq.os, hbq.tape, hbq.output, hbq.size, hbq.block⟩⟩
                        case measure => simp [intOf]; omega
                  · rw [if_pos rfl]
                    by_cases hx0 : x < 0
                    · go_wp2_with fail
                      go_quiet (fail)
                      go_wp2
                      go_roundw
                      case rel => exact ⟨q + 1, by omega, by go_num, by rw [hsu, hA0]; have : inR R x = false := (by simp [inR]; omega); simp [this], ⟨hbq.os, hbq.tape, hbq.output, hbq.size, hbq.block⟩⟩
                      case measure => simp [intOf]; omega
                    · have hx0' : 0 ≤ x := by omega
                      have hxd : decide (x < 0) = false := by simpa using hx0'
                      by_cases hxR : R ≤ x
                      · go_wp2_with fail
                        go_quiet (fail)
                        go_wp2
                        go_roundw
                        case rel => exact ⟨q + 1, by omega, by go_num, by rw [hsu, hA0]; have : inR R x = false := (by simp [inR]; omega); simp [this], ⟨hbq.os, hbq.tape, hbq.output, hbq.size, hbq.block⟩⟩
                        case measure => simp [intOf]; omega
                      · have hxR' : x < R := by omega
                        go_wp2_with fail
                        go_quiet (fail)
                        go_wp2
                        go_roundw
                        case rel => exact ⟨q + 1, by omega, by go_num, by rw [hsu, hA0]; have : inR R x = true := (by simp [inR]; omega); simp [this], ⟨hbq.os, hbq.tape, hbq.output, hbq.size, hbq.block⟩⟩
                        case measure => simp [intOf]; omega
                · have hql : q = l.length := by omega
                  subst hql
                  rw [List.take_length]
                  cases hA : allIn R l
                  · rw [if_neg (by decide)]
                    have hfk : f k = 1 := by rw [hfk1, if_neg (by simp [why, ar, hA])]
                    go_wp2
                    go_ret
                    have e1 : firstBad f (k + 1) = f k := by simp only [firstBad]; rw [hfb.out]; simp
                    have e2 : firstBad f len = f k := by rw [firstBad_stop (by rw [e1, hfk]; decide) len (by omega), e1]
                    have e3 : res = f k := by rw [hres.out, e2, if_pos (by rw [hfk]; decide)]
                    exact ⟨by rw [e3, hfk]; rfl, hbw⟩
                  · rw [if_pos rfl]
                    by_cases ht0 : to k < 0
                    · have hfk : f k = 1 := by rw [hfk1, if_neg (by simp [why, ar, hA, inR] <;> omega)]
                      go_wp2
                      go_ret
                      have e1 : firstBad f (k + 1) = f k := by simp only [firstBad]; rw [hfb.out]; simp
                      have e2 : firstBad f len = f k := by rw [firstBad_stop (by rw [e1, hfk]; decide) len (by omega), e1]
                      have e3 : res = f k := by rw [hres.out, e2, if_pos (by rw [hfk]; decide)]
                      exact ⟨by rw [e3, hfk]; rfl, hbw⟩
                    · have ht0' : 0 ≤ to k := by omega
                      by_cases ht1 : (len : Int) ≤ to k
                      · have hfk : f k = 1 := by rw [hfk1, if_neg (by simp [why, ar, hA, inR] <;> omega)]
                        go_wp2
                        go_ret
                        have e1 : firstBad f (k + 1) = f k := by simp only [firstBad]; rw [hfb.out]; simp
                        have e2 : firstBad f len = f k := by rw [firstBad_stop (by rw [e1, hfk]; decide) len (by omega), e1]
                        have e3 : res = f k := by rw [hres.out, e2, if_pos (by rw [hfk]; decide)]
                        exact ⟨by rw [e3, hfk]; rfl, hbw⟩
                      · have ht1' : to k < (len : Int) := by omega
                        have hfk : f k = 0 := by rw [hfk1, if_pos (by simp [why, ar, hA, inR] <;> omega)]
                        go_wp2
                        go_roundw
                        case rel => exact ⟨k + 1, by omega, by go_num, hbw, hFq, by omega, show firstBad f (k + 1) = 0 by simp only [firstBad]; rw [hfb.out]; simpa using hfk⟩
                        case measure => simp [intOf]; omega
          · as_aux_lemma =>
              have hwr : irx.wr 6 = false := by decide
              go_wp2_with (first | (go_at_call 20; refine (test20 _ _ _ _).mono ?_; rintro e w5 ⟨rfl, hw5⟩; rw [hw5]) | (go_at_call 22; refine (reads22 6 (ds k) (a k) (b k) (n k) (to k) _).mono ?_; rintro e w2 ⟨v2, rfl, hown2, hb2⟩; have hF2 := (hb2.block w.heap.size (by omega)).trans hFa; have hI2 := (hb2.block I (by omega)).trans hIa; have hs2 := hb2.size; have xf1 : w2.cell? ⟨w.heap.size, 1, none⟩ = some (.int .i64 R) := (by simp [World.cell?, hF2]); have xf2 : w2.cell? ⟨w.heap.size, 2, none⟩ = some (.slice (some ⟨cb, off, none⟩) len cap) := (by simp [World.cell?, hF2]); have xi0 : w2.cell? ⟨I, 0, none⟩ = some (.int .i64 6) := (by simp [World.cell?, hI2]); have xi1 : w2.cell? ⟨I, 1, none⟩ = some (.int .i64 (ds k)) := (by simp [World.cell?, hI2]); have xi2 : w2.cell? ⟨I, 2, none⟩ = some (.int .i64 (a k)) := (by simp [World.cell?, hI2]); have xi3 : w2.cell? ⟨I, 3, none⟩ = some (.int .i64 (b k)) := (by simp [World.cell?, hI2]); have xi4 : w2.cell? ⟨I, 4, none⟩ = some (.int .i32 (n k)) := (by simp [World.cell?, hI2]); have xi5 : w2.cell? ⟨I, 5, none⟩ = some (.int .i64 (to k)) := (by simp [World.cell?, hI2])) | (go_at_call 23; refine (writes23 6 (ds k) (a k) (b k) (n k) (to k) _).mono ?_; rintro e w3 ⟨rfl, hb3⟩; rw [hwr]; have hF3 := (hb3.block w.heap.size (by omega)).trans hF2; have hI3 := (hb3.block I (by omega)).trans hI2; have hs3 := hb3.size; have hown3 := own_below hown2 hb3; have yf1 : w3.cell? ⟨w.heap.size, 1, none⟩ = some (.int .i64 R) := (by simp [World.cell?, hF3]); have yf2 : w3.cell? ⟨w.heap.size, 2, none⟩ = some (.slice (some ⟨cb, off, none⟩) len cap) := (by simp [World.cell?, hF3]); have yi0 : w3.cell? ⟨I, 0, none⟩ = some (.int .i64 6) := (by simp [World.cell?, hI3]); have yi1 : w3.cell? ⟨I, 1, none⟩ = some (.int .i64 (ds k)) := (by simp [World.cell?, hI3]); have yi2 : w3.cell? ⟨I, 2, none⟩ = some (.int .i64 (a k)) := (by simp [World.cell?, hI3]); have yi3 : w3.cell? ⟨I, 3, none⟩ = some (.int .i64 (b k)) := (by simp [World.cell?, hI3]); have yi4 : w3.cell? ⟨I, 4, none⟩ = some (.int .i32 (n k)) := (by simp [World.cell?, hI3]); have yi5 : w3.cell? ⟨I, 5, none⟩ = some (.int .i64 (to k)) := (by simp [World.cell?, hI3])))
              have hgb : Below wa.heap.size wa w3 := hb2.trans (hb3.mono hs2)
              have hownz : w3.ownsRow (wa.heap.size + 1) 3 1 v2 (rr 6 (ds k) (a k) (b k) (n k)).length (ints (rr 6 (ds k) (a k) (b k) (n k))) := by
                have e : rr 6 (ds k) (a k) (b k) (n k) = rl2 6 (a k) (b k) (n k) := by unfold rr; rw [hwr]; simp
                rw [e]; exact hown3
              clear hown3 hown2
              have hwz : w3 = w3 := rfl
              obtain ⟨rad, rcap, hrv, hrow⟩ := row_get hownz
              have hll := rr_le 6 (ds k) (a k) (b k) (n k)
              have hsz := hgb.size
              have hFz := (hgb.block w.heap.size (by omega)).trans hFa
              have hIz := (hgb.block I (by omega)).trans hIa
              have hbz := hba.trans (hgb.mono (by omega))
              subst hrv
              generalize rr 6 (ds k) (a k) (b k) (n k) = l at *
              clear hownz hgb hb2 hb3 hF2 hI2 hF3 hI3 hs2 hs3 hFa hIa hba
              go_loopw [5, 7] (fun ev j wq => ∃ q : Nat, q ≤ l.length ∧ j = .int .i64 q ∧ ev = .int .i64 (if allIn R (l.take q) = true then (test (n k) 1 1).2 else 1) ∧ Below w3.heap.size w3 wq)
                (fun _ j _ => l.length - (intOf j).toNat)
              case atStart => exact ⟨0, Nat.zero_le _, rfl, by simp [allIn], Below.refl _ _⟩
              case round =>
                obtain ⟨q, hq, rfl, rfl, hbq⟩ := hrel
                have hFq := (hbq.block w.heap.size (by omega)).trans hFz
                have hIq := (hbq.block I (by omega)).trans hIz
                have hbw := hbz.trans (hbq.mono (by omega))
                have hsq := hbq.size
                have zf1 : wr.cell? ⟨w.heap.size, 1, none⟩ = some (.int .i64 R) := (by simp [World.cell?, hFq])
                have zf2 : wr.cell? ⟨w.heap.size, 2, none⟩ = some (.slice (some ⟨cb, off, none⟩) len cap) := (by simp [World.cell?, hFq])
                have zi0 : wr.cell? ⟨I, 0, none⟩ = some (.int .i64 6) := (by simp [World.cell?, hIq])
                have zi1 : wr.cell? ⟨I, 1, none⟩ = some (.int .i64 (ds k)) := (by simp [World.cell?, hIq])
                have zi2 : wr.cell? ⟨I, 2, none⟩ = some (.int .i64 (a k)) := (by simp [World.cell?, hIq])
                have zi3 : wr.cell? ⟨I, 3, none⟩ = some (.int .i64 (b k)) := (by simp [World.cell?, hIq])
                have zi4 : wr.cell? ⟨I, 4, none⟩ = some (.int .i32 (n k)) := (by simp [World.cell?, hIq])
                have zi5 : wr.cell? ⟨I, 5, none⟩ = some (.int .i64 (to k)) := (by simp [World.cell?, hIq])
                by_cases hq1 : q < l.length
                · obtain ⟨g, rfl, hg, hcell0⟩ := hrow q hq1
                  have hcell := (hbq.cell (p := ⟨g, q, none⟩) hg).trans hcell0
                  have hsu := allIn_succ R l q hq1
                  generalize l.getD q 0 = x at hcell hsu hcell0
                  clear hcell0 hrow
                  cases hA0 : allIn R (l.take q)
                  · rw [if_neg (by decide)]
                    by_cases hx0 : x < 0
                    · go_wp2_with fail
                      go_quiet (fail)
                      go_wp2
                      go_roundw
                      case rel => exact ⟨q + 1, by omega, by go_num, by rw [hsu, hA0]; have : inR R x = false := (by simp [inR]; omega); simp [this], ⟨hbq.os, hbq.tape, hbq.output, hbq.size, hbq.block⟩⟩
                      case measure => simp [intOf]; omega
                    · have hx0' : 0 ≤ x := by omega
                      have hxd : decide (x < 0) = false := by simpa using hx0'
                      by_cases hxR : R ≤ x
                      · go_wp2_with fail
                        go_quiet (fail)
                        go_wp2
                        go_roundw
                        case rel => exact ⟨q + 1, by omega, by go_num, by rw [hsu, hA0]; have : inR R x = false := (by simp [inR]; omega); simp [this], ⟨hbq.os, hbq.tape, hbq.output, hbq.size, hbq.block⟩⟩
                        case measure => simp [intOf]; omega
                      · have hxR' : x < R := by omega
                        go_wp2_with fail
                        go_quiet (fail)
                        go_wp2
                        go_roundw
                        case rel => exact ⟨q + 1, by omega, by go_num, by rw [hsu, hA0]; have : inR R x = true := (by simp [inR]; omega); simp [this], ⟨hbq.os, hbq.tape, hbq.output, hbq.size, hbq.block⟩⟩
                        case measure => simp [intOf]; omega
                  · rw [if_pos rfl]
                    by_cases hx0 : x < 0
                    · go_wp2_with fail
                      go_quiet (fail)
                      go_wp2
                      go_roundw
                      case rel => exact ⟨q + 1, by omega, by go_num, by rw [hsu, hA0]; have : inR R x = false := (by simp [inR]; omega); simp [this], ⟨hbq.os, hbq.tape, hbq.output, hbq.size, hbq.block⟩⟩
                      case measure => simp [intOf]; omega
                    · have hx0' : 0 ≤ x := by omega
                      have hxd : decide (x < 0) = false := by simpa using hx0'
                      by_cases hxR : R ≤ x
                      · go_wp2_with fail
                        go_quiet (fail)
                        go_wp2
                        go_roundw
                        case rel => exact ⟨q + 1, by omega, by go_num, by rw [hsu, hA0]; have : inR R x = false := (by simp [inR]; omega); simp [this], ⟨hbq.os, hbq.tape, hbq.output, hbq.size, hbq.block⟩⟩
                        case measure => simp [intOf]; omega
                      · have hxR' : x < R := by omega
                        go_wp2_with fail
                        go_quiet (fail)
                        go_wp2
                        go_roundw
                        case rel => exact ⟨q + 1, by omega, by go_num, by rw [hsu, hA0]; have : inR R x = true := (by simp [inR]; omega); simp [this], ⟨hbq.os, hbq.tape, hbq.output, hbq.size, hbq.block⟩⟩
                        case measure => simp [intOf]; omega
                · have hql : q = l.length := by omega
                  subst hql
                  rw [List.take_length]
                  cases hA : allIn R l
                  · rw [if_neg (by decide)]
                    have hfk : f k = 1 := by rw [hfk1, if_neg (by simp [why, ar, hA])]
                    go_wp2
                    go_ret
                    have e1 : firstBad f (k + 1) = f k := by simp only [firstBad]; rw [hfb.out]; simp
                    have e2 : firstBad f len = f k := by rw [firstBad_stop (by rw [e1, hfk]; decide) len (by omega), e1]
                    have e3 : res = f k := by rw [hres.out, e2, if_pos (by rw [hfk]; decide)]
                    exact ⟨by rw [e3, hfk]; rfl, hbw⟩
                  · rw [if_pos rfl]
                    by_cases he0 : (test (n k) 1 1).2 = 0
                    · by_cases ht0 : to k < 0
                      · have hfk : f k = 1 := by rw [hfk1, if_neg (by simp [why, ar, hA, he0, inR] <;> omega)]
                        go_wp2
                        go_ret
                        have e1 : firstBad f (k + 1) = f k := by simp only [firstBad]; rw [hfb.out]; simp
                        have e2 : firstBad f len = f k := by rw [firstBad_stop (by rw [e1, hfk]; decide) len (by omega), e1]
                        have e3 : res = f k := by rw [hres.out, e2, if_pos (by rw [hfk]; decide)]
                        exact ⟨by rw [e3, hfk]; rfl, hbw⟩
                      · have ht0' : 0 ≤ to k := by omega
                        by_cases ht1 : (len : Int) ≤ to k
                        · have hfk : f k = 1 := by rw [hfk1, if_neg (by simp [why, ar, hA, he0, inR] <;> omega)]
                          go_wp2
                          go_ret
                          have e1 : firstBad f (k + 1) = f k := by simp only [firstBad]; rw [hfb.out]; simp
                          have e2 : firstBad f len = f k := by rw [firstBad_stop (by rw [e1, hfk]; decide) len (by omega), e1]
                          have e3 : res = f k := by rw [hres.out, e2, if_pos (by rw [hfk]; decide)]
                          exact ⟨by rw [e3, hfk]; rfl, hbw⟩
                        · have ht1' : to k < (len : Int) := by omega
                          have hfk : f k = 0 := by rw [hfk1, if_pos (by simp [why, ar, hA, he0, inR] <;> omega)]
                          go_wp2
                          go_roundw
                          case rel => exact ⟨k + 1, by omega, by go_num, hbw, hFq, by omega, show firstBad f (k + 1) = 0 by simp only [firstBad]; rw [hfb.out]; simpa using hfk⟩
                          case measure => simp [intOf]; omega
                    · have hne : ((test (n k) 1 1).2 != 0) = true := by simpa using he0
                      have hfk : f k = 1 := by rw [hfk1, if_neg (by simp [why, ar, hA, he0])]
                      go_wp2
                      go_ret
                      have e1 : firstBad f (k + 1) = f k := by simp only [firstBad]; rw [hfb.out]; simp
                      have e2 : firstBad f len = f k := by rw [firstBad_stop (by rw [e1, hfk]; decide) len (by omega), e1]
                      have e3 : res = f k := by rw [hres.out, e2, if_pos (by rw [hfk]; decide)]
                      exact ⟨by rw [e3, hfk]; rfl, hbw⟩
          · as_aux_lemma =>
              have hwr : irx.wr 7 = false := by decide
              go_wp2_with (first | (go_at_call 22; refine (reads22 7 (ds k) (a k) (b k) (n k) (to k) _).mono ?_; rintro e w2 ⟨v2, rfl, hown2, hb2⟩; have hF2 := (hb2.block w.heap.size (by omega)).trans hFa; have hI2 := (hb2.block I (by omega)).trans hIa; have hs2 := hb2.size; have xf1 : w2.cell? ⟨w.heap.size, 1, none⟩ = some (.int .i64 R) := (by simp [World.cell?, hF2]); have xf2 : w2.cell? ⟨w.heap.size, 2, none⟩ = some (.slice (some ⟨cb, off, none⟩) len cap) := (by simp [World.cell?, hF2]); have xi0 : w2.cell? ⟨I, 0, none⟩ = some (.int .i64 7) := (by simp [World.cell?, hI2]); have xi1 : w2.cell? ⟨I, 1, none⟩ = some (.int .i64 (ds k)) := (by simp [World.cell?, hI2]); have xi2 : w2.cell? ⟨I, 2, none⟩ = some (.int .i64 (a k)) := (by simp [World.cell?, hI2]); have xi3 : w2.cell? ⟨I, 3, none⟩ = some (.int .i64 (b k)) := (by simp [World.cell?, hI2]); have xi4 : w2.cell? ⟨I, 4, none⟩ = some (.int .i32 (n k)) := (by simp [World.cell?, hI2]); have xi5 : w2.cell? ⟨I, 5, none⟩ = some (.int .i64 (to k)) := (by simp [World.cell?, hI2])) | (go_at_call 23; refine (writes23 7 (ds k) (a k) (b k) (n k) (to k) _).mono ?_; rintro e w3 ⟨rfl, hb3⟩; rw [hwr]; have hF3 := (hb3.block w.heap.size (by omega)).trans hF2; have hI3 := (hb3.block I (by omega)).trans hI2; have hs3 := hb3.size; have hown3 := own_below hown2 hb3; have yf1 : w3.cell? ⟨w.heap.size, 1, none⟩ = some (.int .i64 R) := (by simp [World.cell?, hF3]); have yf2 : w3.cell? ⟨w.heap.size, 2, none⟩ = some (.slice (some ⟨cb, off, none⟩) len cap) := (by simp [World.cell?, hF3]); have yi0 : w3.cell? ⟨I, 0, none⟩ = some (.int .i64 7) := (by simp [World.cell?, hI3]); have yi1 : w3.cell? ⟨I, 1, none⟩ = some (.int .i64 (ds k)) := (by simp [World.cell?, hI3]); have yi2 : w3.cell? ⟨I, 2, none⟩ = some (.int .i64 (a k)) := (by simp [World.cell?, hI3]); have yi3 : w3.cell? ⟨I, 3, none⟩ = some (.int .i64 (b k)) := (by simp [World.cell?, hI3]); have yi4 : w3.cell? ⟨I, 4, none⟩ = some (.int .i32 (n k)) := (by simp [World.cell?, hI3]); have yi5 : w3.cell? ⟨I, 5, none⟩ = some (.int .i64 (to k)) := (by simp [World.cell?, hI3])))
              have hgb : Below wa.heap.size wa w3 := hb2.trans (hb3.mono hs2)
              have hownz : w3.ownsRow (wa.heap.size + 1) 3 1 v2 (rr 7 (ds k) (a k) (b k) (n k)).length (ints (rr 7 (ds k) (a k) (b k) (n k))) := by
                have e : rr 7 (ds k) (a k) (b k) (n k) = rl2 7 (a k) (b k) (n k) := by unfold rr; rw [hwr]; simp
                rw [e]; exact hown3
              clear hown3 hown2
              have hwz : w3 = w3 := rfl
              obtain ⟨rad, rcap, hrv, hrow⟩ := row_get hownz
              have hll := rr_le 7 (ds k) (a k) (b k) (n k)
              have hsz := hgb.size
              have hFz := (hgb.block w.heap.size (by omega)).trans hFa
              have hIz := (hgb.block I (by omega)).trans hIa
              have hbz := hba.trans (hgb.mono (by omega))
              subst hrv
              generalize rr 7 (ds k) (a k) (b k) (n k) = l at *
              clear hownz hgb hb2 hb3 hF2 hI2 hF3 hI3 hs2 hs3 hFa hIa hba
              go_loopw [5, 7] (fun ev j wq => ∃ q : Nat, q ≤ l.length ∧ j = .int .i64 q ∧ ev = .int .i64 (if allIn R (l.take q) = true then 0 else 1) ∧ Below w3.heap.size w3 wq)
                (fun _ j _ => l.length - (intOf j).toNat)
              case atStart => exact ⟨0, Nat.zero_le _, rfl, by simp [allIn], Below.refl _ _⟩
              case round =>
                obtain ⟨q, hq, rfl, rfl, hbq⟩ := hrel
                have hFq := (hbq.block w.heap.size (by omega)).trans hFz
                have hIq := (hbq.block I (by omega)).trans hIz
                have hbw := hbz.trans (hbq.mono (by omega))
                have hsq := hbq.size
                have zf1 : wr.cell? ⟨w.heap.size, 1, none⟩ = some (.int .i64 R) := (by simp [World.cell?, hFq])
                have zf2 : wr.cell? ⟨w.heap.size, 2, none⟩ = some (.slice (some ⟨cb, off, none⟩) len cap) := (by simp [World.cell?, hFq])
                have zi0 : wr.cell? ⟨I, 0, none⟩ = some (.int .i64 7) := (by simp [World.cell?, hIq])
                have zi1 : wr.cell? ⟨I, 1, none⟩ = some (.int .i64 (ds k)) := (by simp [World.cell?, hIq])
                have zi2 : wr.cell? ⟨I, 2, none⟩ = some (.int .i64 (a k)) := (by simp [World.cell?, hIq])
                have zi3 : wr.cell? ⟨I, 3, none⟩ = some (.int .i64 (b k)) := (by simp [World.cell?, hIq])
                have zi4 : wr.cell? ⟨I, 4, none⟩ = some (.int .i32 (n k)) := (by simp [World.cell?, hIq])
                have zi5 : wr.cell? ⟨I, 5, none⟩ = some (.int .i64 (to k)) := (by simp [World.cell?, hIq])
                by_cases hq1 : q < l.length
                · obtain ⟨g, rfl, hg, hcell0⟩ := hrow q hq1
                  have hcell := (hbq.cell (p := ⟨g, q, none⟩) hg).trans hcell0
                  have hsu := allIn_succ R l q hq1
                  generalize l.getD q 0 = x at hcell hsu hcell0
                  clear hcell0 hrow
                  cases hA0 : allIn R (l.take q)
                  · rw [if_neg (by decide)]
                    by_cases hx0 : x < 0
                    · go_wp2_with fail
                      go_quiet (fail)
                      go_wp2
                      go_roundw
                      case rel => exact ⟨q + 1, by omega, by go_num, by rw [hsu, hA0]; have : inR R x = false := (by simp [inR]; omega); simp [this], ⟨hbq.os, hbq.tape, hbq.output, hbq.size, hbq.block⟩⟩
                      case measure => simp [intOf]; omega
                    · have hx0' : 0 ≤ x := by omega
                      have hxd : decide (x < 0) = false := by simpa using hx0'
                      by_cases hxR : R ≤ x
                      · go_wp2_with fail
                        go_quiet (fail)
                        go_wp2
                        go_roundw
                        case rel => exact ⟨q + 1, by omega, by go_num, by rw [hsu, hA0]; have : inR R x = false := (by simp [inR]; omega); simp [this], ⟨hbq.os, hbq.tape, hbq.output, hbq.size, hbq.block⟩⟩
                        case measure => simp [intOf]; omega
                      · have hxR' : x < R := by omega
                        go_wp2_with fail
                        go_quiet (fail)
                        go_wp2
                        go_roundw
                        case rel => exact ⟨q + 1, by omega, by go_num, by rw [hsu, hA0]; have : inR R x = true := (by simp [inR]; omega); simp [this], ⟨hbq.os, hbq.tape, hbq.output, hbq.size, hbq.block⟩⟩
                        case measure => simp [intOf]; omega
                  · rw [if_pos rfl]
                    by_cases hx0 : x < 0
                    · go_wp2_with fail
                      go_quiet (fail)
                      go_wp2
                      go_roundw
                      case rel => exact ⟨q + 1, by omega, by go_num, by rw [hsu, hA0]; have : inR R x = false := (by simp [inR]; omega); simp [this], ⟨hbq.os, hbq.tape, hbq.output, hbq.size, hbq.block⟩⟩
                      case measure => simp [intOf]; omega
                    · have hx0' : 0 ≤ x := by omega
                      have hxd : decide (x < 0) = false := by simpa using hx0'
                      by_cases hxR : R ≤ x
                      · go_wp2_with fail
                        go_quiet (fail)
                        go_wp2
                        go_roundw
                        case rel => exact ⟨q + 1, by omega, by go_num, by rw [hsu, hA0]; have : inR R x = false := (by simp [inR]; omega); simp [this], ⟨hbq.os, hbq.tape, hbq.output, hbq.size, hbq.block⟩⟩
                        case measure => simp [intOf]; omega
                      · have hxR' : x < R := by omega
                        go_wp2_with fail
                        go_quiet (fail)
                        go_wp2
                        go_roundw
                        case rel => exact ⟨q + 1, by omega, by go_num, by rw [hsu, hA0]; have : inR R x = true := (by simp [inR]; omega); simp [this], ⟨hbq.os, hbq.tape, hbq.output, hbq.size, hbq.block⟩⟩
                        case measure => simp [intOf]; omega
                · have hql : q = l.length := by omega
                  subst hql
                  rw [List.take_length]
                  cases hA : allIn R l
                  · rw [if_neg (by decide)]
                    have hfk : f k = 1 := by rw [hfk1, if_neg (by simp [why, ar, hA])]
                    go_wp2
                    go_ret
                    have e1 : firstBad f (k + 1) = f k := by simp only [firstBad]; rw [hfb.out]; simp
                    have e2 : firstBad f len = f k := by rw [firstBad_stop (by rw [e1, hfk]; decide) len (by omega), e1]
                    have e3 : res = f k := by rw [hres.out, e2, if_pos (by rw [hfk]; decide)]
                    exact ⟨by rw [e3, hfk]; rfl, hbw⟩
                  · rw [if_pos rfl]
                    have hfk : f k = 0 := by rw [hfk1, if_pos (by simp [why, ar, hA])]
                    go_wp2
                    go_roundw
                    case rel => exact ⟨k + 1, by omega, by go_num, hbw, hFq, by omega, show firstBad f (k + 1) = 0 by simp only [firstBad]; rw [hfb.out]; simpa using hfk⟩
                    case measure => simp [intOf]; omega
          · as_aux_lemma =>
              have hwr : irx.wr 8 = false := by decide
              go_wp2_with (first | (go_at_call 22; refine (reads22 8 (ds k) (a k) (b k) (n k) (to k) _).mono ?_; rintro e w2 ⟨v2, rfl, hown2, hb2⟩; have hF2 := (hb2.block w.heap.size (by omega)).trans hFa; have hI2 := (hb2.block I (by omega)).trans hIa; have hs2 := hb2.size; have xf1 : w2.cell? ⟨w.heap.size, 1, none⟩ = some (.int .i64 R) := (by simp [World.cell?, hF2]); have xf2 : w2.cell? ⟨w.heap.size, 2, none⟩ = some (.slice (some ⟨cb, off, none⟩) len cap) := (by simp [World.cell?, hF2]); have xi0 : w2.cell? ⟨I, 0, none⟩ = some (.int .i64 8) := (by simp [World.cell?, hI2]); have xi1 : w2.cell? ⟨I, 1, none⟩ = some (.int .i64 (ds k)) := (by simp [World.cell?, hI2]); have xi2 : w2.cell? ⟨I, 2, none⟩ = some (.int .i64 (a k)) := (by simp [World.cell?, hI2]); have xi3 : w2.cell? ⟨I, 3, none⟩ = some (.int .i64 (b k)) := (by simp [World.cell?, hI2]); have xi4 : w2.cell? ⟨I, 4, none⟩ = some (.int .i32 (n k)) := (by simp [World.cell?, hI2]); have xi5 : w2.cell? ⟨I, 5, none⟩ = some (.int .i64 (to k)) := (by simp [World.cell?, hI2])) | (go_at_call 23; refine (writes23 8 (ds k) (a k) (b k) (n k) (to k) _).mono ?_; rintro e w3 ⟨rfl, hb3⟩; rw [hwr]; have hF3 := (hb3.block w.heap.size (by omega)).trans hF2; have hI3 := (hb3.block I (by omega)).trans hI2; have hs3 := hb3.size; have hown3 := own_below hown2 hb3; have yf1 : w3.cell? ⟨w.heap.size, 1, none⟩ = some (.int .i64 R) := (by simp [World.cell?, hF3]); have yf2 : w3.cell? ⟨w.heap.size, 2, none⟩ = some (.slice (some ⟨cb, off, none⟩) len cap) := (by simp [World.cell?, hF3]); have yi0 : w3.cell? ⟨I, 0, none⟩ = some (.int .i64 8) := (by simp [World.cell?, hI3]); have yi1 : w3.cell? ⟨I, 1, none⟩ = some (.int .i64 (ds k)) := (by simp [World.cell?, hI3]); have yi2 : w3.cell? ⟨I, 2, none⟩ = some (.int .i64 (a k)) := (by simp [World.cell?, hI3]); have yi3 : w3.cell? ⟨I, 3, none⟩ = some (.int .i64 (b k)) := (by simp [World.cell?, hI3]); have yi4 : w3.cell? ⟨I, 4, none⟩ = some (.int .i32 (n k)) := (by simp [World.cell?, hI3]); have yi5 : w3.cell? ⟨I, 5, none⟩ = some (.int .i64 (to k)) := (by simp [World.cell?, hI3])))
              have hgb : Below wa.heap.size wa w3 := hb2.trans (hb3.mono hs2)
              have hownz : w3.ownsRow (wa.heap.size + 1) 3 1 v2 (rr 8 (ds k) (a k) (b k) (n k)).length (ints (rr 8 (ds k) (a k) (b k) (n k))) := by
                have e : rr 8 (ds k) (a k) (b k) (n k) = rl2 8 (a k) (b k) (n k) := by unfold rr; rw [hwr]; simp
                rw [e]; exact hown3
              clear hown3 hown2
              have hwz : w3 = w3 := rfl
              obtain ⟨rad, rcap, hrv, hrow⟩ := row_get hownz
              have hll := rr_le 8 (ds k) (a k) (b k) (n k)
              have hsz := hgb.size
              have hFz := (hgb.block w.heap.size (by omega)).trans hFa
              have hIz := (hgb.block I (by omega)).trans hIa
              have hbz := hba.trans (hgb.mono (by omega))
              subst hrv
              generalize rr 8 (ds k) (a k) (b k) (n k) = l at *
              clear hownz hgb hb2 hb3 hF2 hI2 hF3 hI3 hs2 hs3 hFa hIa hba
              go_loopw [5, 7] (fun ev j wq => ∃ q : Nat, q ≤ l.length ∧ j = .int .i64 q ∧ ev = .int .i64 (if allIn R (l.take q) = true then 0 else 1) ∧ Below w3.heap.size w3 wq)
                (fun _ j _ => l.length - (intOf j).toNat)
              case atStart => exact ⟨0, Nat.zero_le _, rfl, by simp [allIn], Below.refl _ _⟩
              case round =>
                obtain ⟨q, hq, rfl, rfl, hbq⟩ := hrel
                have hFq := (hbq.block w.heap.size (by omega)).trans hFz
                have hIq := (hbq.block I (by omega)).trans hIz
                have hbw := hbz.trans (hbq.mono (by omega))
                have hsq := hbq.size
                have zf1 : wr.cell? ⟨w.heap.size, 1, none⟩ = some (.int .i64 R) := (by simp [World.cell?, hFq])
                have zf2 : wr.cell? ⟨w.heap.size, 2, none⟩ = some (.slice (some ⟨cb, off, none⟩) len cap) := (by simp [World.cell?, hFq])
                have zi0 : wr.cell? ⟨I, 0, none⟩ = some (.int .i64 8) := (by simp [World.cell?, hIq])
                have zi1 : wr.cell? ⟨I, 1, none⟩ = some (.int .i64 (ds k)) := (by simp [World.cell?, hIq])
                have zi2 : wr.cell? ⟨I, 2, none⟩ = some (.int .i64 (a k)) := (by simp [World.cell?, hIq])
                have zi3 : wr.cell? ⟨I, 3, none⟩ = some (.int .i64 (b k)) := (by simp [World.cell?, hIq])
                have zi4 : wr.cell? ⟨I, 4, none⟩ = some (.int .i32 (n k)) := (by simp [World.cell?, hIq])
                have zi5 : wr.cell? ⟨I, 5, none⟩ = some (.int .i64 (to k)) := (by simp [World.cell?, hIq])
                by_cases hq1 : q < l.length
                · obtain ⟨g, rfl, hg, hcell0⟩ := hrow q hq1
                  have hcell := (hbq.cell (p := ⟨g, q, none⟩) hg).trans hcell0
                  have hsu := allIn_succ R l q hq1
                  generalize l.getD q 0 = x at hcell hsu hcell0
                  clear hcell0 hrow
                  cases hA0 : allIn R (l.take q)
                  · rw [if_neg (by decide)]
                    by_cases hx0 : x < 0
                    · go_wp2_with fail
                      go_quiet (fail)
                      go_wp2
                      go_roundw
                      case rel => exact ⟨q + 1, by omega, by go_num, by rw [hsu, hA0]; have : inR R x = false := (by simp [inR]; omega); simp [this], ⟨hbq.os, hbq.tape, hbq.output, hbq.size, hbq.block⟩⟩
                      case measure => simp [intOf]; omega
                    · have hx0' : 0 ≤ x := by omega
                      have hxd : decide (x < 0) = false := by simpa using hx0'
                      by_cases hxR : R ≤ x
                      · go_wp2_with fail
                        go_quiet (fail)
                        go_wp2
                        go_roundw
                        case rel => exact ⟨q + 1, by omega, by go_num, by rw [hsu, hA0]; have : inR R x = false := (by simp [inR]; omega); simp [this], ⟨hbq.os, hbq.tape, hbq.output, hbq.size, hbq.block⟩⟩
                        case measure => simp [intOf]; omega
                      · have hxR' : x < R := by omega
                        go_wp2_with fail
                        go_quiet (fail)
                        go_wp2
                        go_roundw
                        case rel => exact ⟨q + 1, by omega, by go_num, by rw [hsu, hA0]; have : inR R x = true := (by simp [inR]; omega); simp [this], ⟨hbq.os, hbq.tape, hbq.output, hbq.size, hbq.block⟩⟩
                        case measure => simp [intOf]; omega
                  · rw [if_pos rfl]
                    by_cases hx0 : x < 0
                    · go_wp2_with fail
                      go_quiet (fail)
                      go_wp2
                      go_roundw
                      case rel => exact ⟨q + 1, by omega, by go_num, by rw [hsu, hA0]; have : inR R x = false := (by simp [inR]; omega); simp [this], ⟨hbq.os, hbq.tape, hbq.output, hbq.size, hbq.block⟩⟩
                      case measure => simp [intOf]; omega
                    · have hx0' : 0 ≤ x := by omega
                      have hxd : decide (x < 0) = false := by simpa using hx0'
                      by_cases hxR : R ≤ x
                      · go_wp2_with fail
                        go_quiet (fail)
                        go_wp2
                        go_roundw
                        case rel => exact ⟨q + 1, by omega, by go_num, by rw [hsu, hA0]; have : inR R x = false := (by simp [inR]; omega); simp [this], ⟨hbq.os, hbq.tape, hbq.output, hbq.size, hbq.block⟩⟩
                        case measure => simp [intOf]; omega
                      · have hxR' : x < R := by omega
                        go_wp2_with fail
                        go_quiet (fail)
                        go_wp2
                        go_roundw
                        case rel => exact ⟨q + 1, by omega, by go_num, by rw [hsu, hA0]; have : inR R x = true := (by simp [inR]; omega); simp [this], ⟨hbq.os, hbq.tape, hbq.output, hbq.size, hbq.block⟩⟩
                        case measure => simp [intOf]; omega
                · have hql : q = l.length := by omega
                  subst hql
                  rw [List.take_length]
                  cases hA : allIn R l
                  · rw [if_neg (by decide)]
                    have hfk : f k = 1 := by rw [hfk1, if_neg (by simp [why, ar, hA])]
                    go_wp2
                    go_ret
                    have e1 : firstBad f (k + 1) = f k := by simp only [firstBad]; rw [hfb.out]; simp
                    have e2 : firstBad f len = f k := by rw [firstBad_stop (by rw [e1, hfk]; decide) len (by omega), e1]
                    have e3 : res = f k := by rw [hres.out, e2, if_pos (by rw [hfk]; decide)]
                    exact ⟨by rw [e3, hfk]; rfl, hbw⟩
                  · rw [if_pos rfl]
                    have hfk : f k = 0 := by rw [hfk1, if_pos (by simp [why, ar, hA])]
                    go_wp2
                    go_roundw
                    case rel => exact ⟨k + 1, by omega, by go_num, hbw, hFq, by omega, show firstBad f (k + 1) = 0 by simp only [firstBad]; rw [hfb.out]; simpa using hfk⟩
                    case measure => simp [intOf]; omega
          · as_aux_lemma =>
              have hwr : irx.wr 9 = false := by decide
              go_wp2_with (first | (go_at_call 22; refine (reads22 9 (ds k) (a k) (b k) (n k) (to k) _).mono ?_; rintro e w2 ⟨v2, rfl, hown2, hb2⟩; have hF2 := (hb2.block w.heap.size (by omega)).trans hFa; have hI2 := (hb2.block I (by omega)).trans hIa; have hs2 := hb2.size; have xf1 : w2.cell? ⟨w.heap.size, 1, none⟩ = some (.int .i64 R) := (by simp [World.cell?, hF2]); have xf2 : w2.cell? ⟨w.heap.size, 2, none⟩ = some (.slice (some ⟨cb, off, none⟩) len cap) := (by simp [World.cell?, hF2]); have xi0 : w2.cell? ⟨I, 0, none⟩ = some (.int .i64 9) := (by simp [World.cell?, hI2]); have xi1 : w2.cell? ⟨I, 1, none⟩ = some (.int .i64 (ds k)) := (by simp [World.cell?, hI2]); have xi2 : w2.cell? ⟨I, 2, none⟩ = some (.int .i64 (a k)) := (by simp [World.cell?, hI2]); have xi3 : w2.cell? ⟨I, 3, none⟩ = some (.int .i64 (b k)) := (by simp [World.cell?, hI2]); have xi4 : w2.cell? ⟨I, 4, none⟩ = some (.int .i32 (n k)) := (by simp [World.cell?, hI2]); have xi5 : w2.cell? ⟨I, 5, none⟩ = some (.int .i64 (to k)) := (by simp [World.cell?, hI2])) | (go_at_call 23; refine (writes23 9 (ds k) (a k) (b k) (n k) (to k) _).mono ?_; rintro e w3 ⟨rfl, hb3⟩; rw [hwr]; have hF3 := (hb3.block w.heap.size (by omega)).trans hF2; have hI3 := (hb3.block I (by omega)).trans hI2; have hs3 := hb3.size; have hown3 := own_below hown2 hb3; have yf1 : w3.cell? ⟨w.heap.size, 1, none⟩ = some (.int .i64 R) := (by simp [World.cell?, hF3]); have yf2 : w3.cell? ⟨w.heap.size, 2, none⟩ = some (.slice (some ⟨cb, off, none⟩) len cap) := (by simp [World.cell?, hF3]); have yi0 : w3.cell? ⟨I, 0, none⟩ = some (.int .i64 9) := (by simp [World.cell?, hI3]); have yi1 : w3.cell? ⟨I, 1, none⟩ = some (.int .i64 (ds k)) := (by simp [World.cell?, hI3]); have yi2 : w3.cell? ⟨I, 2, none⟩ = some (.int .i64 (a k)) := (by simp [World.cell?, hI3]); have yi3 : w3.cell? ⟨I, 3, none⟩ = some (.int .i64 (b k)) := (by simp [World.cell?, hI3]); have yi4 : w3.cell? ⟨I, 4, none⟩ = some (.int .i32 (n k)) := (by simp [World.cell?, hI3]); have yi5 : w3.cell? ⟨I, 5, none⟩ = some (.int .i64 (to k)) := (by simp [World.cell?, hI3])))
              have hgb : Below wa.heap.size wa w3 := hb2.trans (hb3.mono hs2)
              have hownz : w3.ownsRow (wa.heap.size + 1) 3 1 v2 (rr 9 (ds k) (a k) (b k) (n k)).length (ints (rr 9 (ds k) (a k) (b k) (n k))) := by
                have e : rr 9 (ds k) (a k) (b k) (n k) = rl2 9 (a k) (b k) (n k) := by unfold rr; rw [hwr]; simp
                rw [e]; exact hown3
              clear hown3 hown2
              have hwz : w3 = w3 := rfl
              obtain ⟨rad, rcap, hrv, hrow⟩ := row_get hownz
              have hll := rr_le 9 (ds k) (a k) (b k) (n k)
              have hsz := hgb.size
              have hFz := (hgb.block w.heap.size (by omega)).trans hFa
              have hIz := (hgb.block I (by omega)).trans hIa
              have hbz := hba.trans (hgb.mono (by omega))
              subst hrv
              generalize rr 9 (ds k) (a k) (b k) (n k) = l at *
              clear hownz hgb hb2 hb3 hF2 hI2 hF3 hI3 hs2 hs3 hFa hIa hba
              go_loopw [5, 7] (fun ev j wq => ∃ q : Nat, q ≤ l.length ∧ j = .int .i64 q ∧ ev = .int .i64 (if allIn R (l.take q) = true then 0 else 1) ∧ Below w3.heap.size w3 wq)
                (fun _ j _ => l.length - (intOf j).toNat)
              case atStart => exact ⟨0, Nat.zero_le _, rfl, by simp [allIn], Below.refl _ _⟩
              case round =>
                obtain ⟨q, hq, rfl, rfl, hbq⟩ := hrel
                have hFq := (hbq.block w.heap.size (by omega)).trans hFz
                have hIq := (hbq.block I (by omega)).trans hIz
                have hbw := hbz.trans (hbq.mono (by omega))
                have hsq := hbq.size
                have zf1 : wr.cell? ⟨w.heap.size, 1, none⟩ = some (.int .i64 R) := (by simp [World.cell?, hFq])
                have zf2 : wr.cell? ⟨w.heap.size, 2, none⟩ = some (.slice (some ⟨cb, off, none⟩) len cap) := (by simp [World.cell?, hFq])
                have zi0 : wr.cell? ⟨I, 0, none⟩ = some (.int .i64 9) := (by simp [World.cell?, hIq])
                have zi1 : wr.cell? ⟨I, 1, none⟩ = some (.int .i64 (ds k)) := (by simp [World.cell?, hIq])
                have zi2 : wr.cell? ⟨I, 2, none⟩ = some (.int .i64 (a k)) := (by simp [World.cell?, hIq])
                have zi3 : wr.cell? ⟨I, 3, none⟩ = some (.int .i64 (b k)) := (by simp [World.cell?, hIq])
                have zi4 : wr.cell? ⟨I, 4, none⟩ = some (.int .i32 (n k)) := (by simp [World.cell?, hIq])
                have zi5 : wr.cell? ⟨I, 5, none⟩ = some (.int .i64 (to k)) := (by simp [World.cell?, hIq])
                by_cases hq1 : q < l.length
                · obtain ⟨g, rfl, hg, hcell0⟩ := hrow q hq1
                  have hcell := (hbq.cell (p := ⟨g, q, none⟩) hg).trans hcell0
                  have hsu := allIn_succ R l q hq1
                  generalize l.getD q 0 = x at hcell hsu hcell0
                  clear hcell0 hrow
                  cases hA0 : allIn R (l.take q)
                  · rw [if_neg (by decide)]
                    by_cases hx0 : x < 0
                    · go_wp2_with fail
                      go_quiet (fail)
                      go_wp2
                      go_roundw
                      case rel => exact ⟨q + 1, by omega, by go_num, by rw [hsu, hA0]; have : inR R x = false := (by simp [inR]; omega); simp [this], ⟨hbq.os, hbq.tape, hbq.output, hbq.size, hbq.block⟩⟩
                      case measure => simp [intOf]; omega
                    · have hx0' : 0 ≤ x := by omega
                      have hxd : decide (x < 0) = false := by simpa using hx0'
                      by_cases hxR : R ≤ x
                      · go_wp2_with fail
                        go_quiet (fail)
                        go_wp2
                        go_roundw
                        case rel => exact ⟨q + 1, by omega, by go_num, by rw [hsu, hA0]; have : inR R x = false := (by simp [inR]; omega); simp [this], ⟨hbq.os, hbq.tape, hbq.output, hbq.size, hbq.block⟩⟩
                        case measure => simp [intOf]; omega
                      · have hxR' : x < R := by omega
                        go_wp2_with fail
                        go_quiet (fail)
                        go_wp2
                        go_roundw
                        case rel => exact ⟨q + 1, by omega, by go_num, by rw [hsu, hA0]; have : inR R x = true := (by simp [inR]; omega); simp [this], ⟨hbq.os, hbq.tape, hbq.output, hbq.size, hbq.block⟩⟩
                        case measure => simp [intOf]; omega
                  · rw [if_pos rfl]
                    by_cases hx0 : x < 0
                    · go_wp2_with fail
                      go_quiet (fail)
                      go_wp2
                      go_roundw
                      case rel => exact ⟨q + 1, by omega, by go_num, by rw [hsu, hA0]; have : inR R x = false := (by simp [inR]; omega); simp [this], ⟨hbq.os, hbq.tape, hbq.output, hbq.size, hbq.block⟩⟩
                      case measure => simp [intOf]; omega
                    · have hx0' : 0 ≤ x := by omega
                      have hxd : decide (x < 0) = false := by simpa using hx0'
                      by_cases hxR : R ≤ x
                      · go_wp2_with fail
                        go_quiet (fail)
                        go_wp2
                        go_roundw
                        case rel => exact ⟨q + 1, by omega, by go_num, by rw [hsu, hA0]; have : inR R x = false := (by simp [inR]; omega); simp [this], ⟨hbq.os, hbq.tape, hbq.output, hbq.size, hbq.block⟩⟩
                        case measure => simp [intOf]; omega
                      · have hxR' : x < R := by omega
                        go_wp2_with fail
                        go_quiet (fail)
                        go_wp2
                        go_roundw
                        case rel => exact ⟨q + 1, by omega, by go_num, by rw [hsu, hA0]; have : inR R x = true := (by simp [inR]; omega); simp [this], ⟨hbq.os, hbq.tape, hbq.output, hbq.size, hbq.block⟩⟩
                        case measure => simp [intOf]; omega
                · have hql : q = l.length := by omega
                  subst hql
                  rw [List.take_length]
                  cases hA : allIn R l
                  · rw [if_neg (by decide)]
                    have hfk : f k = 1 := by rw [hfk1, if_neg (by simp [why, ar, hA])]
                    go_wp2
                    go_ret
                    have e1 : firstBad f (k + 1) = f k := by simp only [firstBad]; rw [hfb.out]; simp
                    have e2 : firstBad f len = f k := by rw [firstBad_stop (by rw [e1, hfk]; decide) len (by omega), e1]
                    have e3 : res = f k := by rw [hres.out, e2, if_pos (by rw [hfk]; decide)]
                    exact ⟨by rw [e3, hfk]; rfl, hbw⟩
                  · rw [if_pos rfl]
                    have hfk : f k = 0 := by rw [hfk1, if_pos (by simp [why, ar, hA])]
                    go_wp2
                    go_roundw
                    case rel => exact ⟨k + 1, by omega, by go_num, hbw, hFq, by omega, show firstBad f (k + 1) = 0 by simp only [firstBad]; rw [hfb.out]; simpa using hfk⟩
                    case measure => simp [intOf]; omega
    · have hkl : k = len := by omega
      subst hkl
      cases k with
      | zero =>
        go_wp2
        go_ret
        have e3 : res = 17 := by rw [hres.out, hfb.out]; simp
        exact ⟨by rw [e3]; rfl, hbl⟩
      | succ m =>
        obtain ⟨cb, off, he, hb, hat⟩ := hc m (by simp)
        subst he
        have d0 := (hat.mono hbl hb).c0
        clear hc hra
        have e3 : res = if op m = 5 ∨ op m = 7 ∨ op m = 8 then 0 else 17 := by rw [hres.out, hfb.out]; simp
        have e4 : Hid (res = if op m = 5 ∨ op m = 7 ∨ op m = 8 then 0 else 17) := e3
        clear e3 hres hfb
        go_wp2
        all_goals go_ret
        all_goals refine ⟨?_, hbl⟩
        all_goals rw [e4.out]
        all_goals clear e4
        all_goals go_light
        all_goals simp_all
theorem check10 (F : Fn) (cad : Option Addr) (cap : Nat) (w : World) (hlen : F.len ≤ 60) (hN : Nice F) (hc : Code_ w w.heap.size cad F) :
    Calls Tryz.prog 10 #[fv F cad cap] w fun e w' => e = .returned (.int .i64 (chk ar F)) ∧ Below w.heap.size w w' := by
  obtain ⟨P, R, len, op, ds, a, b, n, to⟩ := F
  cases hh : head ⟨P, R, len, op, ds, a, b, n, to⟩
  · exact check10_ok P R len op ds a b n to cad cap w hlen hh hN hc
  · have e : chk ar ⟨P, R, len, op, ds, a, b, n, to⟩ = 1 := by unfold chk; rw [hh]; simp
    rw [e]
    simp only [head, Bool.or_eq_true, decide_eq_true_eq] at hh
    simp only at hlen
    by_cases q1 : R < 0
    · exact check10_h0 P R cad len cap q1 w
    by_cases q2 : 34 < R
    · exact check10_h1 P R cad len cap (by omega) q2 w
    by_cases q3 : P < 0
    · exact check10_h2 P R cad len cap (by omega) (by omega) q3 w
    exact check10_h3 P R cad len cap (by omega) (by omega) (by omega) (by omega) w
end Go.Proofs.YtondggcbldnhcaaGreat.irx
