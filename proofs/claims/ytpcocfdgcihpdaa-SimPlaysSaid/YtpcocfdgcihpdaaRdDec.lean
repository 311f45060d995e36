/-
  x86.Decode: what it answers.
-/
import Derived.Test.YtpcocfdgcihpdaaRdBeg
set_option maxHeartbeats 64000000
set_option maxRecDepth 1000000
set_option linter.unusedVariables false
set_option linter.unusedSimpArgs false
namespace Go.Proofs.Ytpcocfdgcihpdaa.rdw
open Go Go.RowKit
open Go.Proofs.Ytpcocfdgcihpdaa Go.Proofs.Ytpcocfdgcihpdaa.wr
set_option linter.unusedVariables false
set_option linter.unusedSimpArgs false
def decV : RD.Dec → Value
  | .ok op a b n len => .tuple #[.agg #[.int .i64 (op : Int), .int .i64 a, .int .i64 b, .int .i32 n], .int .i64 ((len : Nat) : Int), .int .i64 0]
  | .err e => .tuple #[.agg #[.int .i64 0, .int .i64 0, .int .i64 0, .int .i32 0], .int .i64 0, .int .i64 e]
theorem results17 : Try.f38.results = #[.cell 4 30, .tmp 5, .tmp 6] := by kernel_rfl
def DecPost (y : List Int) (w : World) (e : Ending) (w' : World) : Prop := (∃ d, RD.Reads y d ∧ e = .returned (decV d)) ∧ Below w.heap.size w w'
theorem row_drop {w : World} {bb oo : Nat} {x : List Int} (h : Row w bb oo x) (k : Nat) : Row w bb (oo + k) (x.drop k) := by
  refine ⟨h.1, fun j hj => ?_⟩
  rw [List.length_drop] at hj
  have e : (x.drop k).getD j 0 = x.getD (k + j) 0 := by simp only [List.getD, List.getElem?_drop]
  rw [e, Nat.add_assoc]
  exact h.2 (k + j) (by omega)
theorem froz4 {w : World} {g : Nat} {a b c d : Value} (h : w.heap[g]? = some (.cells #[a, b, c, d] 30 (0, 0))) : w.frozen? ⟨g, 0, none⟩ = false ∧ w.frozen? ⟨g, 1, none⟩ = false ∧ w.frozen? ⟨g, 2, none⟩ = false ∧ w.frozen? ⟨g, 3, none⟩ = false := by
  simp [World.frozen?, h]
theorem fin4a {w : World} {g : Nat} (h : w.heap[g]? = some Z4) (a b c d : Value) (o : Obj) : (((((w.setCell ⟨g, 0, none⟩ a).setCell ⟨g, 1, none⟩ b).setCell ⟨g, 2, none⟩ c).setCell ⟨g, 3, none⟩ d).alloc o).heap[g]? = some (.cells #[a, b, c, d] 30 (0, 0)) :=
  (Below.heap_alloc _ _ _ (by simpa using block_lt h)).trans (fin4 h a b c d)
theorem hit_succ {k : Nat} {y : List Int} (h : ∀ k', 1 ≤ k' → k' < k → RD.hit k' y = false) (h1 : RD.hit k y = false) : ∀ k', 1 ≤ k' → k' < k + 1 → RD.hit k' y = false := by
  intro k' h0 h'
  rcases Nat.lt_or_ge k' k with hlt | hge
  · exact h k' h0 hlt
  · obtain rfl : k' = k := by omega
    exact h1
theorem decode17 (bb oo cap at_ : Nat) (x : List Int) (w : World) (hat : at_ < x.length) (hcap : x.length ≤ cap) (hL2 : cap ≤ 9223372036854775807) (hx : RD.isBytes x) (hr : Row w bb oo x) :
    Calls Try.prog 38 #[.slice (some ⟨bb, oo, none⟩) x.length cap, .int .i64 (at_ : Int)] w (DecPost (x.drop at_) w) := by
  have hy : RD.isBytes (x.drop at_) := fun v hv => hx v (List.mem_of_mem_drop hv)
  have hry := row_drop hr at_
  have hyl : (x.drop at_).length = x.length - at_ := List.length_drop
  generalize hyy : x.drop at_ = y at *
  have HX := Lib.hid hy; clear hy hx
  have HR := Lib.hid hry; clear hry hr
  have HYY := Lib.hid hyy; clear hyy
  have hne : cap ≠ at_ := by omega
  have h1 : decide ((at_ : Int) < 0) = false := by simp
  have h2 : decide (x.length ≤ at_) = false := by simp; omega
  have hyl' := hyl.symm
  have HYL := Lib.hid hyl
  clear hyl
  go_enter Try.func38, Try.ntmps38
  go_wp2_with fail
  go_loopw [7] (fun s wq => ∃ k : Nat, 1 ≤ k ∧ k ≤ 27 ∧ s = .int .i64 k ∧ Below w.heap.size w wq ∧ Hid (wq.heap[w.heap.size]? = some Z4) ∧ Hid (∀ k', 1 ≤ k' → k' < k → RD.hit k' y = false)) (fun s _ => 27 - (intOf s).toNat)
  case atStart => exact ⟨1, by omega, by omega, rfl, (Below.refl _ _).alloc (Nat.le_refl _) _, Lib.hid (heap_alloc_new _ _), Lib.hid fun k' h h' => by omega⟩
  case round =>
    obtain ⟨k, hk1, hk2, rfl, hbel, hZ, hN⟩ := hrel
    have hltZ := block_lt hZ.out
    by_cases hk : k ≤ 26
    · have hkd : decide ((k : Int) ≤ 26) = true := by simp; omega
      have C := fun c => read32 k hk1 hk bb (oo + at_) c y wr (by omega) (by omega) HX.out (HR.out.mono hbel)
      have HC := Lib.hid C; clear C
      cases hh : RD.hit k y with
      | true =>
        have hsn : ((RD.same k y : Nat) : Int) = ((RD.need k y : Nat) : Int) := by
          unfold RD.hit at hh; rw [beq_iff_eq] at hh; rw [hh]
        have hsn2 : (((RD.same k y : Nat) : Int) == ((RD.need k y : Nat) : Int)) = true := by rw [beq_iff_eq]; exact hsn
        clear hsn
        go_wp2_with (go_at_call 50; refine (HC.out _).mono ?_; rintro e w1 ⟨rfl, hb1⟩; have hZ1 := (hb1.block _ hltZ).trans hZ.out; have hl1 := block_lt hZ1; obtain ⟨d0, d1, d2, d3⟩ := cells4 hZ1; obtain ⟨f0, f1, f2, f3⟩ := froz4 hZ1; have HZ1 := Lib.hid hZ1; clear hZ1)
        obtain ⟨g0, g1, g2, g3⟩ := cells4 (fin4a (w := w1) HZ1.out (.int .i64 (k : Int)) (.int .i64 (RD.rdA k y)) (.int .i64 (RD.rdB k y)) (.int .i32 (RD.rdN k y)) (.cells #[.int .i64 (k : Int), .int .i64 (RD.rdA k y), .int .i64 (RD.rdB k y), .int .i32 (RD.rdN k y)] 30))
        obtain ⟨e1, e2, e3, e4, _⟩ := RD.read_at hk1 hk (RD.hit_iff hh)
        refine bodyPost_ret (v := decV (.ok k (RD.rdA k y) (RD.rdB k y) (RD.rdN k y) (RD.need k y))) (by simp [decV, results, results17, go_sem, g0, g1, g2, g3]) rfl ⟨⟨_, ?_, rfl⟩, ?_⟩
        · rw [e4]; exact .ok hk1 hk (RD.hit_iff hh)
        · exact ((((((hbel.trans (hb1.mono hbel.size)).setCell (Nat.le_refl _) _).setCell (Nat.le_refl _) _).setCell (Nat.le_refl _) _).setCell (Nat.le_refl _) _).alloc (by have := hbel.size; have := hb1.size; simp; omega) _)
      | false =>
        have hsn2 : (((RD.same k y : Nat) : Int) == ((RD.need k y : Nat) : Int)) = false := by
          unfold RD.hit at hh
          rw [beq_eq_false_iff_ne] at hh ⊢
          intro e; exact hh (by omega)
        go_wp2_with (go_at_call 50; refine (HC.out _).mono ?_; rintro e w1 ⟨rfl, hb1⟩)
        have hN' : Hid (∀ k', 1 ≤ k' → k' < k + 1 → RD.hit k' y = false) := Lib.hid (hit_succ hN.out hh)
        go_roundw
        case rel => exact ⟨k + 1, by omega, by omega, by go_num, (hbel.trans (hb1.mono hbel.size)).alloc (by have := hbel.size; have := hb1.size; omega) _, Lib.hid ((Below.heap_alloc _ _ _ (Nat.lt_of_lt_of_le hltZ hb1.size)).trans ((hb1.block _ hltZ).trans hZ.out)), hN'⟩
        case measure => simp [intOf]; omega
    · obtain rfl : k = 27 := by omega
      have hN2 : ∀ op, 1 ≤ op → op ≤ 26 → RD.hit op y = false := fun op h1 h2 => hN.out op h1 (by omega)
      have HN2 := Lib.hid hN2; clear hN2 hN
      by_cases h7 : y.length < 7
      · have h7d : decide ((y.length : Int) < 7) = true := by simp; omega
        have C := begins33 bb (oo + at_) (cap - at_) y wr (by omega) (by omega) (by omega) HX.out (HR.out.mono hbel)
        have HC := Lib.hid C; clear C
        go_wp2_with (go_at_call 51; refine HC.out.mono ?_; rintro e w1 ⟨⟨r, rfl, hst⟩, hb1⟩; have hZ1 := (hb1.block _ hltZ).trans hZ.out; obtain ⟨d0, d1, d2, d3⟩ := cells4 hZ1; obtain ⟨f0, f1, f2, f3⟩ := froz4 hZ1; have HZ1 := Lib.hid hZ1; clear hZ1; have HST := Lib.hid hst; clear hst)
        · have hst : RD.start y := HST.out.1 (by assumption)
          obtain ⟨g0, g1, g2, g3⟩ := cells4 (fin4 (w := w1) HZ1.out (.int .i64 0) (.int .i64 0) (.int .i64 0) (.int .i32 0))
          refine bodyPost_ret (v := decV (.err 10)) (by simp [decV, results, results17, go_sem, g0, g1, g2, g3]) rfl ⟨⟨_, .cut HN2.out hst, rfl⟩, ?_⟩
          exact (((((hbel.trans (hb1.mono hbel.size)).setCell (Nat.le_refl _) _).setCell (Nat.le_refl _) _).setCell (Nat.le_refl _) _).setCell (Nat.le_refl _) _)
        · have hr0 : r = false := by assumption
          have hst : ¬ RD.start y := fun h => by have := HST.out.2 h; rw [hr0] at this; cases this
          obtain ⟨g0, g1, g2, g3⟩ := cells4 (fin4 (w := w1) HZ1.out (.int .i64 0) (.int .i64 0) (.int .i64 0) (.int .i32 0))
          refine bodyPost_ret (v := decV (.err 12)) (by simp [decV, results, results17, go_sem, g0, g1, g2, g3]) rfl ⟨⟨_, .bad HN2.out hst, rfl⟩, ?_⟩
          exact (((((hbel.trans (hb1.mono hbel.size)).setCell (Nat.le_refl _) _).setCell (Nat.le_refl _) _).setCell (Nat.le_refl _) _).setCell (Nat.le_refl _) _)
      · have h7d : decide ((y.length : Int) < 7) = false := by simp; omega
        have hZ1 := hZ.out
        obtain ⟨d0, d1, d2, d3⟩ := cells4 hZ1; obtain ⟨f0, f1, f2, f3⟩ := froz4 hZ1; have HZ1 := Lib.hid hZ1; clear hZ1
        go_wp2_with fail
        have hst : ¬ RD.start y := by
          rintro ⟨op, r, s, q1, q2, q3, q4, q5⟩
          have := RD.short_of_start HX.out HN2.out q1 q2 q3 q4 q5
          have := RD.head_le op r s
          omega
        obtain ⟨g0, g1, g2, g3⟩ := cells4 (fin4 (w := wr) HZ1.out (.int .i64 0) (.int .i64 0) (.int .i64 0) (.int .i32 0))
        refine bodyPost_ret (v := decV (.err 12)) (by simp [decV, results, results17, go_sem, g0, g1, g2, g3]) rfl ⟨⟨_, .bad HN2.out hst, rfl⟩, ?_⟩
        exact ((((hbel.setCell (Nat.le_refl _) _).setCell (Nat.le_refl _) _).setCell (Nat.le_refl _) _).setCell (Nat.le_refl _) _)
end Go.Proofs.Ytpcocfdgcihpdaa.rdw
