/-
  sim.New: a machine in new memory.
-/
import Derived.Test.YtpcocfdgcihpdaaSmC
set_option maxHeartbeats 64000000
set_option maxRecDepth 1000000
set_option linter.unusedVariables false
set_option linter.unusedSimpArgs false
namespace Go.Proofs.Ytpcocfdgcihpdaa.rdw
open Go Go.RowKit Go.BigFrame
open Go.Proofs.Ytpcocfdgcihpdaa Go.Proofs.Ytpcocfdgcihpdaa.wr Go.Proofs.Ytpcocfdgcihpdaa.x86enc
set_option linter.unusedVariables false
set_option linter.unusedSimpArgs false
theorem info66 : (Try.prog.info? 66).map (fun i => (i.zero, i.size, i.bytes)) = some (some (.pointer none), 1, 8) := by kernel_rfl
theorem info21 : (Try.prog.info? 21).map (fun i => (i.zero, i.size, i.bytes)) = some (some (.int .i32 0), 1, 4) := by kernel_rfl
theorem mk58 (L : Nat) (hL : L ≤ 100000) (w : World) : (Instr.makeSlice 58 (.int .i64 (L : Int)) (.int .i64 (L : Int))).run Try.prog w = .ok (.slice (some ⟨w.heap.size, 0, none⟩) L L) (w.alloc (.cells (madeCells #[.pointer none] L) 66)) :=
  run_make_row' 58 66 (.pointer none) 8 Try.underlying58 info66 rfl .i64 .i64 L (by omega) (by omega) w
theorem mk45 (L : Nat) (hL : L ≤ 100000) (w : World) : (Instr.makeSlice 45 (.int .i64 (L : Int)) (.int .i64 (L : Int))).run Try.prog w = .ok (.slice (some ⟨w.heap.size, 0, none⟩) L L) (w.alloc (.cells (madeCells #[.int .i32 0] L) 21)) :=
  run_make_row' 45 21 (.int .i32 0) 4 Try.underlying45 info21 rfl .i64 .i64 L (by omega) (by omega) w
theorem clone26R (bs : List Int) (B : Nat) (v : Value) (w : World) (hB : B ≤ w.heap.size) (h : w.ownsRow B 5 1 v bs.length (u8s bs)) (hne : bs ≠ []) (hlen : bs.length ≤ 100000) :
    Calls Try.prog 26 #[v] w fun e w' => ∃ gb cb : Nat, e = .returned (.slice (some ⟨gb, 0, none⟩) bs.length cb) ∧ w.heap.size ≤ gb ∧ bs.length ≤ cb ∧ cb ≤ 9223372036854775807 ∧ Hid (Row w' gb 0 bs) ∧ Below w.heap.size w w' := by
  refine (clone26 bs B v w hB h hne hlen).mono fun e w' hh => ?_
  obtain ⟨v', rfl, ho, hb⟩ := hh
  obtain ⟨g, cap, rfl, q1, q2, q3⟩ := own_row (n := 0) ho hne
  exact ⟨g, cap, rfl, (ho.lt g rfl).1, q1, q2, Lib.hid q3, hb⟩
def m0 : Mach := ⟨fun _ => 0, [], 0, false, false, false, 0, 0⟩
theorem look_new {w : World} {o x : Obj} {g : Nat} (hg : g = w.heap.size) (ho : o = x) : (w.alloc o).heap[g]? = some x := by subst hg ho; exact heap_alloc_new w o
theorem look_old {w : World} {o x : Obj} {g : Nat} (h : w.heap[g]? = some x) : (w.alloc o).heap[g]? = some x := (Below.heap_alloc _ _ _ (block_lt h)).trans h
theorem look_below {w w1 : World} {x : Obj} {g : Nat} (hb : Below w.heap.size w w1) (h : w.heap[g]? = some x) : w1.heap[g]? = some x := (hb.block _ (block_lt h)).trans h
structure NewM (B : Nat) (w' : World) (g gr gw gb cb : Nat) (bs : List Int) (nw : Nat) : Prop where
  h : w'.heap[g]? = some (.cells (mc (.slice (some ⟨gb, 0, none⟩) bs.length cb) (.slice (some ⟨gr, 0, none⟩) bs.length bs.length) (wsl gw nw) m0 0 0 0 0).toArray 60 (0, 0))
  hr : w'.heap[gr]? = some (.cells (madeCells #[.pointer none] bs.length) 66 (0, 0))
  hw : w'.heap[gw]? = some (.cells (madeCells #[.int .i32 0] nw) 21 (0, 0))
  row : Row w' gb 0 bs
  cap : bs.length ≤ cb ∧ cb ≤ 9223372036854775807
  low : B ≤ g ∧ B ≤ gr ∧ B ≤ gw ∧ B ≤ gb
  dis : g ≠ gr ∧ g ≠ gw ∧ g ≠ gb ∧ gr ≠ gw ∧ gr ≠ gb ∧ gw ≠ gb
theorem new9 (bs : List Int) (B : Nat) (v : Value) (nw : Nat) (w : World) (hB : B ≤ w.heap.size) (h : w.ownsRow B 5 1 v bs.length (u8s bs)) (hne : bs ≠ []) (hlen : bs.length ≤ 100000) (hnw : nw ≤ 256) :
    Calls Try.prog 9 #[v, .int .i64 (nw : Int)] w fun e w' => ∃ g gr gw gb cb : Nat, e = .returned (.tuple #[ptr g, .int .i64 0]) ∧ NewM w.heap.size w' g gr gw gb cb bs nw ∧ Below w.heap.size w w' := by
  have M58 := fun w => mk58 bs.length hlen w
  have M45 := fun w => mk45 nw (by omega) w
  have hd : decide ((256 : Int) < (nw : Int)) = false := by simp; omega
  have C := Lib.hid (fun (w1 : World) (hb : Below w.heap.size w w1) => clone26R bs B v w1 (Nat.le_trans hB hb.size) (own_below h hb) hne hlen)
  obtain ⟨va, vc, rfl⟩ := own_slice h
  have H := Lib.hid h; clear h
  go_enter Try.func9, Try.ntmps9
  go_wp2_with fail
  go_region_law (go_simp; go_at_call 26; refine (C.out _ (by first | exact (Below.refl _ _).drew | exact (Below.refl _ _).drew.alloc (Nat.le_refl _) _ | exact ((Below.refl _ _).drew.alloc (Nat.le_refl _) _).alloc (by simp) _)).mono ?_; rintro e w1 ⟨gb, cb, rfl, hgb, hcb, hcb2, hrow, hb1⟩)
  all_goals go_wp2
  all_goals go_ret2
  all_goals
    have s1 := hb1.size
    have s2 := hrow.out.1
    have s3 : w.drew.heap.size = w.heap.size := rfl
    simp [s3] at s1 hgb
    refine ⟨_, _, _, gb, cb, rfl, ⟨look_new (by simp) rfl, ?_, ?_, hrow.out.mono (by first | exact Below.refl _ _ | exact (Below.refl _ _).alloc (Nat.le_refl _) _ | exact ((Below.refl _ _).alloc (Nat.le_refl _) _).alloc (by simp) _ | exact (((Below.refl _ _).alloc (Nat.le_refl _) _).alloc (by simp) _).alloc (by first | omega | (simp; omega)) _), ⟨hcb, hcb2⟩, by first | omega | (simp [s3]; omega), by first | omega | (simp [s3]; omega)⟩, ?_⟩
    · repeat (first | exact look_new (by simp) rfl | refine look_old ?_ | refine look_below hb1 ?_)
    · repeat (first | exact look_new (by simp) rfl | refine look_old ?_ | refine look_below hb1 ?_)
    · repeat (first | exact Below.refl _ _ | exact (Below.refl _ _).drew | refine Below.drew ?_ | refine Below.alloc ?_ (by first | omega | (simp [s3]; done) | (simp [s3]; omega)) _ | refine Below.trans ?_ (hb1.mono (by first | exact Nat.le_refl _ | omega | (simp [s3]; done) | (simp [s3]; omega))))
end Go.Proofs.Ytpcocfdgcihpdaa.rdw
