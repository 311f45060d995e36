/-
  alloc.Scan.
-/
import Derived.Test.YtkejnhmhbmbhcaaAlT
import Derived.Deep.OwnRows
set_option maxHeartbeats 64000000
set_option maxRecDepth 1000000
set_option linter.unusedVariables false
set_option linter.unusedSimpArgs false
namespace Go.Proofs.Ytkejnhmhbmbhcaa.al
open Go Go.RowKit Go.BigFrame
open Go.Proofs.Ytkejnhmhbmbhcaa
theorem bel_drewN {B : Nat} {a w : World} (h : Below B a w) (n : Nat) : Below B a (w.drewN n) := h.trans ⟨rfl, rfl, rfl, Nat.le_refl _, fun _ _ => rfl⟩
structure SpW (w : World) (bs off N : Nat) (s : AlScan.Sps) : Prop where
  v : ∀ i, i < N → w.cell? ⟨bs, off + i * 3, none⟩ = some (.int .i64 (s.V i))
  f : ∀ i, i < N → w.cell? ⟨bs, off + i * 3 + 1, none⟩ = some (.int .i64 (s.F i))
  t : ∀ i, i < N → w.cell? ⟨bs, off + i * 3 + 2, none⟩ = some (.int .i64 (s.T i))
theorem SpW.below {w w' : World} {bs off N : Nat} {s : AlScan.Sps} (h : SpW w bs off N s) (hb : bs < w.heap.size) (ho : Below w.heap.size w w') : SpW w' bs off N s :=
  ⟨fun i hi => (World.cell?_of_block (a := ⟨bs, _, none⟩) (ho.block bs hb)).trans (h.v i hi), fun i hi => (World.cell?_of_block (a := ⟨bs, _, none⟩) (ho.block bs hb)).trans (h.f i hi), fun i hi => (World.cell?_of_block (a := ⟨bs, _, none⟩) (ho.block bs hb)).trans (h.t i hi)⟩
def Good (s : AlScan.Sps) (i : Nat) : Prop := s.F i ≤ s.T i ∧ 0 ≤ s.F i ∧ (0 < i → s.V (i - 1) < s.V i)
structure Srt (s : AlScan.Sps) (N : Nat) (E : Nat → Nat) : Prop where
  same : AlSo.Same (fun i => if i < N then i else 0) E 0 N
  sorted : AlSo.SortedOn (AlSo.ord s.F) E 0 N
theorem Srt.ordr {s : AlScan.Sps} {N : Nat} {E : Nat → Nat} (h : Srt s N E) : AlScan.Ordr s N E := by
  have hlt : ∀ j, j < N → E j < N := fun j hj => by
    obtain ⟨i, _, hi, e⟩ := h.same.fro j (by omega) hj
    rw [e]; simp only [if_pos hi]; exact hi
  refine ⟨hlt, fun i j hi hj e => ?_, fun g hg => ?_, fun i j h1 h2 => ?_⟩
  · rcases Nat.lt_trichotomy i j with hc | hc | hc
    · have := h.sorted i j (by omega) hc hj
      rw [e] at this
      exact absurd this (by unfold AlSo.ord; omega)
    · exact hc
    · have := h.sorted j i (by omega) hc hi
      rw [e] at this
      exact absurd this (by unfold AlSo.ord; omega)
  · obtain ⟨j, _, hj, e⟩ := h.same.to g (by omega) hg
    exact ⟨j, hj, by rw [e]; simp only [if_pos hg]⟩
  · have := h.sorted i j (by omega) h1 h2
    unfold AlSo.ord at this
    omega
def refusal (n : Int) : Ending := .returned (.tuple #[.slice none 0 0, .int .i64 0, .int .i64 n])
def ScanG (w : World) (R N : Nat) (s : AlScan.Sps) (e : Ending) (w' : World) : Prop :=
  ∃ (ob : Nat) (E : Nat → Nat) (a : AlScan.St), Srt s N E ∧ AlScan.At s R N N E a ∧ PlM w' ob N s.V a.reg a.spill ∧ w.heap.size ≤ ob ∧ ob < w'.heap.size ∧ e = .returned (.tuple #[.slice (some ⟨ob, 0, none⟩) N N, .int .i64 (a.cnt : Int), .int .i64 0])
def ScanO (w : World) (R N : Nat) (s : AlScan.Sps) (e : Ending) (w' : World) : Prop :=
  Below w.heap.size w w' ∧ ((¬ (∀ i, i < N → Good s i) ∧ e = refusal 12) ∨ ((∀ i, i < N → Good s i) ∧ ScanG w R N s e w'))
theorem ScanO.bad {w w' wr : World} {R N k : Nat} {s : AlScan.Sps} (hk : k < N) (h : ¬ Good s k) (hb : Below w.heap.size w wr) (hb' : Below wr.heap.size wr w') : ScanO w R N s (refusal 12) w' :=
  ⟨hb.trans (hb'.mono hb.size), .inl ⟨fun hg => h (hg k hk), rfl⟩⟩
theorem good_lt {s : AlScan.Sps} {N : Nat} (h : ∀ i, i < N → Good s i) : ∀ d i, i + d + 1 < N → s.V i < s.V (i + d + 1) := by
  intro d
  induction d with
  | zero => intro i hi; have := (h (i + 0 + 1) hi).2.2 (by omega); simpa using this
  | succ d ih =>
    intro i hi
    have h1 := ih i (by omega)
    have h2 := (h (i + (d + 1) + 1) hi).2.2 (by omega)
    have e : i + (d + 1) + 1 - 1 = i + d + 1 := by omega
    rw [e] at h2
    omega
theorem good_v {s : AlScan.Sps} {N : Nat} (h : ∀ i, i < N → Good s i) : ∀ x y, x < N → y < N → x ≠ y → s.V x ≠ s.V y := fun x y hx hy hne => by
  rcases Nat.lt_or_ge x y with hc | hc
  · have := good_lt h (y - x - 1) x (by omega)
    rw [show x + (y - x - 1) + 1 = y by omega] at this
    omega
  · have := good_lt h (x - y - 1) y (by omega)
    rw [show y + (x - y - 1) + 1 = x by omega] at this
    omega
theorem SpM.below {w w' : World} {bl bs off N cap : Nat} {s : AlScan.Sps} (h : SpM w bl bs off N cap s) (hN : 0 < N) (ho : Below w.heap.size w w') : SpM w' bl bs off N cap s := by
  have h1 : bl < w.heap.size := World.block_lt_of_cell? w ⟨bl, 0, none⟩ (h.l hN)
  have h2 : bs < w.heap.size := World.block_lt_of_cell? w ⟨bs, off + 0 * 3, none⟩ (h.v 0 hN)
  exact ⟨fun _ => (World.cell?_of_block (a := ⟨bl, _, none⟩) (ho.block bl h1)).trans (h.l hN), fun i hi => (World.cell?_of_block (a := ⟨bs, _, none⟩) (ho.block bs h2)).trans (h.v i hi), fun i hi => (World.cell?_of_block (a := ⟨bs, _, none⟩) (ho.block bs h2)).trans (h.f i hi), fun i hi => (World.cell?_of_block (a := ⟨bs, _, none⟩) (ho.block bs h2)).trans (h.t i hi)⟩
theorem chk_next {w wr : World} {bs off N cap k : Nat} {s : AlScan.Sps} (hN : 0 < N) (hS : SpM wr w.heap.size bs off N cap s) (hB : Below w.heap.size w wr) (hz : w.heap.size + 1 ≤ wr.heap.size) (hg : ∀ i, i < k → Good s i) (o : Obj) (m : Nat) (h : Good s k) :
    SpM ((wr.alloc o).drewN m) w.heap.size bs off N cap s ∧ Below w.heap.size w ((wr.alloc o).drewN m) ∧ w.heap.size + 1 ≤ ((wr.alloc o).drewN m).heap.size ∧ ∀ i, i < k + 1 → Good s i := by
  have hb : Below wr.heap.size wr ((wr.alloc o).drewN m) := bel_drewN ((Below.refl _ _).alloc (Nat.le_refl _) _) _
  refine ⟨hS.below hN hb, hB.trans (hb.mono hB.size), by have := hb.size; omega, fun i hi => ?_⟩
  by_cases e : i = k
  · rw [e]; exact h
  · exact hg i (by omega)
theorem mk23 (L : Nat) (hL : L ≤ 100000) (w : World) : (Instr.makeSlice 23 (.int .i64 (L : Int)) (.int .i64 (L : Int))).run Try.prog w = .ok (.slice (some ⟨w.heap.size, 0, none⟩) L L) (w.alloc (.cells (madeCells #[.int .i64 0, .int .i64 0, .int .i64 0] (L * 3)) 33)) := by
  obtain ⟨i0, hi, hz0, hz1, hz2⟩ := info_parts info33
  have hr := run_make (P := Try.prog) w 23 33 i0 _ Try.underlying23 hi hz0 .i64 .i64 L L (by omega) (Int.le_refl _) (by rw [hz2]; omega) (by omega)
  simp only [Int.toNat_natCast, hz1] at hr
  exact hr
theorem mk37 (L : Nat) (hL : L ≤ 100000) (w : World) : (Instr.makeSlice 37 (.int .i64 (L : Int)) (.int .i64 (L : Int))).run Try.prog w = .ok (.slice (some ⟨w.heap.size, 0, none⟩) L L) (w.alloc (.cells (madeCells #[.int .i64 0] L) 3)) :=
  run_make_row' 37 3 (.int .i64 0) 8 Try.underlying37 info3 rfl .i64 .i64 L (by omega) (by omega) w
theorem PlM.zero {w : World} {g N : Nat} (h : w.heap[g]? = some (.cells (madeCells #[.int .i64 0, .int .i64 0, .int .i64 0] (N * 3)) 33 (0, 0))) : PlM w g N (fun _ => 0) (fun _ => 0) (fun _ => 0) := by
  have key : ∀ j, j < N * 3 → w.cell? ⟨g, j, none⟩ = some (.int .i64 0) := fun j hj => by
    rw [cell_of_row w g j _ _ _ h]
    simp only [madeCells, Array.getElem?_map]
    rw [Array.getElem?_range, if_pos hj]
    simp only [Option.map_some]
    congr 1
    rcases (show j % 3 = 0 ∨ j % 3 = 1 ∨ j % 3 = 2 by omega) with e | e | e <;> simp [e]
  exact ⟨fun i hi => key _ (by omega), fun i hi => key _ (by omega), fun i hi => key _ (by omega), fun j => frozen_of_row w g j _ _ h⟩
theorem IRow.zero {w : World} {g N : Nat} (h : w.heap[g]? = some (.cells (madeCells #[.int .i64 0] N) 3 (0, 0))) : IRow w g N (fun _ => 0) := by
  constructor
  rw [h]
  congr 2
  apply Array.ext'
  simp only [madeCells, Array.toList_map, Array.toList_range]
  apply List.map_congr_left
  intro i hi
  simp [Nat.mod_one]
structure FillS (w wq : World) (bs off N cap ob gb k : Nat) (s : AlScan.Sps) : Prop where
  sp : SpM wq w.heap.size bs off N cap s
  bw : Below w.heap.size w wq
  pl : PlM wq ob N (fun i => if i < k then s.V i else 0) (fun i => if i < k then -1 else 0) (fun i => if i < k then -1 else 0)
  od : IRow wq gb N (fun i => if i < k then i else 0)
  o1 : w.heap.size < ob
  o2 : ob < gb
  o3 : gb < wq.heap.size
theorem FillS.start {w wr : World} {bs off N cap : Nat} {s : AlScan.Sps} (hN : 0 < N) (hS : SpM wr w.heap.size bs off N cap s) (hB : Below w.heap.size w wr) (hz : w.heap.size + 1 ≤ wr.heap.size) :
    FillS w ((wr.alloc (Obj.cells (madeCells #[.int .i64 0, .int .i64 0, .int .i64 0] (N * 3)) 33)).alloc (Obj.cells (madeCells #[.int .i64 0] N) 3)) bs off N cap wr.heap.size (wr.heap.size + 1) 0 s := by
  have b1 : Below wr.heap.size wr ((wr.alloc (Obj.cells (madeCells #[.int .i64 0, .int .i64 0, .int .i64 0] (N * 3)) 33)).alloc (Obj.cells (madeCells #[.int .i64 0] N) 3)) := ((Below.refl _ _).alloc (Nat.le_refl _) _).alloc (by simp) _
  refine ⟨hS.below hN b1, hB.trans (b1.mono hB.size), ?_, ?_, by omega, by omega, by simp⟩
  · refine PlM.zero ?_
    rw [Below.heap_alloc _ _ _ (by simp)]
    exact heap_alloc_new wr _
  · refine IRow.zero ?_
    have := heap_alloc_new (wr.alloc (Obj.cells (madeCells #[.int .i64 0, .int .i64 0, .int .i64 0] (N * 3)) 33)) (Obj.cells (madeCells #[.int .i64 0] N) 3)
    simpa using this
theorem FillS.next {w wq : World} {bs off N cap ob gb k : Nat} {s : AlScan.Sps} (h : FillS w wq bs off N cap ob gb k s) (hN : 0 < N) (hbs : bs < w.heap.size) (hk : k < N) {o : Obj} :
    FillS w (((((wq.setCell ⟨ob, k * 3, none⟩ (.int .i64 (s.V k))).setCell ⟨ob, k * 3 + 1, none⟩ (.int .i64 (-1))).setCell ⟨ob, k * 3 + 2, none⟩ (.int .i64 (-1))).setCell ⟨gb, k, none⟩ (.int .i64 (k : Int))).alloc o) bs off N cap ob gb (k + 1) s := by
  have h1 := h.o1
  have h2 := h.o2
  have h3 := h.o3
  have hw := h.bw.size
  have O1 : Only [ob] wq (((wq.setCell ⟨ob, k * 3, none⟩ (.int .i64 (s.V k))).setCell ⟨ob, k * 3 + 1, none⟩ (.int .i64 (-1))).setCell ⟨ob, k * 3 + 2, none⟩ (.int .i64 (-1))) := (((Only.refl _ _).set _ (by simp)).set _ (by simp)).set _ (by simp)
  have P1 := ((h.pl.setV hk (s.V k)).setR hk (-1)).setS hk (-1)
  have D1 := h.od.keep O1 (by simp <;> omega)
  have D2 := D1.set k k
  generalize hA : ((wq.setCell ⟨ob, k * 3, none⟩ (.int .i64 (s.V k))).setCell ⟨ob, k * 3 + 1, none⟩ (.int .i64 (-1))).setCell ⟨ob, k * 3 + 2, none⟩ (.int .i64 (-1)) = wa at O1 P1 D1 D2 ⊢
  have hsa := O1.size
  have O2 : Only [gb] wa ((wa.setCell ⟨gb, k, none⟩ (.int .i64 (k : Int))).alloc o) := ((Only.refl _ _).set _ (by simp)).alloc _
  have O3 : Only [ob, gb] wq ((wa.setCell ⟨gb, k, none⟩ (.int .i64 (k : Int))).alloc o) := (O1.mono (by simp)).trans (O2.mono (by simp))
  have O4 : Only [] (wa.setCell ⟨gb, k, none⟩ (.int .i64 (k : Int))) ((wa.setCell ⟨gb, k, none⟩ (.int .i64 (k : Int))).alloc o) := (Only.refl _ _).alloc _
  refine ⟨h.sp.keep O3 (by simp <;> omega) (by simp <;> omega), h.bw.trans (O3.below_of (fun c hc => by simp at hc; omega) (by omega)), (P1.keep (by omega) O2 (by simp <;> omega)).of (fun i hi => ?_) (fun i hi => ?_) (fun i hi => ?_), (D2.keep O4 (by simp)).of (funext fun i => ?_), h1, h2, by have := O3.size; omega⟩
  all_goals
    by_cases e : i = k
    · subst e; simp [AlScan.upd_self]
    · rw [AlScan.upd_ne _ _ e]
      by_cases hi2 : i < k
      · simp only [if_pos hi2, if_pos (show i < k + 1 by omega)]
      · simp only [if_neg hi2, if_neg (show ¬ i < k + 1 by omega)]
theorem InS.start {w wr w3 : World} {bs off N cap ob gb R : Nat} {s : AlScan.Sps} (hN : 0 < N) (hbs : bs < w.heap.size) (hG : ∀ i, i < N → Good s i) (h : FillS w wr bs off N cap ob gb N s)
    (hX : (∃ E, IRow w3 gb N E ∧ AlSo.Same (fun i => if i < N then i else 0) E 0 N ∧ AlSo.SortedOn (AlSo.ord s.F) E 0 N) ∧ Only [gb] wr w3) :
    Bks w.heap.size bs w.heap.size ob gb w3.heap.size (w3.heap.size + 1) (w3.heap.size + 1 + 1) (w3.heap.size + 1 + 1 + 1) ∧
    ∃ E, Srt s N E ∧ AlScan.At s R N 0 E AlScan.st0 ∧ InS w (((w3.alloc (Obj.cells #[.slice none 0 0, .func (.func 18) #[] #[ptr w.heap.size]] 51)).alloc (Obj.cells #[.slice none 0 0, .func (.func 19) #[] #[ptr w.heap.size]] 51)).alloc
            (Obj.cells #[.bool false, .bool false, .bool false, .bool false, .bool false, .bool false, .bool false, .bool false, .bool false, .bool false, .bool false, .bool false, .bool false, .bool false, .bool false, .bool false] 52))
          bs w.heap.size ob gb w3.heap.size (w3.heap.size + 1) (w3.heap.size + 1 + 1) (w3.heap.size + 1 + 1 + 1) off N cap 0 s E (fun _ => -1) (fun _ => -1) (fun _ => none) := by
  obtain ⟨⟨E, hE1, hE2, hE3⟩, hO⟩ := hX
  have h1 := h.o1
  have h2 := h.o2
  have h3 := h.o3
  have hsz := hO.size
  have hw := h.bw.size
  have hsrt : Srt s N E := ⟨hE2, hE3⟩
  have K : Bks w.heap.size bs w.heap.size ob gb w3.heap.size (w3.heap.size + 1) (w3.heap.size + 1 + 1) (w3.heap.size + 1 + 1 + 1) := ⟨hbs, by omega, by omega, by omega, by omega, by omega, by omega, by omega⟩
  refine ⟨K, E, hsrt, AlScan.At.start s R N E (fun g hg => (hG g hg).2.1) hsrt.ordr, ?_⟩
  generalize hA : w3.alloc (Obj.cells #[.slice none 0 0, .func (.func 18) #[] #[ptr w.heap.size]] 51) = wa
  generalize hB : wa.alloc (Obj.cells #[.slice none 0 0, .func (.func 19) #[] #[ptr w.heap.size]] 51) = wb
  generalize hC : wb.alloc (Obj.cells #[.bool false, .bool false, .bool false, .bool false, .bool false, .bool false, .bool false, .bool false, .bool false, .bool false, .bool false, .bool false, .bool false, .bool false, .bool false, .bool false] 52) = wc
  have sa : wa.heap.size = w3.heap.size + 1 := by rw [← hA]; simp
  have sb : wb.heap.size = w3.heap.size + 1 + 1 := by rw [← hB]; simp [sa]
  have sc : wc.heap.size = w3.heap.size + 1 + 1 + 1 := by rw [← hC]; simp [sb]
  have na : wa.heap[w3.heap.size]? = some (.cells #[.slice none 0 0, .func (.func 18) #[] #[ptr w.heap.size]] 51 (0, 0)) := by rw [← hA]; exact heap_alloc_new w3 _
  have nb : wb.heap[w3.heap.size + 1]? = some (.cells #[.slice none 0 0, .func (.func 19) #[] #[ptr w.heap.size]] 51 (0, 0)) := by rw [← hB, ← sa]; exact heap_alloc_new wa _
  have nc : wc.heap[w3.heap.size + 1 + 1]? = some (.cells #[.bool false, .bool false, .bool false, .bool false, .bool false, .bool false, .bool false, .bool false, .bool false, .bool false, .bool false, .bool false, .bool false, .bool false, .bool false, .bool false] 52 (0, 0)) := by rw [← hC, ← sb]; exact heap_alloc_new wb _
  have oa : Only [] w3 wa := by rw [← hA]; exact (Only.refl _ _).alloc _
  have ob' : Only [] wa wb := by rw [← hB]; exact (Only.refl _ _).alloc _
  have oc : Only [] wb wc := by rw [← hC]; exact (Only.refl _ _).alloc _
  have o3 : Only [] w3 wc := (oa.trans ob').trans oc
  have n1 : wc.heap[w3.heap.size]? = some (.cells #[.slice none 0 0, .func (.func 18) #[] #[ptr w.heap.size]] 51 (0, 0)) := ((ob'.trans oc).same _ (by omega) (by simp)).trans na
  have n2 : wc.heap[w3.heap.size + 1]? = some (.cells #[.slice none 0 0, .func (.func 19) #[] #[ptr w.heap.size]] 51 (0, 0)) := (oc.same _ (by omega) (by simp)).trans nb
  have o4 : Only [gb] wr wc := hO.trans (o3.mono (by simp))
  have hmt : ∀ y, AlHp.Mem (fun _ => 0) 0 y ↔ AlScan.Held (fun _ => none) y := fun y => ⟨fun ⟨i, hi, _⟩ => absurd hi (by omega), fun ⟨r, hr⟩ => by cases hr⟩
  refine ⟨.slice none 0 0, .slice none 0 0, 0, 0, fun _ => false, ⟨h.sp.keep o4 (by simp <;> omega) (by simp <;> omega), hE1.keep o3 (by simp), ?_, ⟨fun r hr => ?_, fun j => ?_⟩, h.bw.trans (o4.below_of (fun c hc => by simp at hc; omega) (by omega)), by omega⟩,
    ⟨⟨fun _ => 0, ⟨?_, ?_, ?_, ⟨by simp [ints], .inl ⟨rfl, rfl⟩⟩, by omega⟩, fun k h1 h2 => by omega, fun i j hi => by omega, hmt⟩, ⟨fun _ => 0, ⟨?_, ?_, ?_, ⟨by simp [ints], .inl ⟨rfl, rfl⟩⟩, by omega⟩, fun k h1 h2 => by omega, fun i j hi => by omega, hmt⟩, by simp [blk, Value.ownBlock]⟩, fun r hr => rfl, Nat.le_refl _, Nat.le_refl _⟩
  · exact (h.pl.of (fun i hi => (if_pos hi).symm) (fun i hi => (if_pos hi).symm) (fun i hi => (if_pos hi).symm)).keep (by omega) o4 (by simp <;> omega)
  · rw [cell_of_row wc _ r _ _ _ nc]
    rcases (show r = 0 ∨ r = 1 ∨ r = 2 ∨ r = 3 ∨ r = 4 ∨ r = 5 ∨ r = 6 ∨ r = 7 ∨ r = 8 ∨ r = 9 ∨ r = 10 ∨ r = 11 ∨ r = 12 ∨ r = 13 ∨ r = 14 ∨ r = 15 by omega) with e | e | e | e | e | e | e | e | e | e | e | e | e | e | e | e <;> subst e <;> rfl
  · exact frozen_of_row wc _ j _ _ nc
  · rw [cell_of_row wc _ 0 _ _ _ n1]; rfl
  · exact frozen_of_row wc _ 0 _ _ n1
  · rw [cell_of_row wc _ 1 _ _ _ n1]; rfl
  · rw [cell_of_row wc _ 0 _ _ _ n2]; rfl
  · exact frozen_of_row wc _ 0 _ _ n2
  · rw [cell_of_row wc _ 1 _ _ _ n2]; rfl
theorem scan7 (bs off N cap R : Nat) (s : AlScan.Sps) (hN0 : 0 < N) (hN : N ≤ 256) (hR : R ≤ 16) (w : World) (h : SpW w bs off N s) :
    Calls Try.prog 7 #[.slice (some ⟨bs, off, none⟩) N cap, .int .i64 (R : Int)] w (ScanO w R N s) := by
  have hbs : bs < w.heap.size := World.block_lt_of_cell? w ⟨bs, off + 0 * 3, none⟩ (h.v 0 hN0)
  have H := Lib.hid h
  have d1 : decide ((16 : Int) < (R : Int)) = false := by simp; omega
  have d2 : decide ((256 : Int) < (N : Int)) = false := by simp; omega
  clear h
  go_enter Try.func7, Try.ntmps7
  go_wp2_with fail
  go_loopw [35] (fun u wq => ∃ k : Nat, k ≤ N ∧ u = .int .i64 (k : Int) ∧ Hid (SpM wq w.heap.size bs off N cap s ∧ Below w.heap.size w wq ∧ w.heap.size + 1 ≤ wq.heap.size ∧ ∀ i, i < k → Good s i)) (fun u _ => N - (intOf u).toNat)
  case atStart =>
    refine ⟨0, by omega, rfl, Lib.hid ⟨?_, (Below.refl _ _).alloc (Nat.le_refl _) _, by simp, fun i hi => by omega⟩⟩
    have hbel : Below w.heap.size w (w.alloc (.cells #[.slice (some ⟨bs, off, none⟩) N cap] 22)) := (Below.refl _ _).alloc (Nat.le_refl _) _
    have hS := H.out.below hbs hbel
    exact ⟨fun _ => by simp, hS.v, hS.f, hS.t⟩
  case round =>
    obtain ⟨k, hk, rfl, hM⟩ := hrel
    by_cases hkN : k < N
    · have b1 : (k : Int) < (N : Int) := by omega
      obtain ⟨hS, hB, hz, hg⟩ := hM.out
      have cv := hS.v k hkN
      have cf := hS.f k hkN
      have ct := hS.t k hkN
      have cl := hS.l hN0
      have hbsw : bs < wr.heap.size := World.block_lt_of_cell? wr _ cv
      have hblw : w.heap.size < wr.heap.size := by omega
      have HB := Lib.hid hB
      have HV := Lib.hid hS.v
      have HN := Lib.hid (chk_next hN0 hS hB hz hg)
      clear hM hS hB hg
      by_cases c1 : s.T k < s.F k
      · have d3 : decide (s.T k < s.F k) = true := decide_eq_true c1
        have HC := Lib.hid c1
        clear c1
        go_wp2_with fail
        go_quiet (fail)
        go_wp2_with fail
        go_ret3
        exact ScanO.bad hkN (fun hG => by have := hG.1; have := HC.out; omega) HB.out (bel_drewN ((Below.refl _ _).alloc (Nat.le_refl _) _) _)
      · have d3 : decide (s.T k < s.F k) = false := decide_eq_false c1
        by_cases c2 : s.F k < 0
        · have d4 : decide (s.F k < 0) = true := decide_eq_true c2
          have HC := Lib.hid c2
          clear c1 c2
          go_wp2_with fail
          go_quiet (fail)
          go_wp2_with fail
          go_ret3
          exact ScanO.bad hkN (fun hG => by have := hG.2.1; have := HC.out; omega) HB.out (bel_drewN ((Below.refl _ _).alloc (Nat.le_refl _) _) _)
        · have d4 : decide (s.F k < 0) = false := decide_eq_false c2
          have HC := Lib.hid (And.intro c1 c2)
          clear c1 c2
          by_cases hk0 : k = 0
          · have d5 : decide ((0 : Int) < (k : Int)) = false := by simp; omega
            have d5' : decide (0 < k) = false := by simp; omega
            have HK0 := Lib.hid hk0
            clear hk0
            go_wp2_with fail
            go_quiet (fail)
            go_wp2_with fail
            exact ⟨⟨k + 1, hkN, by first | rfl | simp, Lib.hid (HN.out _ _ ⟨by have := HC.out.1; omega, by have := HC.out.2; omega, fun h0 => absurd h0 (by have := HK0.out; omega)⟩)⟩, by simp [intOf]; omega⟩
          · obtain ⟨m, hm⟩ : ∃ m, k - 1 = m := ⟨_, rfl⟩
            have e1 : (k : Int) - 1 = (m : Int) := by omega
            have d5 : decide ((0 : Int) < (k : Int)) = true := by simp; omega
            have d5' : decide (0 < k) = true := by simp; omega
            have HKM := Lib.hid hm
            have hpos : 0 < k := by omega
            have cm := HV.out m (by omega)
            have b2 : (m : Int) < (N : Int) := by omega
            clear hm hk0
            by_cases c3 : s.V k ≤ s.V m
            · have d6 : decide (s.V k ≤ s.V m) = true := decide_eq_true c3
              have HC3 := Lib.hid c3
              clear c3
              go_wp2_with fail
              go_quiet (fail)
              go_wp2_with fail
              go_ret3
              exact ScanO.bad hkN (fun hG => by have h1 := hG.2.2 hpos; rw [HKM.out] at h1; have := HC3.out; omega) HB.out (bel_drewN ((Below.refl _ _).alloc (Nat.le_refl _) _) _)
            · have d6 : decide (s.V k ≤ s.V m) = false := decide_eq_false c3
              have HC3 := Lib.hid c3
              clear c3
              go_wp2_with fail
              go_quiet (fail)
              go_wp2_with fail
              exact ⟨⟨k + 1, hkN, by first | rfl | simp, Lib.hid (HN.out _ _ ⟨by have := HC.out.1; omega, by have := HC.out.2; omega, fun _ => by have := HC3.out; rw [HKM.out]; omega⟩)⟩, by simp [intOf]; omega⟩
    · have b1 : ¬ (k : Int) < (N : Int) := by omega
      obtain ⟨hS, hB, hz, hg⟩ := hM.out
      have cl := hS.l hN0
      have hgood : ∀ i, i < N → Good s i := fun i hi => hg i (by omega)
      have HG := Lib.hid hgood
      have HS := Lib.hid hS
      have HB := Lib.hid hB
      have hblw : w.heap.size < wr.heap.size := by omega
      clear hM hS hB hg hgood
      have hm1 := mk23 N (by omega)
      have hm2 := mk37 N (by omega)
      go_wp2_with fail
      have hF := FillS.start hN0 HS.out HB.out hz
      generalize hW2 : (wr.alloc (Obj.cells (madeCells #[.int .i64 0, .int .i64 0, .int .i64 0] (N * 3)) 33)).alloc (Obj.cells (madeCells #[.int .i64 0] N) 3) = w2 at hF ⊢
      generalize hob : wr.heap.size = ob at hF ⊢
      generalize hgb : ob + 1 = gb at hF ⊢
      have HF := Lib.hid hF
      clear hF HS HB cl hob hgb hblw hm1 hm2 hz hW2
      go_loopw [74] (fun u wq => ∃ k : Nat, k ≤ N ∧ u = .int .i64 (k : Int) ∧ Hid (FillS w wq bs off N cap ob gb k s)) (fun u _ => N - (intOf u).toNat)
      case atStart => exact ⟨0, by omega, rfl, HF⟩
      case round =>
        clear HF w2
        obtain ⟨k, hk, rfl, hM⟩ := hrel
        by_cases hkN : k < N
        · have b1 : (k : Int) < (N : Int) := by omega
          have hF := hM.out
          have cv := hF.sp.v k hkN
          have cf := hF.sp.f k hkN
          have ct := hF.sp.t k hkN
          have q0 := hF.pl.v k hkN
          have q1 := hF.pl.r k hkN
          have q2 := hF.pl.s k hkN
          have q3 := hF.od.cell hkN
          have z0 := hF.pl.z (k * 3)
          have z1 := hF.pl.z (k * 3 + 1)
          have z2 := hF.pl.z (k * 3 + 2)
          have z3 := hF.od.froz k
          have hbsw : bs < wr.heap.size := World.block_lt_of_cell? wr _ cv
          have hobw : ob < wr.heap.size := World.block_lt_of_cell? wr _ q0
          have hgbw : gb < wr.heap.size := World.block_lt_of_cell? wr _ q3
          have hgo : ob ≠ gb := by have := hF.o2; omega
          clear hF
          go_wp2_with fail
          exact ⟨⟨k + 1, hkN, by first | rfl | simp, Lib.hid (hM.out.next hN0 hbs hkN)⟩, by simp [intOf]; omega⟩
        · have b1 : ¬ (k : Int) < (N : Int) := by omega
          obtain rfl : N = k := by omega
          have hF := hM.out
          have cl := hF.sp.l hN0
          have cS := sort15 gb N w.heap.size bs off N cap s _ (by omega) (by have := hF.o1; have := hF.o2; omega) (fun i hi => by simp only [if_pos hi]; exact hi) (fun i j h1 h2 => by simp only [if_pos (show i < N by omega), if_pos h2]; exact h1) wr hF.od hF.sp
          have CS := Lib.hid cS
          clear hF cS
          go_wp2_with (go_at_call 15; (with_reducible refine CS.out.mono ?_); rintro ee w3 ⟨rfl, hX, hW⟩; have HX := Lib.hid (And.intro hX hW); clear hX hW)
          have hst := InS.start (R := R) hN0 hbs HG.out hM.out HX.out
          clear HX CS hM cl b1 hk hN0
          generalize hW3 : (((w3.alloc (Obj.cells #[.slice none 0 0, .func (.func 18) #[] #[ptr w.heap.size]] 51)).alloc (Obj.cells #[.slice none 0 0, .func (.func 19) #[] #[ptr w.heap.size]] 51)).alloc
            (Obj.cells #[.bool false, .bool false, .bool false, .bool false, .bool false, .bool false, .bool false, .bool false, .bool false, .bool false, .bool false, .bool false, .bool false, .bool false, .bool false, .bool false] 52)) = w4 at hst ⊢
          generalize w3.heap.size = p1 at hst ⊢
          generalize hp2 : p1 + 1 = p2 at hst ⊢
          generalize hhb : p2 + 1 = hb at hst ⊢
          generalize hB : hb + 1 = B at hst ⊢
          generalize hbl : w.heap.size = bl at hst ⊢
          obtain ⟨K, E, hE, hA0, hI0⟩ := hst
          have K' : Bks w.heap.size bs bl ob gb p1 p2 hb B := by rw [hbl]; exact K
          have HK := Lib.hid K'
          clear K'
          have HE := Lib.hid hE
          have HST := Lib.hid (And.intro hA0 hI0)
          have HBL := Lib.hid hbl
          clear hW3 hp2 hhb hB hbl K hE hA0 hI0
          have ho := HE.out.ordr
          have HVV := Lib.hid (good_v HG.out)
          have HO := Lib.hid ho
          clear ho
          go_loopw [16, 101] (fun v u wq => ∃ (k : Nat) (a : AlScan.St), k ≤ N ∧ u = .int .i64 (k : Int) ∧ v = .int .i64 (a.cnt : Int) ∧ a.cnt ≤ k ∧ Hid (AlScan.At s R N k E a ∧ InS w wq bs bl ob gb p1 p2 hb B off N cap k s E a.reg a.spill a.held)) (fun _ u _ => N - (intOf u).toNat)
          case atStart => exact ⟨0, AlScan.st0, by omega, rfl, rfl, Nat.le_refl _, HST⟩
          case round =>
            clear HST w4
            obtain ⟨k, a, hk, rfl, rfl, hcnt, hM⟩ := hrel
            obtain ⟨ca, hca⟩ : ∃ ca, a.cnt = ca := ⟨_, rfl⟩
            simp only [hca] at hcnt ⊢
            by_cases hkN : k < N
            · have b1 : (k : Int) < (N : Int) := by omega
              obtain ⟨hA, hI⟩ := hM.out
              have hI' := hI
              obtain ⟨v1, v2, L1, L2, Fb, hR, hH, hF, hl1, hl2⟩ := hI'
              have c0 := hR.od.cell hkN
              obtain ⟨n, hn⟩ : ∃ n, E k = n := ⟨_, rfl⟩
              rw [hn] at c0
              have hnN : n < N := by rw [← hn]; exact HO.out.lt k hkN
              have HN := Lib.hid hn
              have HA := Lib.hid hA
              have HI := Lib.hid hI
              have HCA := Lib.hid hca
              clear hM hA hI hR hH hF hl1 hl2 v1 v2 L1 L2 Fb hn hca
              go_wp2_with fail
              go_loopw [19] (fun u wq => Hid (∃ H, AlScan.Mid s n a.held H ∧ InS w wq bs bl ob gb p1 p2 hb B off N cap k s E a.reg a.spill H)) (fun _ wq => lenAt wq p1)
              case atStart => exact Lib.hid ⟨a.held, AlScan.Mid.start _ _ _, HI.out⟩
              case round =>
                have hM := hrel
                clear HI c0
                obtain ⟨H, hmid, v1, v2, L1, L2, Fb, hR9, hH, hF, hl1, hl2⟩ := hM.out
                clear hM
                have hrnd : Rnd s R N k n E a H := ⟨HO.out, fun g hg => (HG.out g hg).1, HVV.out, HA.out, hkN, HN.out, hmid⟩
                have HRND := Lib.hid hrnd
                have cl := hR9.sp.l (by omega)
                have cf := hR9.sp.f n hnN
                obtain ⟨o1, cp1, rfl, cq1, hlen⟩ := hH.h1.shape
                have HL := Lib.hid hlen
                have HD := Lib.hid (And.intro hR9 (And.intro hH (And.intro hF (And.intro hl1 hl2))))
                have b2 : (n : Int) < (N : Int) := by omega
                clear hlen hrnd hmid
                by_cases hz : L1 = 0
                · have d1 : decide ((0 : Int) < (L1 : Int)) = false := by simp; omega
                  have d2 : decide (0 < L1) = false := by simp; omega
                  have heH : H = AlScan.exp s n a.held := HRND.out.m.fin (fun r g hg => by subst hz; exact absurd ⟨r, hg⟩ (hH.h1.zero g))
                  have HEH := Lib.hid heH
                  have HZ := Lib.hid hz
                  clear hz hR9 hH hF hl1 hl2 heH
                  go_wp2_with fail
                  go_quiet (fail)
                  go_wp2_with fail
                  clear d1 d2
                  have hR4 := HD.out.1.drewN nq
                  have hH4 := HD.out.2.1.drewN nq
                  have cp := c_push2 HK.out hR4 hH4 HRND.out.new HRND.out.lt hnN (by have := HD.out.2.2.2.2; omega)
                  (with_reducible refine cp.mono ?_)
                  clear cp
                  rintro ee w5 ⟨rfl, v2', hR5, hH5⟩
                  have hsl := sl52 hb R hR
                  have CI := Lib.hid (index23 hb R 16 Fb (by omega) w5 (fun k hk => hR5.hd.c k (by omega)))
                  have HD5 := Lib.hid (And.intro hR5 hH5)
                  clear hR4 hH4 hR5 hH5
                  go_wp2_with fail
                  (with_reducible refine CI.out.mono ?_)
                  rintro ee w6 ⟨hres, rfl⟩
                  clear CI
                  have q1 := HD5.out.1.pl.r n hnN
                  have z1 := HD5.out.1.pl.z (n * 3 + 1)
                  have hobh : ob ≠ hb := by have := HK.out.h3; have := HK.out.h4; have := HK.out.h5; have := HK.out.h6; omega
                  have hhbo : hb ≠ ob := Ne.symm hobh
                  rcases hres with ⟨r, hr, hFr, hFm, rfl⟩ | ⟨hFm, rfl⟩
                  · have b3 : (r : Int) < 16 := by omega
                    have hr16 : r < 16 := by omega
                    have ch := HD5.out.1.hd.c r hr16
                    have zh := HD5.out.1.hd.z r
                    have HFR := Lib.hid (And.intro hFr hFm)
                    clear hFr hFm
                    go_wp2_with fail
                    have hO7 : Only [ob] (w6.setCell ⟨hb, r, none⟩ (.bool true)) ((w6.setCell ⟨hb, r, none⟩ (.bool true)).setCell ⟨ob, n * 3 + 1, none⟩ (.int .i64 (r : Int))) := (Only.refl _ _).set _ (by simp)
                    have hR7 := (HD5.out.1.setH HK.out hr16 true).setP HK.out hO7 ((HD5.out.1.setH HK.out hr16 true).pl.setR hnN (r : Int))
                    have hH7 := (HD5.out.2.other ((Only.refl [hb] _).set (g := hb) (j := r) (.bool true) (by simp)) HK.out.hbx).other hO7 HK.out.obx
                    have cp := c_push1 HK.out hR7 hH7 HRND.out.new HRND.out.lt hnN (by have := HD.out.2.2.2.1; omega)
                    (with_reducible refine cp.mono ?_)
                    clear cp
                    rintro ee w8 ⟨rfl, v1', hR8, hH8⟩
                    obtain ⟨a', ha1, ha2, ha3⟩ := fin_free HRND.out HEH.out HD.out.2.2.1 hR hr HFR.out.1 HFR.out.2 hR8 hH8 HD.out.2.2.2.1 HD.out.2.2.2.2
                    have HFIN := Lib.hid (And.intro ha1 (And.intro ha2 ha3))
                    clear hR8 hH8 hR7 hH7 hO7 ha1 ha2 ha3 ch zh q1 z1
                    go_wp2_with fail
                    obtain ⟨ha1, ha2, ha3⟩ := HFIN.out
                    exact ⟨⟨k + 1, a', hkN, by first | rfl | simp, by rw [ha1, HCA.out], by rw [ha1, HCA.out]; omega, Lib.hid ⟨ha2, ha3⟩⟩, by simp [intOf]; omega⟩
                  · have cp := c_pop2 HK.out HD5.out.1 HD5.out.2 HRND.out.lt2 (by have := HD.out.2.2.2.2; omega) (by omega)
                    have HFM := Lib.hid hFm
                    clear hFm q1 z1
                    go_wp2_with fail
                    (with_reducible refine cp.mono ?_)
                    clear cp
                    rintro ee w7 ⟨t, v2x, rfl, hSt, hmax, hR7, hH7⟩
                    have hta := tAss t
                    have htN : t < N := HRND.out.lt2 t hSt
                    have bt : (t : Int) < (N : Int) := by omega
                    have cl7 := hR7.sp.l (by omega)
                    have cv7 := hR7.sp.v t htN
                    have q0 := hR7.pl.v t htN
                    have q1 := hR7.pl.r t htN
                    have q2 := hR7.pl.s t htN
                    have z0 := hR7.pl.z (t * 3)
                    have z1 := hR7.pl.z (t * 3 + 1)
                    have z2 := hR7.pl.z (t * 3 + 2)
                    have hO8 : Only [ob] w7 (((w7.setCell ⟨ob, t * 3, none⟩ (.int .i64 (s.V t))).setCell ⟨ob, t * 3 + 1, none⟩ (.int .i64 (-1))).setCell ⟨ob, t * 3 + 2, none⟩ (.int .i64 (ca : Int))) := (((Only.refl _ _).set _ (by simp)).set _ (by simp)).set _ (by simp)
                    have hR8 := hR7.setP HK.out hO8 ((((hR7.pl.setV htN (s.V t)).setR htN (-1)).setS htN (ca : Int)).of (V' := s.V) (fun i hi => by rw [upd_same s.V rfl]) (fun _ _ => rfl) (fun _ _ => rfl))
                    have hH8 := hH7.other hO8 HK.out.obx
                    have HD8 := Lib.hid (And.intro hR8 hH8)
                    have hcase := HRND.out.full HEH.out HD.out.2.2.1 hR HFM.out hSt hmax
                    clear hR7 hH7 hO8 hR8 hH8 hSt hmax
                    rcases hcase with ⟨et, hst⟩ | ⟨hne, r, hr, hHr, hst⟩
                    · have hceq : ((t : Int) == (n : Int)) = true := by simp [et]
                      have HET := Lib.hid (And.intro et hst)
                      clear et hst
                      go_wp2_with fail
                      obtain ⟨et, hst⟩ := HET.out
                      subst et
                      obtain ⟨a', ha1, ha2, ha3⟩ := fin_self HRND.out HD.out.2.2.1 hst (by rw [HCA.out]; exact HD8.out.1) HD8.out.2 HD.out.2.2.2.1 (by have := HD.out.2.2.2.2; omega)
                      exact ⟨⟨k + 1, a', hkN, by first | rfl | simp, by rw [ha1, HCA.out]; simp, by rw [ha1, HCA.out]; omega, Lib.hid ⟨ha2, ha3⟩⟩, by simp [intOf]; omega⟩
                    · have hceq : ((t : Int) == (n : Int)) = false := by simp; omega
                      have hrt : a.reg t = (r : Int) := HRND.out.one r t hHr
                      rw [hrt] at q1
                      have b3 : (r : Int) < 16 := by omega
                      have hr16 : r < 16 := by omega
                      have cp := c_drop1 HK.out HD8.out.1 HD8.out.2 HRND.out.lt (by have := HD.out.2.2.2.1; omega) ⟨r, hHr⟩
                      have HST := Lib.hid (And.intro hne (And.intro hHr hst))
                      clear hne hHr hst hrt
                      go_wp2_with fail
                      (with_reducible refine cp.mono ?_)
                      clear cp q0 q1 q2 z0 z1 z2 cv7 cl7
                      rintro ee w9 ⟨rfl, v1x, hR9, hH9⟩
                      have ch := hR9.hd.c r hr16
                      have zh := hR9.hd.z r
                      have qn := hR9.pl.r n hnN
                      have zn := hR9.pl.z (n * 3 + 1)
                      have HD9 := Lib.hid (And.intro hR9 hH9)
                      clear hR9 hH9
                      go_wp2_with fail
                      have hO10 : Only [ob] (w9.setCell ⟨hb, r, none⟩ (.bool true)) ((w9.setCell ⟨hb, r, none⟩ (.bool true)).setCell ⟨ob, n * 3 + 1, none⟩ (.int .i64 (r : Int))) := (Only.refl _ _).set _ (by simp)
                      have hR10 := (HD9.out.1.setH HK.out hr16 true).setP HK.out hO10 ((HD9.out.1.setH HK.out hr16 true).pl.setR hnN (r : Int))
                      have hH10 := (HD9.out.2.other ((Only.refl [hb] _).set (g := hb) (j := r) (.bool true) (by simp)) HK.out.hbx).other hO10 HK.out.obx
                      have cp := c_push1 HK.out hR10 hH10 (fun hc => HRND.out.new hc.1) (fun y hy => HRND.out.lt y hy.1) hnN (by have := HD.out.2.2.2.1; omega)
                      (with_reducible refine cp.mono ?_)
                      clear cp
                      rintro ee w11 ⟨rfl, v1y, hR11, hH11⟩
                      obtain ⟨hne, hHr, hst⟩ := HST.out
                      obtain ⟨a', ha1, ha2, ha3⟩ := fin_evict HRND.out HD.out.2.2.1 hne hHr hst (by rw [HCA.out]; exact hR11) hH11 (by have := HD.out.2.2.2.1; omega) (by have := HD.out.2.2.2.2; omega)
                      have HFIN := Lib.hid (And.intro ha1 (And.intro ha2 ha3))
                      clear hR11 hH11 hR10 hH10 hO10 ha1 ha2 ha3 ch zh qn zn hne hHr hst
                      go_wp2_with fail
                      obtain ⟨ha1, ha2, ha3⟩ := HFIN.out
                      exact ⟨⟨k + 1, a', hkN, by first | rfl | simp, by rw [ha1, HCA.out]; simp, by rw [ha1, HCA.out]; omega, Lib.hid ⟨ha2, ha3⟩⟩, by simp [intOf]; omega⟩
                · have hpos : 0 < L1 := by omega
                  have d1 : decide ((0 : Int) < (L1 : Int)) = true := by simp; omega
                  have d2 : decide (0 < L1) = true := by simp; omega
                  obtain ⟨g, cap1, d, he, cg, hSd, hmin⟩ := hH.h1.top (later_wk s) hpos
                  simp only [Value.slice.injEq, true_and] at he
                  obtain ⟨rfl, rfl⟩ := he
                  have hposI : (0 : Int) < (L1 : Int) := by omega
                  have hdN : d < N := HRND.out.lt d hSd
                  have bd : (d : Int) < (N : Int) := by omega
                  have ctd := hR9.sp.t d hdN
                  have HMIN := Lib.hid (show ∀ y, AlScan.Held H y → s.T d ≤ s.T y from fun y hy => by have := hmin y hy; unfold later at this; omega)
                  have HSD := Lib.hid hSd
                  clear hR9 hH hF hl1 hl2 hmin hSd hz
                  by_cases hc : s.T d < s.F n
                  · have d3 : decide (s.T d < s.F n) = true := decide_eq_true hc
                    have HC := Lib.hid hc
                    clear hc
                    go_wp2_with fail
                    go_quiet (fail)
                    go_wp2_with fail
                    have cp := c_pop1 HK.out (HD.out.1.drewN nq) (HD.out.2.1.drewN nq) HRND.out.lt (by have := HD.out.2.2.2.1; omega) hpos
                    (with_reducible refine cp.mono ?_)
                    clear cp
                    rintro ee w5 ⟨t, v1x, rfl, hSt, hmax, hR5, hH5⟩
                    have hta := tAss t
                    have hTt : s.T t < s.F n := by
                      have h1 := hmax d HSD.out
                      have h3 := HC.out
                      unfold later at h1
                      omega
                    obtain ⟨r, hHr⟩ := hSt
                    have HR := Lib.hid (And.intro hHr hTt)
                    have hrt : a.reg t = (r : Int) := HRND.out.one r t hHr
                    have hr : r < R := HRND.out.reg hHr
                    have b3 : (r : Int) < 16 := by omega
                    have hr16 : r < 16 := by omega
                    have htN : t < N := HRND.out.lt t ⟨r, hHr⟩
                    have bt : (t : Int) < (N : Int) := by omega
                    have cp := c_drop2 HK.out hR5 hH5 HRND.out.lt (by have := HD.out.2.2.2.2; omega) ⟨r, hHr⟩
                    clear hmax hR5 hH5 hHr hTt
                    go_wp2_with fail
                    (with_reducible refine cp.mono ?_)
                    clear cp
                    rintro ee w6 ⟨rfl, v2x, hR6, hH6⟩
                    have ch := hR6.hd.c r hr16
                    have zh := hR6.hd.z r
                    have q1 := hR6.pl.r t htN
                    rw [hrt] at q1
                    obtain ⟨hI7, hlen7⟩ := InS.letgo HK.out hR6 hH6 HD.out.2.2.1 HRND.out.one HR.out.1 hr16 (Nat.le_trans (Nat.sub_le _ _) HD.out.2.2.2.1) (Nat.le_trans (Nat.sub_le _ _) HD.out.2.2.2.2)
                    have HD7 := Lib.hid (And.intro hI7 hlen7)
                    clear hR6 hH6 hI7 hlen7 hrt
                    go_wp2_with fail
                    exact ⟨Lib.hid ⟨AlScan.upd H r none, HRND.out.m.step HR.out.1 HR.out.2, HD7.out.1⟩, by rw [HD7.out.2, HL.out]; omega⟩
                  · have d3 : decide (s.T d < s.F n) = false := decide_eq_false hc
                    have heH : H = AlScan.exp s n a.held := HRND.out.m.fin (fun r g' hg => by have := HMIN.out g' ⟨r, hg⟩; omega)
                    have HEH := Lib.hid heH
                    clear hc heH
                    go_wp2_with fail
                    go_quiet (fail)
                    go_wp2_with fail
                    clear d3 hposI bd hdN ctd cg
                    clear d1 d2
                    have hR4 := HD.out.1.drewN nq
                    have hH4 := HD.out.2.1.drewN nq
                    have cp := c_push2 HK.out hR4 hH4 HRND.out.new HRND.out.lt hnN (by have := HD.out.2.2.2.2; omega)
                    (with_reducible refine cp.mono ?_)
                    clear cp
                    rintro ee w5 ⟨rfl, v2', hR5, hH5⟩
                    have hsl := sl52 hb R hR
                    have CI := Lib.hid (index23 hb R 16 Fb (by omega) w5 (fun k hk => hR5.hd.c k (by omega)))
                    have HD5 := Lib.hid (And.intro hR5 hH5)
                    clear hR4 hH4 hR5 hH5
                    go_wp2_with fail
                    (with_reducible refine CI.out.mono ?_)
                    rintro ee w6 ⟨hres, rfl⟩
                    clear CI
                    have q1 := HD5.out.1.pl.r n hnN
                    have z1 := HD5.out.1.pl.z (n * 3 + 1)
                    have hobh : ob ≠ hb := by have := HK.out.h3; have := HK.out.h4; have := HK.out.h5; have := HK.out.h6; omega
                    have hhbo : hb ≠ ob := Ne.symm hobh
                    rcases hres with ⟨r, hr, hFr, hFm, rfl⟩ | ⟨hFm, rfl⟩
                    · have b3 : (r : Int) < 16 := by omega
                      have hr16 : r < 16 := by omega
                      have ch := HD5.out.1.hd.c r hr16
                      have zh := HD5.out.1.hd.z r
                      have HFR := Lib.hid (And.intro hFr hFm)
                      clear hFr hFm
                      go_wp2_with fail
                      have hO7 : Only [ob] (w6.setCell ⟨hb, r, none⟩ (.bool true)) ((w6.setCell ⟨hb, r, none⟩ (.bool true)).setCell ⟨ob, n * 3 + 1, none⟩ (.int .i64 (r : Int))) := (Only.refl _ _).set _ (by simp)
                      have hR7 := (HD5.out.1.setH HK.out hr16 true).setP HK.out hO7 ((HD5.out.1.setH HK.out hr16 true).pl.setR hnN (r : Int))
                      have hH7 := (HD5.out.2.other ((Only.refl [hb] _).set (g := hb) (j := r) (.bool true) (by simp)) HK.out.hbx).other hO7 HK.out.obx
                      have cp := c_push1 HK.out hR7 hH7 HRND.out.new HRND.out.lt hnN (by have := HD.out.2.2.2.1; omega)
                      (with_reducible refine cp.mono ?_)
                      clear cp
                      rintro ee w8 ⟨rfl, v1', hR8, hH8⟩
                      obtain ⟨a', ha1, ha2, ha3⟩ := fin_free HRND.out HEH.out HD.out.2.2.1 hR hr HFR.out.1 HFR.out.2 hR8 hH8 HD.out.2.2.2.1 HD.out.2.2.2.2
                      have HFIN := Lib.hid (And.intro ha1 (And.intro ha2 ha3))
                      clear hR8 hH8 hR7 hH7 hO7 ha1 ha2 ha3 ch zh q1 z1
                      go_wp2_with fail
                      obtain ⟨ha1, ha2, ha3⟩ := HFIN.out
                      exact ⟨⟨k + 1, a', hkN, by first | rfl | simp, by rw [ha1, HCA.out], by rw [ha1, HCA.out]; omega, Lib.hid ⟨ha2, ha3⟩⟩, by simp [intOf]; omega⟩
                    · have cp := c_pop2 HK.out HD5.out.1 HD5.out.2 HRND.out.lt2 (by have := HD.out.2.2.2.2; omega) (by omega)
                      have HFM := Lib.hid hFm
                      clear hFm q1 z1
                      go_wp2_with fail
                      (with_reducible refine cp.mono ?_)
                      clear cp
                      rintro ee w7 ⟨t, v2x, rfl, hSt, hmax, hR7, hH7⟩
                      have hta := tAss t
                      have htN : t < N := HRND.out.lt2 t hSt
                      have bt : (t : Int) < (N : Int) := by omega
                      have cl7 := hR7.sp.l (by omega)
                      have cv7 := hR7.sp.v t htN
                      have q0 := hR7.pl.v t htN
                      have q1 := hR7.pl.r t htN
                      have q2 := hR7.pl.s t htN
                      have z0 := hR7.pl.z (t * 3)
                      have z1 := hR7.pl.z (t * 3 + 1)
                      have z2 := hR7.pl.z (t * 3 + 2)
                      have hO8 : Only [ob] w7 (((w7.setCell ⟨ob, t * 3, none⟩ (.int .i64 (s.V t))).setCell ⟨ob, t * 3 + 1, none⟩ (.int .i64 (-1))).setCell ⟨ob, t * 3 + 2, none⟩ (.int .i64 (ca : Int))) := (((Only.refl _ _).set _ (by simp)).set _ (by simp)).set _ (by simp)
                      have hR8 := hR7.setP HK.out hO8 ((((hR7.pl.setV htN (s.V t)).setR htN (-1)).setS htN (ca : Int)).of (V' := s.V) (fun i hi => by rw [upd_same s.V rfl]) (fun _ _ => rfl) (fun _ _ => rfl))
                      have hH8 := hH7.other hO8 HK.out.obx
                      have HD8 := Lib.hid (And.intro hR8 hH8)
                      have hcase := HRND.out.full HEH.out HD.out.2.2.1 hR HFM.out hSt hmax
                      clear hR7 hH7 hO8 hR8 hH8 hSt hmax
                      rcases hcase with ⟨et, hst⟩ | ⟨hne, r, hr, hHr, hst⟩
                      · have hceq : ((t : Int) == (n : Int)) = true := by simp [et]
                        have HET := Lib.hid (And.intro et hst)
                        clear et hst
                        go_wp2_with fail
                        obtain ⟨et, hst⟩ := HET.out
                        subst et
                        obtain ⟨a', ha1, ha2, ha3⟩ := fin_self HRND.out HD.out.2.2.1 hst (by rw [HCA.out]; exact HD8.out.1) HD8.out.2 HD.out.2.2.2.1 (by have := HD.out.2.2.2.2; omega)
                        exact ⟨⟨k + 1, a', hkN, by first | rfl | simp, by rw [ha1, HCA.out]; simp, by rw [ha1, HCA.out]; omega, Lib.hid ⟨ha2, ha3⟩⟩, by simp [intOf]; omega⟩
                      · have hceq : ((t : Int) == (n : Int)) = false := by simp; omega
                        have hrt : a.reg t = (r : Int) := HRND.out.one r t hHr
                        rw [hrt] at q1
                        have b3 : (r : Int) < 16 := by omega
                        have hr16 : r < 16 := by omega
                        have cp := c_drop1 HK.out HD8.out.1 HD8.out.2 HRND.out.lt (by have := HD.out.2.2.2.1; omega) ⟨r, hHr⟩
                        have HST := Lib.hid (And.intro hne (And.intro hHr hst))
                        clear hne hHr hst hrt
                        go_wp2_with fail
                        (with_reducible refine cp.mono ?_)
                        clear cp q0 q1 q2 z0 z1 z2 cv7 cl7
                        rintro ee w9 ⟨rfl, v1x, hR9, hH9⟩
                        have ch := hR9.hd.c r hr16
                        have zh := hR9.hd.z r
                        have qn := hR9.pl.r n hnN
                        have zn := hR9.pl.z (n * 3 + 1)
                        have HD9 := Lib.hid (And.intro hR9 hH9)
                        clear hR9 hH9
                        go_wp2_with fail
                        have hO10 : Only [ob] (w9.setCell ⟨hb, r, none⟩ (.bool true)) ((w9.setCell ⟨hb, r, none⟩ (.bool true)).setCell ⟨ob, n * 3 + 1, none⟩ (.int .i64 (r : Int))) := (Only.refl _ _).set _ (by simp)
                        have hR10 := (HD9.out.1.setH HK.out hr16 true).setP HK.out hO10 ((HD9.out.1.setH HK.out hr16 true).pl.setR hnN (r : Int))
                        have hH10 := (HD9.out.2.other ((Only.refl [hb] _).set (g := hb) (j := r) (.bool true) (by simp)) HK.out.hbx).other hO10 HK.out.obx
                        have cp := c_push1 HK.out hR10 hH10 (fun hc => HRND.out.new hc.1) (fun y hy => HRND.out.lt y hy.1) hnN (by have := HD.out.2.2.2.1; omega)
                        (with_reducible refine cp.mono ?_)
                        clear cp
                        rintro ee w11 ⟨rfl, v1y, hR11, hH11⟩
                        obtain ⟨hne, hHr, hst⟩ := HST.out
                        obtain ⟨a', ha1, ha2, ha3⟩ := fin_evict HRND.out HD.out.2.2.1 hne hHr hst (by rw [HCA.out]; exact hR11) hH11 (by have := HD.out.2.2.2.1; omega) (by have := HD.out.2.2.2.2; omega)
                        have HFIN := Lib.hid (And.intro ha1 (And.intro ha2 ha3))
                        clear hR11 hH11 hR10 hH10 hO10 ha1 ha2 ha3 ch zh qn zn hne hHr hst
                        go_wp2_with fail
                        obtain ⟨ha1, ha2, ha3⟩ := HFIN.out
                        exact ⟨⟨k + 1, a', hkN, by first | rfl | simp, by rw [ha1, HCA.out]; simp, by rw [ha1, HCA.out]; omega, Lib.hid ⟨ha2, ha3⟩⟩, by simp [intOf]; omega⟩
            · have b1 : ¬ (k : Int) < (N : Int) := by omega
              obtain rfl : N = k := by omega
              obtain ⟨hA, v1, v2, L1, L2, Fb, hR9, hH, hF, hl1, hl2⟩ := hM.out
              have hob := hR9.sz
              have HF := Lib.hid (show ScanO w R N s (.returned (.tuple #[.slice (some ⟨ob, 0, none⟩) N N, .int .i64 (ca : Int), .int .i64 0])) wr from
                ⟨hR9.bw, .inr ⟨HG.out, ob, E, a, HE.out, hA, hR9.pl, by have := HK.out.h1; have := HK.out.h2; omega, by have := HK.out.h3; have := HK.out.h4; have := HK.out.h5; have := HK.out.h6; have := HK.out.h7; omega, by rw [hca]⟩⟩)
              clear hM hA hR9 hH hF hl1 hl2 v1 v2 L1 L2 Fb hob
              go_wp2_with fail
              go_ret3
              exact HF.out
end Go.Proofs.Ytkejnhmhbmbhcaa.al
