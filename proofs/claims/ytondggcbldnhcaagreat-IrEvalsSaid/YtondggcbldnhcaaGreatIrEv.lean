/-
  ir.Eval: a run of code.
-/
import Derived.Test.YtondggcbldnhcaaGreatIrCk
import Derived.Laws.CopyOwn
import Derived.Deep.QuietTactic
import Derived.BigQuiet
import Derived.Deep.LoopGhost
import Derived.Deep.RegionLaw
import Derived.Deep.Cut
import Derived.Deep.Light
namespace Go.Proofs.YtondggcbldnhcaaGreat.irx
open Go Go.RowKit
open Go.Proofs.YtondggcbldnhcaaGreat
set_option linter.unusedVariables false
set_option linter.unusedSimpArgs false
theorem info21 : (Tryz.prog.info? 21).map (fun i => (i.zero, i.size, i.bytes)) = some (some (.int .i32 0), 1, 4) := by kernel_rfl
theorem size21 : (Tryz.prog.info? 21).map (·.size) = some 1 := by kernel_rfl
theorem size32 : (Tryz.prog.info? 32).map (·.size) = some 3 := by kernel_rfl
def i32s (l : List Int) : List Value := l.map (Value.int .i32)
/-- the numbers that came in -/
def Args (w : World) (B : Nat) (aad : Option Addr) (args : List Int) : Prop :=
  ∀ i, i < args.length → ∃ b off, aad = some ⟨b, off, none⟩ ∧ b < B ∧ w.cell? ⟨b, off + i, none⟩ = some (.int .i32 (args.getD i 0))
theorem block_full {w : World} {base e g n : Nat} {xs : List Value} (h : w.ownsRow base e 1 (.slice (some ⟨g, 0, none⟩) n n) n xs) (hx : xs.length = n) : w.heap[g]? = some (.cells xs.toArray e (0, 0)) := by
  obtain ⟨_, h2⟩ := h
  rcases h2 with ⟨h2, _⟩ | ⟨g', cap, cur, hv, hg, hh, hn, hcap, hsz, htake⟩
  · cases h2
  · injection hv with e1 e2 e3
    injection e1 with e1
    injection e1 with e1 _ _
    subst e1 e3
    have : cur = xs.toArray := by
      apply Array.toList_inj.1
      rw [← htake, List.take_of_length_le (by simp; omega)]
    rw [← this]; exact hh
theorem splice_start (R : Nat) (args : List Int) (h : args.length ≤ R) : splice (List.replicate R (Value.int .i32 0)) 0 (i32s args) = i32s (args ++ List.replicate (R - args.length) 0) := by
  simp [splice, i32s]
theorem one32 (l : List Int) : ∀ v ∈ i32s l, v.oneCell' = true := by
  intro v hv
  simp only [i32s, List.mem_map] at hv
  obtain ⟨_, _, rfl⟩ := hv; rfl
theorem cpn {args : List Int} {R : Nat} (h : args.length ≤ R) : (i32s args).length = Nat.min args.length R := by
  simp [i32s]; exact (Nat.min_eq_left h).symm
theorem cps {w w1 w2 : World} {aad : Option Addr} {args : List Int} {g : Nat} (ha : Args w w.heap.size aad args) (h1 : Below w.heap.size w w1) (h2 : Below w1.heap.size w1 w2) :
    0 < (i32s args).length → (some (⟨g, 0, none⟩ : Addr)) = some ⟨g, 0, none⟩ ∧ ∃ ad, aad = some ad ∧ ∀ j v, (i32s args)[j]? = some v → w2.cell? (ad.add j) = some v := by
  intro hp
  simp only [i32s, List.length_map] at hp
  obtain ⟨b, off, rfl, hb, _⟩ := ha 0 hp
  refine ⟨rfl, _, rfl, fun j v hj => ?_⟩
  have hjl : j < args.length := by
    apply Nat.lt_of_not_le
    intro hge
    have : (i32s args)[j]? = none := by simp [i32s]; omega
    rw [this] at hj; cases hj
  obtain ⟨b', off', he, hb', hc⟩ := ha j hjl
  injection he with he
  injection he with e1 e2 _
  subst e1 e2
  rw [Go.WideShapes.add_plain, (h2.cell (by have := h1.size; simp only; omega)), h1.cell hb', hc]
  have : (i32s args)[j]? = some (.int .i32 (args.getD j 0)) := by simp [i32s, List.getD, hjl]
  rw [this] at hj; exact hj
theorem cpf {args : List Int} {R : Nat} (h : args.length ≤ R) : 0 + (i32s args).length ≤ (madeCells (Value.cells (.int .i32 0)) (R * 1)).toList.length := by
  simp [i32s, madeCells, Value.cells]; omega
/-- what a run keeps in memory -/
structure Inv (w : World) (cad : Option Addr) (cap al len R G H : Nat) (wr : World) (s : St) : Prop where
  bF : wr.heap[w.heap.size]? = some (.cells #[.int .i64 al, .int .i64 R, .slice cad len cap] 24 (0, 0))
  bX : wr.heap[w.heap.size + 1]? = some (.cells #[.int .i64 0, .int .i32 0, .int .i64 0] 32 (0, 0))
  bG : wr.heap[G]? = some (.cells (i32s s.regs).toArray 21 (0, 0))
  bH : wr.heap[H]? = some (.cells #[.int .i64 0, .int .i32 0, .int .i64 s.met] 32 (0, 0))
  below : Below w.heap.size w wr
  hG : w.heap.size + 2 ≤ G
  hGH : G < H
  hH : H < wr.heap.size
theorem setCell_row {w : World} {g : Nat} {cs : Array Value} {t : TypeId} (h : w.heap[g]? = some (.cells cs t (0, 0))) (j : Nat) (u : Value) : (w.setCell ⟨g, j, none⟩ u).heap[g]? = some (.cells (cs.setIfInBounds j u) t (0, 0)) := by
  simp only [World.setCell, Array.getElem?_modify, if_true, h]
  simp
theorem Inv.on {w : World} {cad : Option Addr} {cap al len R G H : Nat} {wr w1 : World} {s : St} (h : Inv w cad cap al len R G H wr s) (hb : Below wr.heap.size wr w1) : Inv w cad cap al len R G H w1 s := by
  have h1 := h.hG
  have h2 := h.hGH
  have h3 := h.hH
  exact ⟨(hb.block _ (by omega)).trans h.bF, (hb.block _ (by omega)).trans h.bX, (hb.block _ (by omega)).trans h.bG, (hb.block _ (by omega)).trans h.bH, h.below.trans (hb.mono (by omega)), h1, h2, Nat.lt_of_lt_of_le h3 hb.size⟩
theorem Inv.state {w : World} {cad : Option Addr} {cap al len R G H : Nat} {wr : World} {s s' : St} (h : Inv w cad cap al len R G H wr s) (h1 : s'.regs = s.regs) (h2 : s'.met = s.met) : Inv w cad cap al len R G H wr s' := by
  obtain ⟨a, b, c, d, e, f, g, i⟩ := h
  exact ⟨a, b, by rw [h1]; exact c, by rw [h2]; exact d, e, f, g, i⟩
theorem i32s_set (l : List Int) (j : Nat) (v : Int) : (i32s l).toArray.setIfInBounds j (.int .i32 v) = (i32s (l.set j v)).toArray := by
  simp [i32s]
theorem Inv.setG {w : World} {cad : Option Addr} {cap al len R G H : Nat} {wr : World} {s : St} (h : Inv w cad cap al len R G H wr s) (i v : Int) {s' : St} (hs : s'.regs = setR s i v) (hm : s'.met = s.met) : Inv w cad cap al len R G H (wr.setCell ⟨G, i.toNat, none⟩ (.int .i32 v)) s' := by
  have h1 := h.hG
  have h2 := h.hGH
  refine ⟨(Below.heap_setCell _ _ _ _ (by simp; omega)).trans h.bF, (Below.heap_setCell _ _ _ _ (by simp; omega)).trans h.bX, ?_, (Below.heap_setCell _ _ _ _ (by simp; omega)).trans (by rw [hm]; exact h.bH), h.below.setCell (by simp only; omega) _, h1, h2, by simpa [World.setCell] using h.hH⟩
  rw [setCell_row h.bG, i32s_set, hs, setR]
theorem Inv.setM {w : World} {cad : Option Addr} {cap al len R G H : Nat} {wr : World} {s : St} (h : Inv w cad cap al len R G H wr s) {s' : St} (hs : s'.regs = s.regs) (hm : s'.met = s.met + 1) : Inv w cad cap al len R G H (wr.setCell ⟨H, 2, none⟩ (.int .i64 ((s.met : Int) + 1))) s' := by
  have h1 := h.hG
  have h2 := h.hGH
  refine ⟨(Below.heap_setCell _ _ _ _ (by simp; omega)).trans h.bF, (Below.heap_setCell _ _ _ _ (by simp; omega)).trans h.bX, (Below.heap_setCell _ _ _ _ (by simp; omega)).trans (by rw [hs]; exact h.bG), ?_, h.below.setCell (by simp only; omega) _, h1, h2, by simpa [World.setCell] using h.hH⟩
  rw [setCell_row h.bH, hm]
  simp
theorem Inv.reg {w : World} {cad : Option Addr} {cap al len R G H : Nat} {wr : World} {s : St} (h : Inv w cad cap al len R G H wr s) (hr : s.regs.length = R) {i : Int} (h0 : 0 ≤ i) (h1 : i < R) : wr.cell? ⟨G, i.toNat, none⟩ = some (.int .i32 (rg s i)) := by
  have hi : i.toNat < s.regs.length := by omega
  simp only [World.cell?, h.bG]
  simp [i32s, rg, List.getD, hi]
theorem block_lt {w : World} {g : Nat} {o : Obj} (h : w.heap[g]? = some o) : g < w.heap.size := by
  apply Nat.lt_of_not_le
  intro hge
  have hn : w.heap[g]? = none := by simp [hge]
  rw [hn] at h; cases h
theorem mk_zero (R : Nat) : (madeCells (Value.cells (.int .i32 0)) (R * 1)).toList = List.replicate R (Value.int .i32 0) := by
  rw [Nat.mul_one]; exact toList_madeCells_one _ _
theorem Inv.drew {w : World} {cad : Option Addr} {cap al len R G H : Nat} {wr : World} {s : St} (h : Inv w cad cap al len R G H wr s) : Inv w cad cap al len R G H wr.drew s := ⟨h.bF, h.bX, h.bG, h.bH, h.below.drew, h.hG, h.hGH, h.hH⟩
theorem Inv.drewN {w : World} {cad : Option Addr} {cap al len R G H : Nat} {wr : World} {s : St} (h : Inv w cad cap al len R G H wr s) (q : Nat) : Inv w cad cap al len R G H (wr.drewN q) s :=
  ⟨h.bF, h.bX, h.bG, h.bH, ⟨h.below.os, h.below.tape, h.below.output, h.below.size, h.below.block⟩, h.hG, h.hGH, h.hH⟩
/-- what is so of a state -/
structure Fit (len R pn : Nat) (s : St) : Prop where
  at_ : s.at_ < len
  regs : s.regs.length = R
  met : s.met ≤ pn
  done : s.done ≤ 4194304 + s.met
  btw : (s.btw : Int) ≤ 16 * (1024 + len)
theorem fin_row {w1 : World} {X : Nat} {x0 x1 x2 : Value} {t : TypeId} (h : w1.heap[X]? = some (.cells #[x0, x1, x2] t (0, 0))) (k v m : Value) : (((w1.setCell ⟨X, 0, none⟩ k).setCell ⟨X, 1, none⟩ v).setCell ⟨X, 2, none⟩ m).heap[X]? = some (.cells #[k, v, m] t (0, 0)) := by
  rw [setCell_row (setCell_row (setCell_row h 0 k) 1 v) 2 m]
  simp
theorem results7 : Tryz.f7.results = #[.cell 6 32] := by kernel_rfl
theorem step_body {A : Ar} {F : Fn} {p : Nat} {s : St} (h9 : F.op s.at_ ≠ 9) (hl : lim F s = false) : step A F p s = body A F s := by simp [step, h9, hl]
theorem step_lim {A : Ar} {F : Fn} {p : Nat} {s : St} (h9 : F.op s.at_ ≠ 9) (hl : lim F s = true) : step A F p s = .inl (4, 0, s.met) := by simp [step, h9, hl]
theorem lim_false {F : Fn} {s : St} (h1 : ¬ 16 * (1024 + (F.len : Int)) ≤ s.btw) (h2 : ¬ (4194304 : Int) ≤ s.done) : lim F s = false := by simp only [lim, Bool.or_eq_false_iff, decide_eq_false_iff_not]; exact ⟨h1, h2⟩
theorem lim_true {F : Fn} {s : St} (h : 16 * (1024 + (F.len : Int)) ≤ s.btw ∨ (4194304 : Int) ≤ s.done) : lim F s = true := by simp only [lim, Bool.or_eq_true, decide_eq_true_eq]; exact h
theorem ok_of_chk {F : Fn} (h : chk ar F = 0) : ∀ k, k < F.len → (1 ≤ F.op k ∧ F.op k ≤ 9) ∧ fine F.R F.len (F.op k) (F.ds k) (F.a k) (F.b k) (F.n k) (F.to k) = true ∧ (F.op k ≠ 5 → F.op k ≠ 7 → F.op k ≠ 8 → k + 1 < F.len) := by
  intro k hk
  unfold chk at h
  split at h
  · cases h
  · split at h
    · rename_i h1; exact absurd h h1
    · rename_i h1
      have hz := firstBad_zero (f := rightAt ar F) (k := F.len) (by omega) k hk
      unfold rightAt right at hz
      split at hz
      · cases hz
      · rename_i ho
        split at hz
        · cases hz
        · rename_i hf
          simp only [not_or] at hf ho
          refine ⟨by omega, by simpa using hf.1, fun q5 q7 q8 => ?_⟩
          split at h
          · omega
          · split at h
            · rename_i hl
              by_cases e : k = F.len - 1
              · subst e; rcases hl with hl | hl | hl
                · exact absurd hl q5
                · exact absurd hl q7
                · exact absurd hl q8
              · omega
            · cases h
set_option maxHeartbeats 40000000 in
set_option maxRecDepth 1000000 in
theorem eval7 (P R : Int) (len : Nat) (op ds a b n to : Nat → Int) (cad : Option Addr) (cap : Nat) (aad : Option Addr) (acap : Nat) (args : List Int) (pn : Nat) (w : World) (hlen : len ≤ 60) (hpn : pn ≤ 1048576)
    (hN : Nice ⟨P, R, len, op, ds, a, b, n, to⟩) (hc : Code_ w w.heap.size cad ⟨P, R, len, op, ds, a, b, n, to⟩) (ha : Args w w.heap.size aad args) (hck : chk ar ⟨P, R, len, op, ds, a, b, n, to⟩ = 0) (hal : (args.length : Int) = P) :
    Calls Tryz.prog 7 #[fval P R cad len cap, .slice aad args.length acap, .int .i64 (pn : Int)] w fun e w' => e = .returned (.agg #[.int .i64 (runS ar ⟨P, R, len, op, ds, a, b, n, to⟩ pn (start ⟨P, R, len, op, ds, a, b, n, to⟩ args)).1, .int .i32 (runS ar ⟨P, R, len, op, ds, a, b, n, to⟩ pn (start ⟨P, R, len, op, ds, a, b, n, to⟩ args)).2.1, .int .i64 (runS ar ⟨P, R, len, op, ds, a, b, n, to⟩ pn (start ⟨P, R, len, op, ds, a, b, n, to⟩ args)).2.2]) ∧ Below w.heap.size w w' := by
  obtain ⟨i0, hi, hz0, hz1, hz2⟩ := info_parts info21
  have C := fun w0 (hb : Below w.heap.size w w0) (hs : w.heap.size ≤ w0.heap.size) => check9 ⟨P, R, len, op, ds, a, b, n, to⟩ cad cap w0 hlen hN (hc.mono hb hs)
  rw [hck] at C
  subst hal
  have hR : ∃ R' : Nat, R = R' ∧ args.length ≤ R' ∧ R' ≤ 34 := by
    have hh : head ⟨args.length, R, len, op, ds, a, b, n, to⟩ = false := by
      cases h : head ⟨args.length, R, len, op, ds, a, b, n, to⟩ with
      | false => rfl
      | true => unfold chk at hck; rw [h] at hck; simp at hck
    simp only [head, Bool.or_eq_false_iff, decide_eq_false_iff_not] at hh
    exact ⟨R.toNat, by omega, by omega, by omega⟩
  obtain ⟨R, rfl, hal, hR34⟩ := hR
  have hb0 : Below w.heap.size w ((w.alloc (.cells #[.int .i64 args.length, .int .i64 R, .slice cad len cap] 24)).alloc (.cells #[.int .i64 0, .int .i32 0, .int .i64 0] 32)) := ((Below.refl _ _).alloc (Nat.le_refl _) _).alloc (by simp) _
  have hs0 : ((w.alloc (.cells #[.int .i64 args.length, .int .i64 R, .slice cad len cap] 24)).alloc (.cells #[.int .i64 0, .int .i32 0, .int .i64 0] 32)).heap.size = w.heap.size + 2 := by simp
  have hF0 : ((w.alloc (.cells #[.int .i64 args.length, .int .i64 R, .slice cad len cap] 24)).alloc (.cells #[.int .i64 0, .int .i32 0, .int .i64 0] 32)).heap[w.heap.size]? = some (.cells #[.int .i64 args.length, .int .i64 R, .slice cad len cap] 24 (0, 0)) := by
    rw [Below.heap_alloc _ _ _ (by simp)]; exact heap_alloc_new w _
  have hX0 : ((w.alloc (.cells #[.int .i64 args.length, .int .i64 R, .slice cad len cap] 24)).alloc (.cells #[.int .i64 0, .int .i32 0, .int .i64 0] 32)).heap[w.heap.size + 1]? = some (.cells #[.int .i64 0, .int .i32 0, .int .i64 0] 32 (0, 0)) := by
    have := heap_alloc_new (w.alloc (.cells #[.int .i64 args.length, .int .i64 R, .slice cad len cap] 24)) (.cells #[.int .i64 0, .int .i32 0, .int .i64 0] 32)
    simpa using this
  have C0 := C _ hb0 (by omega)
  generalize hRES : runS ar ⟨args.length, R, len, op, ds, a, b, n, to⟩ pn (start ⟨args.length, R, len, op, ds, a, b, n, to⟩ args) = RES
  have hRUN : Hid (runS ar ⟨args.length, R, len, op, ds, a, b, n, to⟩ pn (start ⟨args.length, R, len, op, ds, a, b, n, to⟩ args) = RES) := hRES
  clear hRES
  have hOK := ok_of_chk hck
  have hOKH : Hid (∀ k, k < len → (1 ≤ op k ∧ op k ≤ 9) ∧ fine R len (op k) (ds k) (a k) (b k) (n k) (to k) = true ∧ (op k ≠ 5 → op k ≠ 7 → op k ≠ 8 → k + 1 < len)) := hOK
  have hlen0 : 0 < len := by
    apply Nat.pos_of_ne_zero
    intro h0
    unfold chk at hck
    subst h0
    split at hck
    · cases hck
    · simp [firstBad] at hck
  clear hOK
  go_enter Tryz.func7, Tryz.ntmps7
  go_wp2_with (first | (go_at_call 9; refine C0.mono ?_; rintro e w1 ⟨rfl, hb1⟩; have hb1' := hb0.trans (hb1.mono (by omega)); have hF1 := (hb1.block w.heap.size (by omega)).trans hF0; have hX1 := (hb1.block (w.heap.size + 1) (by omega)).trans hX0; have hs1 : w.heap.size + 2 ≤ w1.heap.size := (by have := hb1.size; omega); have hf0 : w1.cell? ⟨w.heap.size, 0, none⟩ = some (.int .i64 args.length) := (by simp [World.cell?, hF1]); have hf1 : w1.cell? ⟨w.heap.size, 1, none⟩ = some (.int .i64 R) := (by simp [World.cell?, hF1])) | (refine wpList_make_full _ rfl _ _ 25 rfl w.heap.size 21 i0 (.int .i32 0) 1 Tryz.underlying25 hi hz0 hz1 .i64 .i64 (R : Int) (R : Int) R rfl rfl rfl rfl (by rw [hz2]; omega) (by unfold maxLen; omega) (by omega) ?_; intro w2 hown2 hgrow2; have hg2 := block_full hown2 (by simp [Value.cells, madeCells]); have hb2 : Below w1.heap.size w1 w2 := (Below.refl _ _).grown hgrow2 (Nat.le_refl _) (fun k hk => by cases hk)) | (with_reducible refine wpList_copy_splice rfl (.tmp 37) (.tmp 38) 25 25 rfl 21 Tryz.underlying25 size21 _ _ R R args.length acap rfl rfl w1.heap.size 0 _ 21 hg2 (i32s args) (cpn hal) (cps ha hb1' hb2) (cpf hal) (one32 _) w1.heap.size w1 hb2 (Nat.le_refl _) ?_; intro w3 hg3 hb3))
  have hI0 : Inv w cad cap args.length len R w1.heap.size w3.heap.size (w3.alloc (.cells #[.int .i64 0, .int .i32 0, .int .i64 0] 32)) (start ⟨args.length, R, len, op, ds, a, b, n, to⟩ args) := by
    have hw3 := hb3.size
    refine ⟨?_, ?_, ?_, ?_, ?_, hs1, by have := block_lt hg3.out; omega, by simp⟩
    · rw [Below.heap_alloc _ _ _ (by omega), hb3.block _ (by omega)]; exact hF1
    · rw [Below.heap_alloc _ _ _ (by omega), hb3.block _ (by omega)]; exact hX1
    · rw [Below.heap_alloc _ _ _ (block_lt hg3.out), hg3.out, mk_zero, splice_start R args hal]; simp [start]
    · rw [heap_alloc_new]; simp [start]
    · exact (hb1'.trans (hb3.mono (by omega))).alloc (by omega) _
  have hFit0 : Fit len R pn (start ⟨args.length, R, len, op, ds, a, b, n, to⟩ args) := ⟨hlen0, by simp [start]; omega, Nat.zero_le _, by simp [start], by simp [start]; omega⟩
  have hcH : Hid (Code_ w w.heap.size cad ⟨args.length, R, len, op, ds, a, b, n, to⟩) := hc
  have hGe : Hid (w.heap.size + 2 ≤ w1.heap.size) := hs1
  clear hb0 hs0 hF0 hX0 C0 hb1 hb1' hF1 hX1 hs1 hf0 hf1 hgrow2 hg2 hb2 hg3 hb3 hown2 C hc ha hck hlen0
  generalize w1.heap.size = G at *
  generalize w3.heap.size = H at *
  go_loopg [9, 10, 11] (meas pn (start ⟨args.length, R, len, op, ds, a, b, n, to⟩ args)) (fun gk bt at_ dn wr => ∃ s : St, gk = meas pn s ∧ bt = .int .i64 s.btw ∧ at_ = .int .i64 s.at_ ∧ dn = .int .i64 s.done ∧ Inv w cad cap args.length len R G H wr s ∧ Fit len R pn s ∧ Hid (runS ar ⟨args.length, R, len, op, ds, a, b, n, to⟩ pn s = RES))
  case atStart => exact ⟨_, rfl, rfl, rfl, rfl, hI0, hFit0, hRUN⟩
  case round =>
    obtain ⟨s, rfl, rfl, rfl, rfl, hI, hfit, hrun⟩ := hrel
    clear hI0 hFit0 hRUN
    obtain ⟨pc, dn, bt, met, regs⟩ := s
    have hpc : pc < len := hfit.at_
    have hregs : regs.length = R := hfit.regs
    have hmet : met ≤ pn := hfit.met
    have hdn : dn ≤ 4194304 + met := hfit.done
    have hbt : (bt : Int) ≤ 16 * (1024 + len) := hfit.btw
    obtain ⟨cb, off, he, hb, hat⟩ := hcH.out pc hpc
    simp only at he hat
    subst he
    obtain ⟨d0, d1, d2, d3, d4, d5⟩ := hat.mono hI.below hb
    have hGH := hI.hGH
    have hHw := hI.hH
    have hG2 := hI.hG
    have hfc : wr.cell? ⟨w.heap.size, 2, none⟩ = some (.slice (some ⟨cb, off, none⟩) len cap) := by simp [World.cell?, hI.bF]
    have hIa : Inv w (some ⟨cb, off, none⟩) cap args.length len R G H (wr.alloc (.cells #[.int .i64 (op pc), .int .i64 (ds pc), .int .i64 (a pc), .int .i64 (b pc), .int .i32 (n pc), .int .i64 (to pc)] 44)) ⟨pc, dn, bt, met, regs⟩ := hI.on ((Below.refl _ _).alloc (Nat.le_refl _) _)
    have hfa : (wr.alloc (.cells #[.int .i64 (op pc), .int .i64 (ds pc), .int .i64 (a pc), .int .i64 (b pc), .int .i32 (n pc), .int .i64 (to pc)] 44)).cell? ⟨w.heap.size, 2, none⟩ = some (.slice (some ⟨cb, off, none⟩) len cap) := by simp [World.cell?, hIa.bF]
    have hx0 : (wr.alloc (.cells #[.int .i64 (op pc), .int .i64 (ds pc), .int .i64 (a pc), .int .i64 (b pc), .int .i32 (n pc), .int .i64 (to pc)] 44)).cell? ⟨H, 0, none⟩ = some (.int .i64 0) := by simp [World.cell?, hIa.bH]
    have hx1 : (wr.alloc (.cells #[.int .i64 (op pc), .int .i64 (ds pc), .int .i64 (a pc), .int .i64 (b pc), .int .i32 (n pc), .int .i64 (to pc)] 44)).cell? ⟨H, 1, none⟩ = some (.int .i32 0) := by simp [World.cell?, hIa.bH]
    have hx2 : (wr.alloc (.cells #[.int .i64 (op pc), .int .i64 (ds pc), .int .i64 (a pc), .int .i64 (b pc), .int .i32 (n pc), .int .i64 (to pc)] 44)).cell? ⟨H, 2, none⟩ = some (.int .i64 met) := by simp [World.cell?, hIa.bH]
    have hy0 : (wr.alloc (.cells #[.int .i64 (op pc), .int .i64 (ds pc), .int .i64 (a pc), .int .i64 (b pc), .int .i32 (n pc), .int .i64 (to pc)] 44)).cell? ⟨w.heap.size + 1, 0, none⟩ = some (.int .i64 0) := by simp [World.cell?, hIa.bX]
    have hy1 : (wr.alloc (.cells #[.int .i64 (op pc), .int .i64 (ds pc), .int .i64 (a pc), .int .i64 (b pc), .int .i32 (n pc), .int .i64 (to pc)] 44)).cell? ⟨w.heap.size + 1, 1, none⟩ = some (.int .i32 0) := by simp [World.cell?, hIa.bX]
    have hy2 : (wr.alloc (.cells #[.int .i64 (op pc), .int .i64 (ds pc), .int .i64 (a pc), .int .i64 (b pc), .int .i32 (n pc), .int .i64 (to pc)] 44)).cell? ⟨w.heap.size + 1, 2, none⟩ = some (.int .i64 0) := by simp [World.cell?, hIa.bX]
    have hzH : ∀ j, (wr.alloc (.cells #[.int .i64 (op pc), .int .i64 (ds pc), .int .i64 (a pc), .int .i64 (b pc), .int .i32 (n pc), .int .i64 (to pc)] 44)).frozen? ⟨H, j, none⟩ = false := fun j => by simp [World.frozen?, hIa.bH]
    have hzG : ∀ j, (wr.alloc (.cells #[.int .i64 (op pc), .int .i64 (ds pc), .int .i64 (a pc), .int .i64 (b pc), .int .i32 (n pc), .int .i64 (to pc)] 44)).frozen? ⟨G, j, none⟩ = false := fun j => by simp [World.frozen?, hIa.bG]
    have hzX : ∀ j, (wr.alloc (.cells #[.int .i64 (op pc), .int .i64 (ds pc), .int .i64 (a pc), .int .i64 (b pc), .int .i32 (n pc), .int .i64 (to pc)] 44)).frozen? ⟨w.heap.size + 1, j, none⟩ = false := fun j => by simp [World.frozen?, hIa.bX]
    have hn1 : H ≠ w.heap.size + 1 := by omega
    have hn2 : G ≠ w.heap.size + 1 := by omega
    have hn3 : G ≠ H := by omega
    have hn4 : w.heap.size ≠ H := by omega
    have hi0 : (wr.alloc (.cells #[.int .i64 (op pc), .int .i64 (ds pc), .int .i64 (a pc), .int .i64 (b pc), .int .i32 (n pc), .int .i64 (to pc)] 44)).cell? ⟨wr.heap.size, 0, none⟩ = some (.int .i64 (op pc)) := by rw [World.cell?_alloc_at _ _ _ _ rfl]; rfl
    have hi1 : (wr.alloc (.cells #[.int .i64 (op pc), .int .i64 (ds pc), .int .i64 (a pc), .int .i64 (b pc), .int .i32 (n pc), .int .i64 (to pc)] 44)).cell? ⟨wr.heap.size, 1, none⟩ = some (.int .i64 (ds pc)) := by rw [World.cell?_alloc_at _ _ _ _ rfl]; rfl
    have hi2 : (wr.alloc (.cells #[.int .i64 (op pc), .int .i64 (ds pc), .int .i64 (a pc), .int .i64 (b pc), .int .i32 (n pc), .int .i64 (to pc)] 44)).cell? ⟨wr.heap.size, 2, none⟩ = some (.int .i64 (a pc)) := by rw [World.cell?_alloc_at _ _ _ _ rfl]; rfl
    have hi3 : (wr.alloc (.cells #[.int .i64 (op pc), .int .i64 (ds pc), .int .i64 (a pc), .int .i64 (b pc), .int .i32 (n pc), .int .i64 (to pc)] 44)).cell? ⟨wr.heap.size, 3, none⟩ = some (.int .i64 (b pc)) := by rw [World.cell?_alloc_at _ _ _ _ rfl]; rfl
    have hi4 : (wr.alloc (.cells #[.int .i64 (op pc), .int .i64 (ds pc), .int .i64 (a pc), .int .i64 (b pc), .int .i32 (n pc), .int .i64 (to pc)] 44)).cell? ⟨wr.heap.size, 4, none⟩ = some (.int .i32 (n pc)) := by rw [World.cell?_alloc_at _ _ _ _ rfl]; rfl
    have hi5 : (wr.alloc (.cells #[.int .i64 (op pc), .int .i64 (ds pc), .int .i64 (a pc), .int .i64 (b pc), .int .i32 (n pc), .int .i64 (to pc)] 44)).cell? ⟨wr.heap.size, 5, none⟩ = some (.int .i64 (to pc)) := by rw [World.cell?_alloc_at _ _ _ _ rfl]; rfl
    have hI6 : H < wr.heap.size := hHw
    have hII : (wr.alloc (.cells #[.int .i64 (op pc), .int .i64 (ds pc), .int .i64 (a pc), .int .i64 (b pc), .int .i32 (n pc), .int .i64 (to pc)] 44)).heap[wr.heap.size]? = some (.cells #[.int .i64 (op pc), .int .i64 (ds pc), .int .i64 (a pc), .int .i64 (b pc), .int .i32 (n pc), .int .i64 (to pc)] 44 (0, 0)) := heap_alloc_new _ _
    obtain ⟨⟨ho1, ho9⟩, hfine, hnext⟩ := hOKH.out pc hpc
    go_upto_region 11 with fail
    generalize (wr.alloc (.cells #[.int .i64 (op pc), .int .i64 (ds pc), .int .i64 (a pc), .int .i64 (b pc), .int .i32 (n pc), .int .i64 (to pc)] 44)) = wa at *
    generalize wr.heap.size = I at *
    clear d0 d1 d2 d3 d4 d5 hfc hI hat
    generalize hop : op pc = o at *
    have hopH : Hid (op pc = o) := hop
    clear hop
    have hNn : wrap64 (n pc) = n pc := hN pc
    have hme : ∀ s', step ar ⟨args.length, R, len, op, ds, a, b, n, to⟩ pn ⟨pc, dn, bt, met, regs⟩ = .inr s' → meas pn s' < meas pn ⟨pc, dn, bt, met, regs⟩ := fun s' h => (step_less h).1
    have hbelow := hIa.below
    have hsX := hIa.bX
    have hor : o = 1 ∨ o = 2 ∨ o = 3 ∨ o = 4 ∨ o = 5 ∨ o = 6 ∨ o = 7 ∨ o = 8 ∨ o = 9 := by omega
    rcases hor with rfl | rfl | rfl | rfl | rfl | rfl | rfl | rfl | rfl
    · as_aux_lemma =>
        by_cases hl1 : 16 * (1024 + (len : Int)) ≤ bt
        · go_wp2
          have hst : step ar ⟨args.length, R, len, op, ds, a, b, n, to⟩ pn ⟨pc, dn, bt, met, regs⟩ = .inl (4, 0, (met : Int)) := step_lim (F := ⟨args.length, R, len, op, ds, a, b, n, to⟩) (s := ⟨pc, dn, bt, met, regs⟩) (by show op pc ≠ 9; rw [hopH.out]; decide) (lim_true (by first | exact .inl (by simpa using hl1) | exact .inr (by simpa using hl2)))
          have hR : RES = (4, 0, (met : Int)) := hrun.out.symm.trans (runS_inl hst)
          refine bodyPost_ret_by (results_cell_row results7 _ _ (w.heap.size + 1) 32 _ (0, 0) _ rfl (fin_row ((Below.heap_setCell _ _ _ _ (by simp only; omega)).trans hsX) _ _ _) Tryz.underlying32 rfl size32) rfl ⟨?_, ((((hbelow.setCell (by simp only; omega) _).setCell (by simp only; omega) _).setCell (by simp only; omega) _).setCell (by simp only; omega) _)⟩
          rw [hR]
        · by_cases hl2 : (4194304 : Int) ≤ dn
          · go_wp2
            have hst : step ar ⟨args.length, R, len, op, ds, a, b, n, to⟩ pn ⟨pc, dn, bt, met, regs⟩ = .inl (4, 0, (met : Int)) := step_lim (F := ⟨args.length, R, len, op, ds, a, b, n, to⟩) (s := ⟨pc, dn, bt, met, regs⟩) (by show op pc ≠ 9; rw [hopH.out]; decide) (lim_true (by first | exact .inl (by simpa using hl1) | exact .inr (by simpa using hl2)))
            have hR : RES = (4, 0, (met : Int)) := hrun.out.symm.trans (runS_inl hst)
            refine bodyPost_ret_by (results_cell_row results7 _ _ (w.heap.size + 1) 32 _ (0, 0) _ rfl (fin_row ((Below.heap_setCell _ _ _ _ (by simp only; omega)).trans hsX) _ _ _) Tryz.underlying32 rfl size32) rfl ⟨?_, ((((hbelow.setCell (by simp only; omega) _).setCell (by simp only; omega) _).setCell (by simp only; omega) _).setCell (by simp only; omega) _)⟩
            rw [hR]
          · have hl3 : (bt : Int) < 16 * (1024 + (len : Int)) := by omega
            have hl4 : (dn : Int) < 4194304 := by omega
            have hds : 0 ≤ ds pc ∧ ds pc < R := by simp [fine, rdA, rdB, irx.wr, inR] at hfine; omega
            obtain ⟨hd0, hd1⟩ := hds
            have hgd := hIa.reg hregs hd0 hd1
            have hpn1 := hnext (by decide) (by decide) (by decide)
            go_wp2
            have hst : step ar ⟨args.length, R, len, op, ds, a, b, n, to⟩ pn ⟨pc, dn, bt, met, regs⟩ = .inr ⟨pc + 1, dn + 1, bt + 1, met, setR ⟨pc, dn, bt, met, regs⟩ (ds pc) (n pc)⟩ := (step_body (F := ⟨args.length, R, len, op, ds, a, b, n, to⟩) (s := ⟨pc, dn, bt, met, regs⟩) (by show op pc ≠ 9; rw [hopH.out]; decide) (lim_false (F := ⟨args.length, R, len, op, ds, a, b, n, to⟩) (s := ⟨pc, dn, bt, met, regs⟩) (by simpa using hl1) (by simpa using hl2))).trans (by simp [body, go, hopH.out])
            go_roundg (meas pn ⟨pc + 1, dn + 1, bt + 1, met, setR ⟨pc, dn, bt, met, regs⟩ (ds pc) (n pc)⟩)
            case measure => exact hme _ hst
            case rel => exact ⟨⟨pc + 1, dn + 1, bt + 1, met, setR ⟨pc, dn, bt, met, regs⟩ (ds pc) (n pc)⟩, rfl, by go_num, by go_num, by go_num, hIa.setG (ds pc) (n pc) rfl rfl, ⟨hpn1, by simp only [setR, List.length_set]; exact hregs, by simp only; omega, by simp only; omega, by simp only; omega⟩, (runS_inr hst).symm.trans hrun.out⟩
    · as_aux_lemma =>
        by_cases hl1 : 16 * (1024 + (len : Int)) ≤ bt
        · go_wp2
          have hst : step ar ⟨args.length, R, len, op, ds, a, b, n, to⟩ pn ⟨pc, dn, bt, met, regs⟩ = .inl (4, 0, (met : Int)) := step_lim (F := ⟨args.length, R, len, op, ds, a, b, n, to⟩) (s := ⟨pc, dn, bt, met, regs⟩) (by show op pc ≠ 9; rw [hopH.out]; decide) (lim_true (by first | exact .inl (by simpa using hl1) | exact .inr (by simpa using hl2)))
          have hR : RES = (4, 0, (met : Int)) := hrun.out.symm.trans (runS_inl hst)
          refine bodyPost_ret_by (results_cell_row results7 _ _ (w.heap.size + 1) 32 _ (0, 0) _ rfl (fin_row ((Below.heap_setCell _ _ _ _ (by simp only; omega)).trans hsX) _ _ _) Tryz.underlying32 rfl size32) rfl ⟨?_, ((((hbelow.setCell (by simp only; omega) _).setCell (by simp only; omega) _).setCell (by simp only; omega) _).setCell (by simp only; omega) _)⟩
          rw [hR]
        · by_cases hl2 : (4194304 : Int) ≤ dn
          · go_wp2
            have hst : step ar ⟨args.length, R, len, op, ds, a, b, n, to⟩ pn ⟨pc, dn, bt, met, regs⟩ = .inl (4, 0, (met : Int)) := step_lim (F := ⟨args.length, R, len, op, ds, a, b, n, to⟩) (s := ⟨pc, dn, bt, met, regs⟩) (by show op pc ≠ 9; rw [hopH.out]; decide) (lim_true (by first | exact .inl (by simpa using hl1) | exact .inr (by simpa using hl2)))
            have hR : RES = (4, 0, (met : Int)) := hrun.out.symm.trans (runS_inl hst)
            refine bodyPost_ret_by (results_cell_row results7 _ _ (w.heap.size + 1) 32 _ (0, 0) _ rfl (fin_row ((Below.heap_setCell _ _ _ _ (by simp only; omega)).trans hsX) _ _ _) Tryz.underlying32 rfl size32) rfl ⟨?_, ((((hbelow.setCell (by simp only; omega) _).setCell (by simp only; omega) _).setCell (by simp only; omega) _).setCell (by simp only; omega) _)⟩
            rw [hR]
          · have hl3 : (bt : Int) < 16 * (1024 + (len : Int)) := by omega
            have hl4 : (dn : Int) < 4194304 := by omega
            have hds : 0 ≤ ds pc ∧ ds pc < R := by simp [fine, rdA, rdB, irx.wr, inR] at hfine; omega
            obtain ⟨hd0, hd1⟩ := hds
            have hgd := hIa.reg hregs hd0 hd1
            have hra : 0 ≤ a pc ∧ a pc < R := by simp [fine, rdA, rdB, irx.wr, inR] at hfine; omega
            obtain ⟨ha0, ha1⟩ := hra
            have hga := hIa.reg hregs ha0 ha1
            have hpn1 := hnext (by decide) (by decide) (by decide)
            go_wp2
            go_region
            all_goals (try go_wp2)
            have hst : step ar ⟨args.length, R, len, op, ds, a, b, n, to⟩ pn ⟨pc, dn, bt, met, regs⟩ = .inr ⟨pc + 1, dn + 1, bt + 1, met, setR ⟨pc, dn, bt, met, regs⟩ (ds pc) (rg ⟨pc, dn, bt, met, regs⟩ (a pc))⟩ := (step_body (F := ⟨args.length, R, len, op, ds, a, b, n, to⟩) (s := ⟨pc, dn, bt, met, regs⟩) (by show op pc ≠ 9; rw [hopH.out]; decide) (lim_false (F := ⟨args.length, R, len, op, ds, a, b, n, to⟩) (s := ⟨pc, dn, bt, met, regs⟩) (by simpa using hl1) (by simpa using hl2))).trans (by simp [body, go, hopH.out])
            go_roundg (meas pn ⟨pc + 1, dn + 1, bt + 1, met, setR ⟨pc, dn, bt, met, regs⟩ (ds pc) (rg ⟨pc, dn, bt, met, regs⟩ (a pc))⟩)
            case measure => exact hme _ hst
            case rel => exact ⟨⟨pc + 1, dn + 1, bt + 1, met, setR ⟨pc, dn, bt, met, regs⟩ (ds pc) (rg ⟨pc, dn, bt, met, regs⟩ (a pc))⟩, rfl, by go_num, by go_num, by go_num, (Inv.drew (s := ⟨pc + 1, dn + 1, bt + 1, met, setR ⟨pc, dn, bt, met, regs⟩ (ds pc) (rg ⟨pc, dn, bt, met, regs⟩ (a pc))⟩) (hIa.setG (ds pc) (rg ⟨pc, dn, bt, met, regs⟩ (a pc)) (s' := ⟨pc + 1, dn + 1, bt + 1, met, setR ⟨pc, dn, bt, met, regs⟩ (ds pc) (rg ⟨pc, dn, bt, met, regs⟩ (a pc))⟩) rfl rfl)), ⟨hpn1, by simp only [setR, List.length_set]; exact hregs, by simp only; omega, by simp only; omega, by simp only; omega⟩, (runS_inr hst).symm.trans hrun.out⟩
    · as_aux_lemma =>
        by_cases hl1 : 16 * (1024 + (len : Int)) ≤ bt
        · go_wp2
          have hst : step ar ⟨args.length, R, len, op, ds, a, b, n, to⟩ pn ⟨pc, dn, bt, met, regs⟩ = .inl (4, 0, (met : Int)) := step_lim (F := ⟨args.length, R, len, op, ds, a, b, n, to⟩) (s := ⟨pc, dn, bt, met, regs⟩) (by show op pc ≠ 9; rw [hopH.out]; decide) (lim_true (by first | exact .inl (by simpa using hl1) | exact .inr (by simpa using hl2)))
          have hR : RES = (4, 0, (met : Int)) := hrun.out.symm.trans (runS_inl hst)
          refine bodyPost_ret_by (results_cell_row results7 _ _ (w.heap.size + 1) 32 _ (0, 0) _ rfl (fin_row ((Below.heap_setCell _ _ _ _ (by simp only; omega)).trans hsX) _ _ _) Tryz.underlying32 rfl size32) rfl ⟨?_, ((((hbelow.setCell (by simp only; omega) _).setCell (by simp only; omega) _).setCell (by simp only; omega) _).setCell (by simp only; omega) _)⟩
          rw [hR]
        · by_cases hl2 : (4194304 : Int) ≤ dn
          · go_wp2
            have hst : step ar ⟨args.length, R, len, op, ds, a, b, n, to⟩ pn ⟨pc, dn, bt, met, regs⟩ = .inl (4, 0, (met : Int)) := step_lim (F := ⟨args.length, R, len, op, ds, a, b, n, to⟩) (s := ⟨pc, dn, bt, met, regs⟩) (by show op pc ≠ 9; rw [hopH.out]; decide) (lim_true (by first | exact .inl (by simpa using hl1) | exact .inr (by simpa using hl2)))
            have hR : RES = (4, 0, (met : Int)) := hrun.out.symm.trans (runS_inl hst)
            refine bodyPost_ret_by (results_cell_row results7 _ _ (w.heap.size + 1) 32 _ (0, 0) _ rfl (fin_row ((Below.heap_setCell _ _ _ _ (by simp only; omega)).trans hsX) _ _ _) Tryz.underlying32 rfl size32) rfl ⟨?_, ((((hbelow.setCell (by simp only; omega) _).setCell (by simp only; omega) _).setCell (by simp only; omega) _).setCell (by simp only; omega) _)⟩
            rw [hR]
          · have hl3 : (bt : Int) < 16 * (1024 + (len : Int)) := by omega
            have hl4 : (dn : Int) < 4194304 := by omega
            have hds : 0 ≤ ds pc ∧ ds pc < R := by simp [fine, rdA, rdB, irx.wr, inR] at hfine; omega
            obtain ⟨hd0, hd1⟩ := hds
            have hgd := hIa.reg hregs hd0 hd1
            have hra : 0 ≤ a pc ∧ a pc < R := by simp [fine, rdA, rdB, irx.wr, inR] at hfine; omega
            obtain ⟨ha0, ha1⟩ := hra
            have hga := hIa.reg hregs ha0 ha1
            have hrb : 0 ≤ b pc ∧ b pc < R := by simp [fine, rdA, rdB, irx.wr, inR] at hfine; omega
            obtain ⟨hb0, hb1⟩ := hrb
            have hgb := hIa.reg hregs hb0 hb1
            have hpn1 := hnext (by decide) (by decide) (by decide)
            by_cases he : (two (n pc) (rg ⟨pc, dn, bt, met, regs⟩ (a pc)) (rg ⟨pc, dn, bt, met, regs⟩ (b pc))).2 = 0
            · go_wp2_with fail
              go_quiet (first | (go_at_call 13; refine Calls.quiet_of_same (two13 _ _ _ _)))
              go_wp2
              trace_state
              have hst : step ar ⟨args.length, R, len, op, ds, a, b, n, to⟩ pn ⟨pc, dn, bt, met, regs⟩ = .inr ⟨pc + 1, dn + 1, bt + 1, met, setR ⟨pc, dn, bt, met, regs⟩ (ds pc) ((two (n pc) (rg ⟨pc, dn, bt, met, regs⟩ (a pc)) (rg ⟨pc, dn, bt, met, regs⟩ (b pc))).1)⟩ := (step_body (F := ⟨args.length, R, len, op, ds, a, b, n, to⟩) (s := ⟨pc, dn, bt, met, regs⟩) (by show op pc ≠ 9; rw [hopH.out]; decide) (lim_false (F := ⟨args.length, R, len, op, ds, a, b, n, to⟩) (s := ⟨pc, dn, bt, met, regs⟩) (by simpa using hl1) (by simpa using hl2))).trans (by simp [body, go, hopH.out, ar, he])
              go_roundg (meas pn ⟨pc + 1, dn + 1, bt + 1, met, setR ⟨pc, dn, bt, met, regs⟩ (ds pc) ((two (n pc) (rg ⟨pc, dn, bt, met, regs⟩ (a pc)) (rg ⟨pc, dn, bt, met, regs⟩ (b pc))).1)⟩)
              case measure => exact hme _ hst
              case rel => exact ⟨⟨pc + 1, dn + 1, bt + 1, met, setR ⟨pc, dn, bt, met, regs⟩ (ds pc) ((two (n pc) (rg ⟨pc, dn, bt, met, regs⟩ (a pc)) (rg ⟨pc, dn, bt, met, regs⟩ (b pc))).1)⟩, rfl, by go_num, by go_num, by go_num, (by first | exact Inv.drewN (s := ⟨pc + 1, dn + 1, bt + 1, met, setR ⟨pc, dn, bt, met, regs⟩ (ds pc) ((two (n pc) (rg ⟨pc, dn, bt, met, regs⟩ (a pc)) (rg ⟨pc, dn, bt, met, regs⟩ (b pc))).1)⟩) (hIa.setG (ds pc) ((two (n pc) (rg ⟨pc, dn, bt, met, regs⟩ (a pc)) (rg ⟨pc, dn, bt, met, regs⟩ (b pc))).1) (s' := ⟨pc + 1, dn + 1, bt + 1, met, setR ⟨pc, dn, bt, met, regs⟩ (ds pc) ((two (n pc) (rg ⟨pc, dn, bt, met, regs⟩ (a pc)) (rg ⟨pc, dn, bt, met, regs⟩ (b pc))).1)⟩) rfl rfl) _ | exact (hIa.drewN _).setG (ds pc) ((two (n pc) (rg ⟨pc, dn, bt, met, regs⟩ (a pc)) (rg ⟨pc, dn, bt, met, regs⟩ (b pc))).1) (s' := ⟨pc + 1, dn + 1, bt + 1, met, setR ⟨pc, dn, bt, met, regs⟩ (ds pc) ((two (n pc) (rg ⟨pc, dn, bt, met, regs⟩ (a pc)) (rg ⟨pc, dn, bt, met, regs⟩ (b pc))).1)⟩) rfl rfl), ⟨hpn1, by simp only [setR, List.length_set]; exact hregs, by simp only; omega, by simp only; omega, by simp only; omega⟩, (runS_inr hst).symm.trans hrun.out⟩
            · go_wp2_with fail
              go_quiet (first | (go_at_call 13; refine Calls.quiet_of_same (two13 _ _ _ _)))
              generalize htv : two (n pc) (rg ⟨pc, dn, bt, met, regs⟩ (a pc)) (rg ⟨pc, dn, bt, met, regs⟩ (b pc)) = tv at he ⊢
              have htvH : Hid (two (n pc) (rg ⟨pc, dn, bt, met, regs⟩ (a pc)) (rg ⟨pc, dn, bt, met, regs⟩ (b pc)) = tv) := htv
              obtain ⟨tv1, tv2⟩ := tv
              clear htv
              have hne : (tv2 != 0) = true := by simpa using he
              have heH : Hid (tv2 ≠ 0) := he
              clear he
              go_wp2
              have hst : step ar ⟨args.length, R, len, op, ds, a, b, n, to⟩ pn ⟨pc, dn, bt, met, regs⟩ = .inl (2, 0, (met : Int)) := (step_body (F := ⟨args.length, R, len, op, ds, a, b, n, to⟩) (s := ⟨pc, dn, bt, met, regs⟩) (by show op pc ≠ 9; rw [hopH.out]; decide) (lim_false (F := ⟨args.length, R, len, op, ds, a, b, n, to⟩) (s := ⟨pc, dn, bt, met, regs⟩) (by simpa using hl1) (by simpa using hl2))).trans (by simp [body, go, hopH.out, ar, htvH.out, heH.out])
              have hR : RES = (2, 0, (met : Int)) := hrun.out.symm.trans (runS_inl hst)
              refine bodyPost_ret_by (results_cell_row results7 _ _ (w.heap.size + 1) 32 _ (0, 0) _ rfl (fin_row ((Below.heap_setCell _ _ _ _ (by simp only; omega)).trans (hIa.drewN _).bX) _ _ _) Tryz.underlying32 rfl size32) rfl ⟨?_, (((((hIa.drewN _).below.setCell (by simp only; omega) _).setCell (by simp only; omega) _).setCell (by simp only; omega) _).setCell (by simp only; omega) _)⟩
              rw [hR]
    · as_aux_lemma =>
        by_cases hl1 : 16 * (1024 + (len : Int)) ≤ bt
        · go_wp2
          have hst : step ar ⟨args.length, R, len, op, ds, a, b, n, to⟩ pn ⟨pc, dn, bt, met, regs⟩ = .inl (4, 0, (met : Int)) := step_lim (F := ⟨args.length, R, len, op, ds, a, b, n, to⟩) (s := ⟨pc, dn, bt, met, regs⟩) (by show op pc ≠ 9; rw [hopH.out]; decide) (lim_true (by first | exact .inl (by simpa using hl1) | exact .inr (by simpa using hl2)))
          have hR : RES = (4, 0, (met : Int)) := hrun.out.symm.trans (runS_inl hst)
          refine bodyPost_ret_by (results_cell_row results7 _ _ (w.heap.size + 1) 32 _ (0, 0) _ rfl (fin_row ((Below.heap_setCell _ _ _ _ (by simp only; omega)).trans hsX) _ _ _) Tryz.underlying32 rfl size32) rfl ⟨?_, ((((hbelow.setCell (by simp only; omega) _).setCell (by simp only; omega) _).setCell (by simp only; omega) _).setCell (by simp only; omega) _)⟩
          rw [hR]
        · by_cases hl2 : (4194304 : Int) ≤ dn
          · go_wp2
            have hst : step ar ⟨args.length, R, len, op, ds, a, b, n, to⟩ pn ⟨pc, dn, bt, met, regs⟩ = .inl (4, 0, (met : Int)) := step_lim (F := ⟨args.length, R, len, op, ds, a, b, n, to⟩) (s := ⟨pc, dn, bt, met, regs⟩) (by show op pc ≠ 9; rw [hopH.out]; decide) (lim_true (by first | exact .inl (by simpa using hl1) | exact .inr (by simpa using hl2)))
            have hR : RES = (4, 0, (met : Int)) := hrun.out.symm.trans (runS_inl hst)
            refine bodyPost_ret_by (results_cell_row results7 _ _ (w.heap.size + 1) 32 _ (0, 0) _ rfl (fin_row ((Below.heap_setCell _ _ _ _ (by simp only; omega)).trans hsX) _ _ _) Tryz.underlying32 rfl size32) rfl ⟨?_, ((((hbelow.setCell (by simp only; omega) _).setCell (by simp only; omega) _).setCell (by simp only; omega) _).setCell (by simp only; omega) _)⟩
            rw [hR]
          · have hl3 : (bt : Int) < 16 * (1024 + (len : Int)) := by omega
            have hl4 : (dn : Int) < 4194304 := by omega
            have hds : 0 ≤ ds pc ∧ ds pc < R := by simp [fine, rdA, rdB, irx.wr, inR] at hfine; omega
            obtain ⟨hd0, hd1⟩ := hds
            have hgd := hIa.reg hregs hd0 hd1
            have hra : 0 ≤ a pc ∧ a pc < R := by simp [fine, rdA, rdB, irx.wr, inR] at hfine; omega
            obtain ⟨ha0, ha1⟩ := hra
            have hga := hIa.reg hregs ha0 ha1
            have hpn1 := hnext (by decide) (by decide) (by decide)
            go_wp2_with fail
            go_region_law (first | (go_simp; go_at_call 14; refine (one14 _ _ _).mono ?_; rintro e w5 ⟨rfl, rfl⟩))
            all_goals (try go_wp2)
            all_goals (try rw [hNn])
            all_goals
              (have hst : step ar ⟨args.length, R, len, op, ds, a, b, n, to⟩ pn ⟨pc, dn, bt, met, regs⟩ = .inr ⟨pc + 1, dn + 1, bt + 1, met, setR ⟨pc, dn, bt, met, regs⟩ (ds pc) ((one (n pc) (rg ⟨pc, dn, bt, met, regs⟩ (a pc))).1)⟩ := (step_body (F := ⟨args.length, R, len, op, ds, a, b, n, to⟩) (s := ⟨pc, dn, bt, met, regs⟩) (by show op pc ≠ 9; rw [hopH.out]; decide) (lim_false (F := ⟨args.length, R, len, op, ds, a, b, n, to⟩) (s := ⟨pc, dn, bt, met, regs⟩) (by simpa using hl1) (by simpa using hl2))).trans (by simp [body, go, hopH.out, ar])
               go_roundg (meas pn ⟨pc + 1, dn + 1, bt + 1, met, setR ⟨pc, dn, bt, met, regs⟩ (ds pc) ((one (n pc) (rg ⟨pc, dn, bt, met, regs⟩ (a pc))).1)⟩)
               case measure => exact hme _ hst
               case rel => exact ⟨⟨pc + 1, dn + 1, bt + 1, met, setR ⟨pc, dn, bt, met, regs⟩ (ds pc) ((one (n pc) (rg ⟨pc, dn, bt, met, regs⟩ (a pc))).1)⟩, rfl, by go_num, by go_num, by go_num, (Inv.drew (s := ⟨pc + 1, dn + 1, bt + 1, met, setR ⟨pc, dn, bt, met, regs⟩ (ds pc) ((one (n pc) (rg ⟨pc, dn, bt, met, regs⟩ (a pc))).1)⟩) (hIa.setG (ds pc) ((one (n pc) (rg ⟨pc, dn, bt, met, regs⟩ (a pc))).1) (s' := ⟨pc + 1, dn + 1, bt + 1, met, setR ⟨pc, dn, bt, met, regs⟩ (ds pc) ((one (n pc) (rg ⟨pc, dn, bt, met, regs⟩ (a pc))).1)⟩) rfl rfl)), ⟨hpn1, by simp only [setR, List.length_set]; exact hregs, by simp only; omega, by simp only; omega, by simp only; omega⟩, (runS_inr hst).symm.trans hrun.out⟩)
    · as_aux_lemma =>
        by_cases hl1 : 16 * (1024 + (len : Int)) ≤ bt
        · go_wp2
          have hst : step ar ⟨args.length, R, len, op, ds, a, b, n, to⟩ pn ⟨pc, dn, bt, met, regs⟩ = .inl (4, 0, (met : Int)) := step_lim (F := ⟨args.length, R, len, op, ds, a, b, n, to⟩) (s := ⟨pc, dn, bt, met, regs⟩) (by show op pc ≠ 9; rw [hopH.out]; decide) (lim_true (by first | exact .inl (by simpa using hl1) | exact .inr (by simpa using hl2)))
          have hR : RES = (4, 0, (met : Int)) := hrun.out.symm.trans (runS_inl hst)
          refine bodyPost_ret_by (results_cell_row results7 _ _ (w.heap.size + 1) 32 _ (0, 0) _ rfl (fin_row ((Below.heap_setCell _ _ _ _ (by simp only; omega)).trans hsX) _ _ _) Tryz.underlying32 rfl size32) rfl ⟨?_, ((((hbelow.setCell (by simp only; omega) _).setCell (by simp only; omega) _).setCell (by simp only; omega) _).setCell (by simp only; omega) _)⟩
          rw [hR]
        · by_cases hl2 : (4194304 : Int) ≤ dn
          · go_wp2
            have hst : step ar ⟨args.length, R, len, op, ds, a, b, n, to⟩ pn ⟨pc, dn, bt, met, regs⟩ = .inl (4, 0, (met : Int)) := step_lim (F := ⟨args.length, R, len, op, ds, a, b, n, to⟩) (s := ⟨pc, dn, bt, met, regs⟩) (by show op pc ≠ 9; rw [hopH.out]; decide) (lim_true (by first | exact .inl (by simpa using hl1) | exact .inr (by simpa using hl2)))
            have hR : RES = (4, 0, (met : Int)) := hrun.out.symm.trans (runS_inl hst)
            refine bodyPost_ret_by (results_cell_row results7 _ _ (w.heap.size + 1) 32 _ (0, 0) _ rfl (fin_row ((Below.heap_setCell _ _ _ _ (by simp only; omega)).trans hsX) _ _ _) Tryz.underlying32 rfl size32) rfl ⟨?_, ((((hbelow.setCell (by simp only; omega) _).setCell (by simp only; omega) _).setCell (by simp only; omega) _).setCell (by simp only; omega) _)⟩
            rw [hR]
          · have hl3 : (bt : Int) < 16 * (1024 + (len : Int)) := by omega
            have hl4 : (dn : Int) < 4194304 := by omega
            have hto : 0 ≤ to pc ∧ to pc < len := by simp [fine, rdA, rdB, irx.wr, inR] at hfine; omega
            go_wp2
            have htn : ((to pc).toNat : Int) = to pc := by omega
            have hst : step ar ⟨args.length, R, len, op, ds, a, b, n, to⟩ pn ⟨pc, dn, bt, met, regs⟩ = .inr ⟨(to pc).toNat, dn + 1, bt + 1, met, regs⟩ := (step_body (F := ⟨args.length, R, len, op, ds, a, b, n, to⟩) (s := ⟨pc, dn, bt, met, regs⟩) (by show op pc ≠ 9; rw [hopH.out]; decide) (lim_false (F := ⟨args.length, R, len, op, ds, a, b, n, to⟩) (s := ⟨pc, dn, bt, met, regs⟩) (by simpa using hl1) (by simpa using hl2))).trans (by simp [body, go, hopH.out])
            go_roundg (meas pn ⟨(to pc).toNat, dn + 1, bt + 1, met, regs⟩)
            case measure => exact hme _ hst
            case rel => exact ⟨⟨(to pc).toNat, dn + 1, bt + 1, met, regs⟩, rfl, by go_num, by rw [htn], by go_num, hIa.state rfl rfl, ⟨by simp only; omega, hregs, by simp only; omega, by simp only; omega, by simp only; omega⟩, (runS_inr hst).symm.trans hrun.out⟩
    · as_aux_lemma =>
        by_cases hl1 : 16 * (1024 + (len : Int)) ≤ bt
        · go_wp2
          have hst : step ar ⟨args.length, R, len, op, ds, a, b, n, to⟩ pn ⟨pc, dn, bt, met, regs⟩ = .inl (4, 0, (met : Int)) := step_lim (F := ⟨args.length, R, len, op, ds, a, b, n, to⟩) (s := ⟨pc, dn, bt, met, regs⟩) (by show op pc ≠ 9; rw [hopH.out]; decide) (lim_true (by first | exact .inl (by simpa using hl1) | exact .inr (by simpa using hl2)))
          have hR : RES = (4, 0, (met : Int)) := hrun.out.symm.trans (runS_inl hst)
          refine bodyPost_ret_by (results_cell_row results7 _ _ (w.heap.size + 1) 32 _ (0, 0) _ rfl (fin_row ((Below.heap_setCell _ _ _ _ (by simp only; omega)).trans hsX) _ _ _) Tryz.underlying32 rfl size32) rfl ⟨?_, ((((hbelow.setCell (by simp only; omega) _).setCell (by simp only; omega) _).setCell (by simp only; omega) _).setCell (by simp only; omega) _)⟩
          rw [hR]
        · by_cases hl2 : (4194304 : Int) ≤ dn
          · go_wp2
            have hst : step ar ⟨args.length, R, len, op, ds, a, b, n, to⟩ pn ⟨pc, dn, bt, met, regs⟩ = .inl (4, 0, (met : Int)) := step_lim (F := ⟨args.length, R, len, op, ds, a, b, n, to⟩) (s := ⟨pc, dn, bt, met, regs⟩) (by show op pc ≠ 9; rw [hopH.out]; decide) (lim_true (by first | exact .inl (by simpa using hl1) | exact .inr (by simpa using hl2)))
            have hR : RES = (4, 0, (met : Int)) := hrun.out.symm.trans (runS_inl hst)
            refine bodyPost_ret_by (results_cell_row results7 _ _ (w.heap.size + 1) 32 _ (0, 0) _ rfl (fin_row ((Below.heap_setCell _ _ _ _ (by simp only; omega)).trans hsX) _ _ _) Tryz.underlying32 rfl size32) rfl ⟨?_, ((((hbelow.setCell (by simp only; omega) _).setCell (by simp only; omega) _).setCell (by simp only; omega) _).setCell (by simp only; omega) _)⟩
            rw [hR]
          · have hl3 : (bt : Int) < 16 * (1024 + (len : Int)) := by omega
            have hl4 : (dn : Int) < 4194304 := by omega
            have hra : 0 ≤ a pc ∧ a pc < R := by simp [fine, rdA, rdB, irx.wr, inR] at hfine; omega
            obtain ⟨ha0, ha1⟩ := hra
            have hga := hIa.reg hregs ha0 ha1
            have hpn1 := hnext (by decide) (by decide) (by decide)
            have hto : 0 ≤ to pc ∧ to pc < len := by simp [fine, rdA, rdB, irx.wr, inR] at hfine; omega
            cases hb6 : rdB 6 (n pc)
            · cases ht : (test (n pc) (rg ⟨pc, dn, bt, met, regs⟩ (a pc)) 0).1
              · go_wp2_with (go_at_call 15; refine (reads15 6 (ds pc) (a pc) (b pc) (n pc) (to pc) _).mono ?_; rintro e w5 ⟨rfl, hb5⟩; have hI5 := hIa.on hb5; have hII5 := (hb5.block I (block_lt hII)).trans hII; have hj2 : w5.cell? ⟨I, 2, none⟩ = some (.int .i64 (a pc)) := (by simp [World.cell?, hII5]); have hj3 : w5.cell? ⟨I, 3, none⟩ = some (.int .i64 (b pc)) := (by simp [World.cell?, hII5]); have hj4 : w5.cell? ⟨I, 4, none⟩ = some (.int .i32 (n pc)) := (by simp [World.cell?, hII5]); have hj5 : w5.cell? ⟨I, 5, none⟩ = some (.int .i64 (to pc)) := (by simp [World.cell?, hII5]); have hga5 := hI5.reg hregs ha0 ha1)
                go_quiet (first | (go_at_call 16; refine Calls.quiet_of_same (test16 _ _ _ _)))
                go_wp2
                have hst : step ar ⟨args.length, R, len, op, ds, a, b, n, to⟩ pn ⟨pc, dn, bt, met, regs⟩ = .inr ⟨pc + 1, dn + 1, bt + 1, met, regs⟩ := (step_body (F := ⟨args.length, R, len, op, ds, a, b, n, to⟩) (s := ⟨pc, dn, bt, met, regs⟩) (by show op pc ≠ 9; rw [hopH.out]; decide) (lim_false (F := ⟨args.length, R, len, op, ds, a, b, n, to⟩) (s := ⟨pc, dn, bt, met, regs⟩) (by simpa using hl1) (by simpa using hl2))).trans (by simp [body, go, hopH.out, ar, hb6, ht])
                go_roundg (meas pn ⟨pc + 1, dn + 1, bt + 1, met, regs⟩)
                case measure => exact hme _ hst
                case rel => exact ⟨⟨pc + 1, dn + 1, bt + 1, met, regs⟩, rfl, by go_num, by go_num, by go_num, (Inv.state (hI5.drewN _) rfl rfl), ⟨by simp only; omega, hregs, by simp only; omega, by simp only; omega, by simp only; omega⟩, (runS_inr hst).symm.trans hrun.out⟩
              · have htn : ((to pc).toNat : Int) = to pc := by omega
                go_wp2_with (go_at_call 15; refine (reads15 6 (ds pc) (a pc) (b pc) (n pc) (to pc) _).mono ?_; rintro e w5 ⟨rfl, hb5⟩; have hI5 := hIa.on hb5; have hII5 := (hb5.block I (block_lt hII)).trans hII; have hj2 : w5.cell? ⟨I, 2, none⟩ = some (.int .i64 (a pc)) := (by simp [World.cell?, hII5]); have hj3 : w5.cell? ⟨I, 3, none⟩ = some (.int .i64 (b pc)) := (by simp [World.cell?, hII5]); have hj4 : w5.cell? ⟨I, 4, none⟩ = some (.int .i32 (n pc)) := (by simp [World.cell?, hII5]); have hj5 : w5.cell? ⟨I, 5, none⟩ = some (.int .i64 (to pc)) := (by simp [World.cell?, hII5]); have hga5 := hI5.reg hregs ha0 ha1)
                go_quiet (first | (go_at_call 16; refine Calls.quiet_of_same (test16 _ _ _ _)))
                go_wp2
                have hst : step ar ⟨args.length, R, len, op, ds, a, b, n, to⟩ pn ⟨pc, dn, bt, met, regs⟩ = .inr ⟨(to pc).toNat, dn + 1, bt + 1, met, regs⟩ := (step_body (F := ⟨args.length, R, len, op, ds, a, b, n, to⟩) (s := ⟨pc, dn, bt, met, regs⟩) (by show op pc ≠ 9; rw [hopH.out]; decide) (lim_false (F := ⟨args.length, R, len, op, ds, a, b, n, to⟩) (s := ⟨pc, dn, bt, met, regs⟩) (by simpa using hl1) (by simpa using hl2))).trans (by simp [body, go, hopH.out, ar, hb6, ht])
                go_roundg (meas pn ⟨(to pc).toNat, dn + 1, bt + 1, met, regs⟩)
                case measure => exact hme _ hst
                case rel => exact ⟨⟨(to pc).toNat, dn + 1, bt + 1, met, regs⟩, rfl, by go_num, by rw [htn], by go_num, (Inv.state (hI5.drewN _) rfl rfl), ⟨by simp only; omega, hregs, by simp only; omega, by simp only; omega, by simp only; omega⟩, (runS_inr hst).symm.trans hrun.out⟩
            · have hrb : 0 ≤ b pc ∧ b pc < R := by simp [fine, rdA, hb6, irx.wr, inR] at hfine; omega
              obtain ⟨hb0, hb1⟩ := hrb
              have hgb := hIa.reg hregs hb0 hb1
              cases ht : (test (n pc) (rg ⟨pc, dn, bt, met, regs⟩ (a pc)) (rg ⟨pc, dn, bt, met, regs⟩ (b pc))).1
              · go_wp2_with (go_at_call 15; refine (reads15 6 (ds pc) (a pc) (b pc) (n pc) (to pc) _).mono ?_; rintro e w5 ⟨rfl, hb5⟩; have hI5 := hIa.on hb5; have hII5 := (hb5.block I (block_lt hII)).trans hII; have hj2 : w5.cell? ⟨I, 2, none⟩ = some (.int .i64 (a pc)) := (by simp [World.cell?, hII5]); have hj3 : w5.cell? ⟨I, 3, none⟩ = some (.int .i64 (b pc)) := (by simp [World.cell?, hII5]); have hj4 : w5.cell? ⟨I, 4, none⟩ = some (.int .i32 (n pc)) := (by simp [World.cell?, hII5]); have hj5 : w5.cell? ⟨I, 5, none⟩ = some (.int .i64 (to pc)) := (by simp [World.cell?, hII5]); have hga5 := hI5.reg hregs ha0 ha1; have hgb5 := hI5.reg hregs hb0 hb1)
                go_quiet (first | (go_at_call 16; refine Calls.quiet_of_same (test16 _ _ _ _)))
                go_wp2
                have hst : step ar ⟨args.length, R, len, op, ds, a, b, n, to⟩ pn ⟨pc, dn, bt, met, regs⟩ = .inr ⟨pc + 1, dn + 1, bt + 1, met, regs⟩ := (step_body (F := ⟨args.length, R, len, op, ds, a, b, n, to⟩) (s := ⟨pc, dn, bt, met, regs⟩) (by show op pc ≠ 9; rw [hopH.out]; decide) (lim_false (F := ⟨args.length, R, len, op, ds, a, b, n, to⟩) (s := ⟨pc, dn, bt, met, regs⟩) (by simpa using hl1) (by simpa using hl2))).trans (by simp [body, go, hopH.out, ar, hb6, ht])
                go_roundg (meas pn ⟨pc + 1, dn + 1, bt + 1, met, regs⟩)
                case measure => exact hme _ hst
                case rel => exact ⟨⟨pc + 1, dn + 1, bt + 1, met, regs⟩, rfl, by go_num, by go_num, by go_num, (Inv.state (hI5.drewN _) rfl rfl), ⟨by simp only; omega, hregs, by simp only; omega, by simp only; omega, by simp only; omega⟩, (runS_inr hst).symm.trans hrun.out⟩
              · have htn : ((to pc).toNat : Int) = to pc := by omega
                go_wp2_with (go_at_call 15; refine (reads15 6 (ds pc) (a pc) (b pc) (n pc) (to pc) _).mono ?_; rintro e w5 ⟨rfl, hb5⟩; have hI5 := hIa.on hb5; have hII5 := (hb5.block I (block_lt hII)).trans hII; have hj2 : w5.cell? ⟨I, 2, none⟩ = some (.int .i64 (a pc)) := (by simp [World.cell?, hII5]); have hj3 : w5.cell? ⟨I, 3, none⟩ = some (.int .i64 (b pc)) := (by simp [World.cell?, hII5]); have hj4 : w5.cell? ⟨I, 4, none⟩ = some (.int .i32 (n pc)) := (by simp [World.cell?, hII5]); have hj5 : w5.cell? ⟨I, 5, none⟩ = some (.int .i64 (to pc)) := (by simp [World.cell?, hII5]); have hga5 := hI5.reg hregs ha0 ha1; have hgb5 := hI5.reg hregs hb0 hb1)
                go_quiet (first | (go_at_call 16; refine Calls.quiet_of_same (test16 _ _ _ _)))
                go_wp2
                have hst : step ar ⟨args.length, R, len, op, ds, a, b, n, to⟩ pn ⟨pc, dn, bt, met, regs⟩ = .inr ⟨(to pc).toNat, dn + 1, bt + 1, met, regs⟩ := (step_body (F := ⟨args.length, R, len, op, ds, a, b, n, to⟩) (s := ⟨pc, dn, bt, met, regs⟩) (by show op pc ≠ 9; rw [hopH.out]; decide) (lim_false (F := ⟨args.length, R, len, op, ds, a, b, n, to⟩) (s := ⟨pc, dn, bt, met, regs⟩) (by simpa using hl1) (by simpa using hl2))).trans (by simp [body, go, hopH.out, ar, hb6, ht])
                go_roundg (meas pn ⟨(to pc).toNat, dn + 1, bt + 1, met, regs⟩)
                case measure => exact hme _ hst
                case rel => exact ⟨⟨(to pc).toNat, dn + 1, bt + 1, met, regs⟩, rfl, by go_num, by rw [htn], by go_num, (Inv.state (hI5.drewN _) rfl rfl), ⟨by simp only; omega, hregs, by simp only; omega, by simp only; omega, by simp only; omega⟩, (runS_inr hst).symm.trans hrun.out⟩
    · as_aux_lemma =>
        by_cases hl1 : 16 * (1024 + (len : Int)) ≤ bt
        · go_wp2
          have hst : step ar ⟨args.length, R, len, op, ds, a, b, n, to⟩ pn ⟨pc, dn, bt, met, regs⟩ = .inl (4, 0, (met : Int)) := step_lim (F := ⟨args.length, R, len, op, ds, a, b, n, to⟩) (s := ⟨pc, dn, bt, met, regs⟩) (by show op pc ≠ 9; rw [hopH.out]; decide) (lim_true (by first | exact .inl (by simpa using hl1) | exact .inr (by simpa using hl2)))
          have hR : RES = (4, 0, (met : Int)) := hrun.out.symm.trans (runS_inl hst)
          refine bodyPost_ret_by (results_cell_row results7 _ _ (w.heap.size + 1) 32 _ (0, 0) _ rfl (fin_row ((Below.heap_setCell _ _ _ _ (by simp only; omega)).trans hsX) _ _ _) Tryz.underlying32 rfl size32) rfl ⟨?_, ((((hbelow.setCell (by simp only; omega) _).setCell (by simp only; omega) _).setCell (by simp only; omega) _).setCell (by simp only; omega) _)⟩
          rw [hR]
        · by_cases hl2 : (4194304 : Int) ≤ dn
          · go_wp2
            have hst : step ar ⟨args.length, R, len, op, ds, a, b, n, to⟩ pn ⟨pc, dn, bt, met, regs⟩ = .inl (4, 0, (met : Int)) := step_lim (F := ⟨args.length, R, len, op, ds, a, b, n, to⟩) (s := ⟨pc, dn, bt, met, regs⟩) (by show op pc ≠ 9; rw [hopH.out]; decide) (lim_true (by first | exact .inl (by simpa using hl1) | exact .inr (by simpa using hl2)))
            have hR : RES = (4, 0, (met : Int)) := hrun.out.symm.trans (runS_inl hst)
            refine bodyPost_ret_by (results_cell_row results7 _ _ (w.heap.size + 1) 32 _ (0, 0) _ rfl (fin_row ((Below.heap_setCell _ _ _ _ (by simp only; omega)).trans hsX) _ _ _) Tryz.underlying32 rfl size32) rfl ⟨?_, ((((hbelow.setCell (by simp only; omega) _).setCell (by simp only; omega) _).setCell (by simp only; omega) _).setCell (by simp only; omega) _)⟩
            rw [hR]
          · have hl3 : (bt : Int) < 16 * (1024 + (len : Int)) := by omega
            have hl4 : (dn : Int) < 4194304 := by omega
            have hra : 0 ≤ a pc ∧ a pc < R := by simp [fine, rdA, rdB, irx.wr, inR] at hfine; omega
            obtain ⟨ha0, ha1⟩ := hra
            have hga := hIa.reg hregs ha0 ha1
            go_wp2
            go_region
            all_goals (try go_wp2)
            have hst : step ar ⟨args.length, R, len, op, ds, a, b, n, to⟩ pn ⟨pc, dn, bt, met, regs⟩ = .inl (1, rg ⟨pc, dn, bt, met, regs⟩ (a pc), (met : Int)) := (step_body (F := ⟨args.length, R, len, op, ds, a, b, n, to⟩) (s := ⟨pc, dn, bt, met, regs⟩) (by show op pc ≠ 9; rw [hopH.out]; decide) (lim_false (F := ⟨args.length, R, len, op, ds, a, b, n, to⟩) (s := ⟨pc, dn, bt, met, regs⟩) (by simpa using hl1) (by simpa using hl2))).trans (by simp [body, go, hopH.out])
            have hR : RES = (1, rg ⟨pc, dn, bt, met, regs⟩ (a pc), (met : Int)) := hrun.out.symm.trans (runS_inl hst)
            refine bodyPost_ret_by (results_cell_row results7 _ _ (w.heap.size + 1) 32 _ (0, 0) _ rfl (fin_row ((Below.heap_setCell _ _ _ _ (by simp only; omega)).trans ((Below.heap_setCell _ _ _ _ (by simp only; omega)).trans hsX)) _ _ _) Tryz.underlying32 rfl size32) rfl ⟨?_, (((((hbelow.setCell (by simp only; omega) _).setCell (by simp only; omega) _).drew.setCell (by simp only; omega) _).setCell (by simp only; omega) _).setCell (by simp only; omega) _)⟩
            rw [hR]
    · as_aux_lemma =>
        by_cases hl1 : 16 * (1024 + (len : Int)) ≤ bt
        · go_wp2
          have hst : step ar ⟨args.length, R, len, op, ds, a, b, n, to⟩ pn ⟨pc, dn, bt, met, regs⟩ = .inl (4, 0, (met : Int)) := step_lim (F := ⟨args.length, R, len, op, ds, a, b, n, to⟩) (s := ⟨pc, dn, bt, met, regs⟩) (by show op pc ≠ 9; rw [hopH.out]; decide) (lim_true (by first | exact .inl (by simpa using hl1) | exact .inr (by simpa using hl2)))
          have hR : RES = (4, 0, (met : Int)) := hrun.out.symm.trans (runS_inl hst)
          refine bodyPost_ret_by (results_cell_row results7 _ _ (w.heap.size + 1) 32 _ (0, 0) _ rfl (fin_row ((Below.heap_setCell _ _ _ _ (by simp only; omega)).trans hsX) _ _ _) Tryz.underlying32 rfl size32) rfl ⟨?_, ((((hbelow.setCell (by simp only; omega) _).setCell (by simp only; omega) _).setCell (by simp only; omega) _).setCell (by simp only; omega) _)⟩
          rw [hR]
        · by_cases hl2 : (4194304 : Int) ≤ dn
          · go_wp2
            have hst : step ar ⟨args.length, R, len, op, ds, a, b, n, to⟩ pn ⟨pc, dn, bt, met, regs⟩ = .inl (4, 0, (met : Int)) := step_lim (F := ⟨args.length, R, len, op, ds, a, b, n, to⟩) (s := ⟨pc, dn, bt, met, regs⟩) (by show op pc ≠ 9; rw [hopH.out]; decide) (lim_true (by first | exact .inl (by simpa using hl1) | exact .inr (by simpa using hl2)))
            have hR : RES = (4, 0, (met : Int)) := hrun.out.symm.trans (runS_inl hst)
            refine bodyPost_ret_by (results_cell_row results7 _ _ (w.heap.size + 1) 32 _ (0, 0) _ rfl (fin_row ((Below.heap_setCell _ _ _ _ (by simp only; omega)).trans hsX) _ _ _) Tryz.underlying32 rfl size32) rfl ⟨?_, ((((hbelow.setCell (by simp only; omega) _).setCell (by simp only; omega) _).setCell (by simp only; omega) _).setCell (by simp only; omega) _)⟩
            rw [hR]
          · have hl3 : (bt : Int) < 16 * (1024 + (len : Int)) := by omega
            have hl4 : (dn : Int) < 4194304 := by omega
            go_wp2
            have hst : step ar ⟨args.length, R, len, op, ds, a, b, n, to⟩ pn ⟨pc, dn, bt, met, regs⟩ = .inl (1, 0, (met : Int)) := (step_body (F := ⟨args.length, R, len, op, ds, a, b, n, to⟩) (s := ⟨pc, dn, bt, met, regs⟩) (by show op pc ≠ 9; rw [hopH.out]; decide) (lim_false (F := ⟨args.length, R, len, op, ds, a, b, n, to⟩) (s := ⟨pc, dn, bt, met, regs⟩) (by simpa using hl1) (by simpa using hl2))).trans (by simp [body, go, hopH.out])
            have hR : RES = (1, 0, (met : Int)) := hrun.out.symm.trans (runS_inl hst)
            refine bodyPost_ret_by (results_cell_row results7 _ _ (w.heap.size + 1) 32 _ (0, 0) _ rfl (fin_row ((Below.heap_setCell _ _ _ _ (by simp only; omega)).trans hsX) _ _ _) Tryz.underlying32 rfl size32) rfl ⟨?_, ((((hbelow.setCell (by simp only; omega) _).setCell (by simp only; omega) _).setCell (by simp only; omega) _).setCell (by simp only; omega) _)⟩
            rw [hR]
    · as_aux_lemma =>
        have hpn1 := hnext (by decide) (by decide) (by decide)
        have hbb : (bt : Int) + 1 ≤ 9223372036854775807 := by omega
        by_cases hp : pn ≤ met
        · go_wp2
          have hst : step ar ⟨args.length, R, len, op, ds, a, b, n, to⟩ pn ⟨pc, dn, bt, met, regs⟩ = .inl (3, 0, (met : Int)) := by simp [step, hopH.out, hp]
          have hR : RES = (3, 0, (met : Int)) := hrun.out.symm.trans (runS_inl hst)
          refine bodyPost_ret_by (results_cell_row results7 _ _ (w.heap.size + 1) 32 _ (0, 0) _ rfl (fin_row ((Below.heap_setCell _ _ _ _ (by simp only; omega)).trans hsX) _ _ _) Tryz.underlying32 rfl size32) rfl ⟨?_, ((((hbelow.setCell (by simp only; omega) _).setCell (by simp only; omega) _).setCell (by simp only; omega) _).setCell (by simp only; omega) _)⟩
          rw [hR]
        · have hp' : (met : Int) < pn := by omega
          go_wp2
          have hst : step ar ⟨args.length, R, len, op, ds, a, b, n, to⟩ pn ⟨pc, dn, bt, met, regs⟩ = .inr ⟨pc + 1, dn + 1, 0, met + 1, regs⟩ := by simp [step, hopH.out, hp]
          go_roundg (meas pn ⟨pc + 1, dn + 1, 0, met + 1, regs⟩)
          case measure => exact hme _ hst
          case rel => exact ⟨⟨pc + 1, dn + 1, 0, met + 1, regs⟩, rfl, by go_num, by go_num, by go_num, (hIa.setM rfl rfl), ⟨hpn1, hregs, by simp only; omega, by simp only; omega, by simp only; omega⟩, (runS_inr hst).symm.trans hrun.out⟩
end Go.Proofs.YtondggcbldnhcaaGreat.irx
