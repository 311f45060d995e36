/-
  A Func and numbers that came in: what their cells hold, with the range of the numbers.
-/
import Derived.Test.YtondggcbldnhcaaGreatIrArg
import Derived.Test.YtondggcbldnhcaaGreatIrAr2
namespace Go.Proofs.YtondggcbldnhcaaGreat.irx
open Go.ChangeShapes Go.WideShapes Go.ChangeAt Go.RowKit Go.Deep
set_option linter.unusedVariables false
set_option linter.unusedSimpArgs false
theorem i32_wf {n : Int} (h : (Lit.int .i32 n).wf = true) : I32 n := by
  have hx : -2147483648 ≤ n ∧ n ≤ 2147483647 := by simpa [Lit.wf, IntKind.min, IntKind.max, IntKind.signed, IntKind.bits] using h
  exact hx
theorem i32z : I32 0 := by unfold I32; omega
set_option maxRecDepth 1000000 in
/-- the code -/
theorem code_argI {H : Type} {enc : TypeId × Value → H} {W : World} {k : Nat} {v : Value} {y : DataW H × List MemPlace} (P R : Int) (h : DataW.trod enc Tryz.prog W 0 (fun _ => true) true k 22 [v] = some y) :
    ∃ cad len cap op ds a b n to, v = .slice cad len cap ∧ len ≤ cap ∧ (∀ i, I32 (n i)) ∧ (∀ l, l ≤ len → Code_ W W.heap.size cad ⟨P, R, l, op, ds, a, b, n, to⟩) ∧ (0 < len → ∃ cb off, cad = some ⟨cb, off, none⟩) := by
  rcases open_slice Tryz.underlying22 h with ⟨hcs, hx⟩ | ⟨ad, len, cap, m, kk, D, Pl, hcs, _, hl, hm, hmm, _, hx⟩
  · injection hcs with hv _
    exact ⟨none, 0, 0, fun _ => 0, fun _ => 0, fun _ => 0, fun _ => 0, fun _ => 0, fun _ => 0, hv, Nat.le_refl _, fun _ => i32z, fun l hl => fun i hi => by simp only at hi; omega, fun hi => by omega⟩
  · injection hcs with hv _
    simp only [if_true] at hmm
    subst hmm
    have each : ∀ i, i < m → ∃ q : Int × Int × Int × Int × Int × Int, W.cell? (ad.add (i * 6)) = some (.int .i64 q.1) ∧ W.cell? (ad.add (i * 6 + 1)) = some (.int .i64 q.2.1) ∧ W.cell? (ad.add (i * 6 + 2)) = some (.int .i64 q.2.2.1) ∧ W.cell? (ad.add (i * 6 + 3)) = some (.int .i64 q.2.2.2.1) ∧ W.cell? (ad.add (i * 6 + 4)) = some (.int .i32 q.2.2.2.2.1) ∧ W.cell? (ad.add (i * 6 + 5)) = some (.int .i64 q.2.2.2.2.2) ∧ I32 q.2.2.2.2.1 := by
      intro i hi
      obtain ⟨cs', h1, h2⟩ := hx i hi
      rw [cells44] at h1
      obtain ⟨_, hlen, hcell⟩ := World.cells?_some h1
      obtain ⟨xs, k', hk, hxy, _, hxl, hf⟩ := DataW.trod_struct Tryz.underlying44 h2
      match xs, hxl, cs', hlen with
      | [y0, y1, y2, y3, y4, y5], _, [v0, v1, v2, v3, v4, v5], _ =>
        have g0 := hf 0 _ rfl
        have g1 := hf 1 _ rfl
        have g2 := hf 2 _ rfl
        have g3 := hf 3 _ rfl
        have g4 := hf 4 _ rfl
        have g5 := hf 5 _ rfl
        simp [cells3, cells21] at g0 g1 g2 g3 g4 g5
        obtain ⟨n0, e0, _⟩ := DataW.trod_int Tryz.underlying3 g0
        obtain ⟨n1, e1, _⟩ := DataW.trod_int Tryz.underlying3 g1
        obtain ⟨n2, e2, _⟩ := DataW.trod_int Tryz.underlying3 g2
        obtain ⟨n3, e3, _⟩ := DataW.trod_int Tryz.underlying3 g3
        obtain ⟨n4, e4, _, hwf⟩ := DataW.trod_int Tryz.underlying21 g4
        obtain ⟨n5, e5, _⟩ := DataW.trod_int Tryz.underlying3 g5
        injection e0 with e0 _
        injection e1 with e1 _
        injection e2 with e2 _
        injection e3 with e3 _
        injection e4 with e4 _
        injection e5 with e5 _
        subst e0 e1 e2 e3 e4 e5
        have f0 := hcell 0 (by omega)
        have f1 := hcell 1 (by omega)
        have f2 := hcell 2 (by omega)
        have f3 := hcell 3 (by omega)
        have f4 := hcell 4 (by omega)
        have f5 := hcell 5 (by omega)
        rw [add_add] at f0 f1 f2 f3 f4 f5
        exact ⟨(n0, n1, n2, n3, n4, n5), by simpa using f0, by simpa using f1, by simpa using f2, by simpa using f3, by simpa using f4, by simpa using f5, i32_wf hwf⟩
    obtain ⟨q, hq⟩ := choose_lt each
    obtain ⟨cb, off, spot⟩ := ad
    by_cases hz : 0 < m
    · have hspot : spot = none := by simpa [Addr.add] using World.cell?_spot (hq 0 hz).1
      subst hspot
      refine ⟨_, len, m, fun i => (q i).1, fun i => (q i).2.1, fun i => (q i).2.2.1, fun i => (q i).2.2.2.1, fun i => if i < m then (q i).2.2.2.2.1 else 0, fun i => (q i).2.2.2.2.2, hv, hl, fun i => ?_, fun l hll => fun i hi => ⟨cb, off, rfl, ?_, ?_⟩, fun _ => ⟨cb, off, rfl⟩⟩
      · simp only
        split
        · rename_i him; exact (hq i him).2.2.2.2.2.2
        · exact i32z
      · simp only at hi
        have hc := (hq i (by omega)).1
        rw [add_plain] at hc
        exact lt_of_cell hc
      · simp only at hi
        obtain ⟨c0, c1, c2, c3, c4, c5, _⟩ := hq i (by omega)
        rw [add_plain] at c0 c1 c2 c3 c4 c5
        exact ⟨c0, c1, c2, c3, by simp only [if_pos (show i < m by omega)]; exact c4, c5⟩
    · exact ⟨_, len, m, fun _ => 0, fun _ => 0, fun _ => 0, fun _ => 0, fun _ => 0, fun _ => 0, hv, hl, fun _ => i32z, fun l hll => fun i hi => by simp only at hi; omega, fun hi => by omega⟩
/-- the numbers -/
theorem args_argI {H : Type} {enc : TypeId × Value → H} {W : World} {k : Nat} {v : Value} {y : DataW H × List MemPlace} (h : DataW.trod enc Tryz.prog W 0 (fun _ => true) true k 25 [v] = some y) :
    ∃ aad acap args, v = .slice aad args.length acap ∧ ArgsX W W.heap.size aad args ∧ args.length ≤ acap ∧ (aad = none → args.length = 0 ∧ acap = 0) ∧ ∀ x ∈ args, I32 x := by
  rcases open_slice1 Tryz.underlying25 cells21 h with ⟨hcs, hx⟩ | ⟨ad, len, cap, m, n, V, D, Pl, hcs, _, hl, hm, hmm, _, hx⟩
  · injection hcs with hv _
    exact ⟨none, 0, [], hv, fun i hi => by simp at hi, Nat.le_refl _, fun _ => ⟨rfl, rfl⟩, fun x hx => by cases hx⟩
  · injection hcs with hv _
    simp only [if_true] at hmm
    subst hmm
    have each : ∀ i, i < m → ∃ q : Int, W.cell? (ad.add i) = some (.int .i32 q) ∧ I32 q := by
      intro i hi
      obtain ⟨h1, h2⟩ := hx i hi
      obtain ⟨q, e, _, hwf⟩ := DataW.trod_int Tryz.underlying21 h2
      injection e with e _
      exact ⟨q, by rw [h1, e], i32_wf hwf⟩
    obtain ⟨q, hq⟩ := choose_lt each
    obtain ⟨cb, off, spot⟩ := ad
    refine ⟨_, m, (List.range len).map q, by simpa using hv, fun i hi => ?_, by simpa using hl, fun h => (by cases h), fun x hx => ?_⟩
    rotate_left
    · simp only [List.mem_map, List.mem_range] at hx
      obtain ⟨i, hi, rfl⟩ := hx
      exact (hq i (by omega)).2
    simp only [List.length_map, List.length_range] at hi
    have hspot : spot = none := by simpa [Addr.add] using World.cell?_spot (hq 0 (by omega)).1
    subst hspot
    have hc := (hq i (by omega)).1
    rw [add_plain] at hc
    exact ⟨cb, off, rfl, lt_of_cell hc, by rw [hc]; simp [List.getD, hi]⟩
end Go.Proofs.YtondggcbldnhcaaGreat.irx
