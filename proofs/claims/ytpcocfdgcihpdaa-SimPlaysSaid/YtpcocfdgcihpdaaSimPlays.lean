/-
  SimPlays ANSWERS TRUE whatever comes in.
-/
import Derived.Test.YtpcocfdgcihpdaaRows
import Derived.Test.YtpcocfdgcihpdaaSmY
import Derived.WalkKit
import Derived.ProofKit
import Derived.OpenShut
import Derived.Deep.SlicePairs
import Derived.Deep.Slices
import Derived.ChangeSlices
set_option maxHeartbeats 64000000
set_option maxRecDepth 1000000
set_option linter.unusedVariables false
set_option linter.unusedSimpArgs false
namespace Go.Proofs.Ytpcocfdgcihpdaa.simPlays
open Go.ChangeShapes Go.WideShapes Go.ChangeAt Go.RowKit Go.Deep
theorem own : ownKnob Try.prog.godebug = none := by kernel_rfl
theorem laidOut : laidOutB Try.prog = true := by kernel_rfl
theorem cells30 : Try.prog.cellsOf 30 = 4 := by kernel_rfl
theorem cells3 : Try.prog.cellsOf 3 = 1 := by kernel_rfl
theorem cells21 : Try.prog.cellsOf 21 = 1 := by kernel_rfl
theorem cells5 : Try.prog.cellsOf 5 = 1 := by kernel_rfl
theorem i32_wf {n : Int} (h : (Lit.int .i32 n).wf = true) : rdw.I32 n := by
  have hx : -2147483648 ≤ n ∧ n ≤ 2147483647 := by simpa [Lit.wf, IntKind.min, IntKind.max, IntKind.signed, IntKind.bits] using h
  exact hx
theorem u8_wf {n : Int} (h : (Lit.int .u8 n).wf = true) : 0 ≤ n ∧ n ≤ 255 := by
  simpa [Lit.wf, IntKind.min, IntKind.max, IntKind.signed, IntKind.bits] using h
theorem lt_of_cell {W : World} {b o : Nat} {v : Value} (hc : W.cell? ⟨b, o, none⟩ = some v) : b < W.heap.size := by
  apply Nat.lt_of_not_le
  intro hge
  have hn : W.heap[b]? = none := by simp [hge]
  simp [World.cell?, hn] at hc
/-- a list of instructions that came in -/
theorem ins_arg {H : Type} {enc : TypeId × Value → H} {W : World} {n : Nat} {v : Value} {y : DataW H × List MemPlace} (h : DataW.trod enc Try.prog W 0 (fun _ => true) true n 32 [v] = some y) :
    ∃ ad len cap O A X M, v = .slice ad len cap ∧ (∀ i, i < len → rdw.I32 (M i)) ∧ (∀ l, l ≤ len → wr.Ins W W.heap.size ad l O A X M) := by
  rcases open_slice Try.underlying32 h with ⟨hcs, hx⟩ | ⟨a, len, cap, m, k, D, Pl, hcs, _, hl, hm, hmm, _, hx⟩
  · injection hcs with hv _
    exact ⟨none, 0, 0, fun _ => 0, fun _ => 0, fun _ => 0, fun _ => 0, hv, fun i hi => by omega, fun l hl i hi => by omega⟩
  · injection hcs with hv _
    simp only [if_true] at hmm
    subst hmm
    have each : ∀ i, i < m → ∃ q : Int × Int × Int × Int, W.cell? (a.add (i * 4)) = some (.int .i64 q.1) ∧ W.cell? (a.add (i * 4 + 1)) = some (.int .i64 q.2.1) ∧ W.cell? (a.add (i * 4 + 2)) = some (.int .i64 q.2.2.1) ∧ W.cell? (a.add (i * 4 + 3)) = some (.int .i32 q.2.2.2) ∧ rdw.I32 q.2.2.2 := by
      intro i hi
      obtain ⟨cs', h1, h2⟩ := hx i hi
      rw [cells30] at h1
      obtain ⟨_, hlen, hcell⟩ := World.cells?_some h1
      obtain ⟨xs, k', hk, hxy, _, hxl, hf⟩ := DataW.trod_struct Try.underlying30 h2
      match xs, hxl, cs', hlen with
      | [y0, y1, y2, y3], _, [v0, v1, v2, v3], _ =>
        have g0 := hf 0 _ rfl
        have g1 := hf 1 _ rfl
        have g2 := hf 2 _ rfl
        have g3 := hf 3 _ rfl
        simp [cells3, cells21] at g0 g1 g2 g3
        obtain ⟨n0, e0, _⟩ := DataW.trod_int Try.underlying3 g0
        obtain ⟨n1, e1, _⟩ := DataW.trod_int Try.underlying3 g1
        obtain ⟨n2, e2, _⟩ := DataW.trod_int Try.underlying3 g2
        obtain ⟨n3, e3, _, hwf⟩ := DataW.trod_int Try.underlying21 g3
        injection e0 with e0 _
        injection e1 with e1 _
        injection e2 with e2 _
        injection e3 with e3 _
        subst e0 e1 e2 e3
        have f0 := hcell 0 (by omega)
        have f1 := hcell 1 (by omega)
        have f2 := hcell 2 (by omega)
        have f3 := hcell 3 (by omega)
        rw [add_add] at f0 f1 f2 f3
        exact ⟨(n0, n1, n2, n3), by simpa using f0, by simpa using f1, by simpa using f2, by simpa using f3, i32_wf hwf⟩
    obtain ⟨q, hq⟩ := choose_lt each
    obtain ⟨b, off, spot⟩ := a
    by_cases hz : 0 < m
    · have hspot : spot = none := by simpa [Addr.add] using World.cell?_spot (hq 0 hz).1
      subst hspot
      refine ⟨_, len, m, fun i => (q i).1, fun i => (q i).2.1, fun i => (q i).2.2.1, fun i => (q i).2.2.2, hv, fun i hi => (hq i (by omega)).2.2.2.2, fun l hll i hi => ⟨b, off, rfl, ?_, ?_⟩⟩
      · have hc := (hq i (by omega)).1
        rw [add_plain] at hc
        apply Nat.lt_of_not_le
        intro hge
        have hn : W.heap[b]? = none := by simp [hge]
        simp [World.cell?, hn] at hc
      · obtain ⟨c0, c1, c2, c3, _⟩ := hq i (by omega)
        rw [add_plain] at c0 c1 c2 c3
        exact ⟨c0, c1, c2, c3⟩
    · exact ⟨_, len, m, fun _ => 0, fun _ => 0, fun _ => 0, fun _ => 0, hv, fun i hi => by omega, fun l hll i hi => by omega⟩
theorem cells42 : Try.prog.cellsOf 42 = 16 := by kernel_rfl
/-- sixteen numbers that came in -/
theorem regs_arg {H : Type} {enc : TypeId × Value → H} {W : World} {k : Nat} {cs : List Value} {y : DataW H × List MemPlace} (hl : cs.length = 16) (h : DataW.trod enc Try.prog W 0 (fun _ => true) true k 42 cs = some y) :
    ∃ R, cs = rdw.rvs R ∧ ∀ r, r < 16 → rdw.I32 (R r) := by
  obtain ⟨xs, m, hm, hx, _, hxl, hel⟩ := DataW.trod_array Try.underlying42 h
  have each : ∀ i, i < 16 → ∃ q : Int, cs[i]? = some (.int .i32 q) ∧ rdw.I32 q := by
    intro i hi
    have h1 := hel i hi
    have e : xs[i]? = some (xs[i]'(by omega)) := List.getElem?_eq_getElem (by omega)
    rw [e] at h1
    obtain ⟨q, e1, _, hwf⟩ := DataW.trod_int Try.underlying21 h1
    rw [cells21, Nat.mul_one] at e1
    refine ⟨q, ?_, i32_wf hwf⟩
    have h2 : ((cs.drop i).take 1)[0]? = some (.int .i32 q) := by rw [e1]; rfl
    simpa using h2
  obtain ⟨q, hq⟩ := choose_lt each
  refine ⟨q, ?_, fun r hr => (hq r hr).2⟩
  apply List.ext_getElem?
  intro i
  by_cases hi : i < 16
  · rw [(hq i hi).1, rdw.rvs_get q hi]
  · have a : cs[i]? = none := by simp; omega
    have b : (rdw.rvs q)[i]? = none := by simp [rdw.rvs]; omega
    rw [a, b]
/-- the bytes that came in -/
theorem bytes_arg {H : Type} {enc : TypeId × Value → H} {W : World} {k : Nat} {v : Value} {y : DataW H × List MemPlace} (h : DataW.trod enc Try.prog W 0 (fun _ => true) true k 27 [v] = some y) :
    ∃ ad len cap x, v = .slice ad len cap ∧ rdw.Arr W ad len cap x := by
  rcases open_slice1 Try.underlying27 cells5 h with ⟨hcs, hx⟩ | ⟨ad, len, cap, m, n, V, D, Pl, hcs, _, hl, hm, hmm, _, hx⟩
  · injection hcs with hv _
    exact ⟨none, 0, 0, [], hv, rfl, Nat.le_refl _, by omega, (fun v hv => by cases hv), fun hi => by omega⟩
  · injection hcs with hv _
    simp only [if_true] at hmm
    subst hmm
    have each : ∀ i, i < m → ∃ q : Int, W.cell? (ad.add i) = some (.int .u8 q) ∧ 0 ≤ q ∧ q ≤ 255 := by
      intro i hi
      obtain ⟨h1, h2⟩ := hx i hi
      obtain ⟨q, e, _, hwf⟩ := DataW.trod_int Try.underlying5 h2
      injection e with e _
      exact ⟨q, by rw [h1, e], u8_wf hwf⟩
    obtain ⟨q, hq⟩ := choose_lt each
    obtain ⟨cb, off, spot⟩ := ad
    refine ⟨_, len, m, (List.range len).map q, hv, by simp, hl, by have := hm; unfold maxLen at this; omega, fun v hv => ?_, fun hi => ?_⟩
    · simp only [List.mem_map, List.mem_range] at hv
      obtain ⟨i, hi, rfl⟩ := hv
      have := (hq i (by omega)).2
      omega
    · have hspot : spot = none := by simpa [Addr.add] using World.cell?_spot (hq 0 (by omega)).1
      subst hspot
      refine ⟨cb, off, rfl, ?_, fun j hj => ?_⟩
      · have hc := (hq 0 (by omega)).1
        rw [add_plain] at hc
        exact lt_of_cell hc
      · simp only [List.length_map, List.length_range] at hj
        have hc := (hq j (by omega)).1
        rw [add_plain] at hc
        rw [hc]
        simp [List.getD, hj]
/-- numbers that came in -/
theorem ints_arg {H : Type} {enc : TypeId × Value → H} {W : World} {k : Nat} {v : Value} {y : DataW H × List MemPlace} (h : DataW.trod enc Try.prog W 0 (fun _ => true) true k 45 [v] = some y) :
    ∃ ad len cap x, v = .slice ad len cap ∧ len ≤ cap ∧ rdw.AJ W ad len x := by
  rcases open_ints Try.underlying45 Try.underlying21 cells21 h with ⟨hcs, hx⟩ | ⟨a, len, cap, zs, hcs, _, hl, hm, hzs, _, hcell, hwf⟩
  · injection hcs with hv _
    exact ⟨none, 0, 0, fun _ => 0, hv, Nat.le_refl _, fun i hi => by omega⟩
  · injection hcs with hv _
    simp only [if_true] at hzs
    refine ⟨some a, len, cap, fun i => zs.getD i 0, hv, hl, fun i hi => ?_⟩
    have hc := hcell i (by omega)
    obtain ⟨b, off, spot⟩ := a
    have hspot : spot = none := by simpa [Addr.add] using World.cell?_spot (hcell 0 (by omega))
    subst hspot
    rw [add_plain] at hc
    refine ⟨b, off, rfl, ?_, hc, ?_⟩
    · apply Nat.lt_of_not_le
      intro hge
      have hn : W.heap[b]? = none := by simp [hge]
      simp [World.cell?, hn] at hc
    · have e : zs.getD i 0 = zs[i]'(by omega) := by simp [List.getD, show i < zs.length by omega]
      show rdw.I32 (zs.getD i 0)
      rw [e]
      exact i32_wf (hwf _ (List.getElem_mem _))
theorem lifted (os : Os) (started : os.Started) (H : Type) (enc : TypeId × Value → H) :
    ReturnsInHanded {} Try.checked os 8 .any (Rows.simPlaysSpec.pre6 enc Try.prog Try.f8 Rows.simPlaysRow.domain false) (Rows.simPlaysSpec.post enc Try.prog Try.f8 false true false false) := by
  refine returnsInHanded_of_change (C := Try.checked) own started (by kernel_rfl) Try.func8
    (ChangeSpec.witness6 (enc := enc) (C := Try.checked) false ⟨#[], #[.slice none 0 0, .slice none 0 0, .agg (rdw.rvs (fun _ => 0)).toArray, .slice none 0 0, .int .i64 0], []⟩ 8 (by kernel_rfl) (by kernel_rfl) (by kernel_rfl) (by kernel_rfl)) ?_
  intro W base args ds gs before hval0 hW hcnd _
  have hval : ∀ (j : Nat) t v, Try.f8.params[j]? = some t → args[j]? = some v → Value.okWide Try.prog W .any base t v := hval0
  have hW' := hW
  obtain ⟨p, q, hA0, hV, rfl, hfz, hnd⟩ := hW
  have hA : DataW.TrodAll enc Try.prog W 0 (fun _ => true) true Try.f8.params.toList args.toList ds p := hA0
  rw [Try.params8] at hA hval
  obtain ⟨v0, vs0, d0, ds0, p0, q0, hargs, rfl, rfl, h0, r0⟩ := trodAll_cons hA
  obtain ⟨v1, vs1, d1, ds1, p1, q1, rfl, rfl, rfl, h1, r1⟩ := trodAll_cons r0
  obtain ⟨v2, vs2, d2, ds2, p2, q2, rfl, rfl, rfl, h2, r2⟩ := trodAll_cons r1
  obtain ⟨v3, vs3, d3, ds3, p3, q3, rfl, rfl, rfl, h3, r3⟩ := trodAll_cons r2
  obtain ⟨v4, vs4, d4, ds4, p4, q4, rfl, rfl, rfl, h4, r4⟩ := trodAll_cons r3
  obtain ⟨rfl, rfl, rfl⟩ := trodAll_nil r4
  obtain rfl : args = #[v0, v1, v2, v3, v4] := by cases args; simp_all
  obtain ⟨rfl, rfl⟩ := trodVars_none hV
  have h0k := h0
  have h1k := h1
  have h2k := h2
  have h3k := h3
  have h4k := h4
  obtain ⟨a0, len0, cap0, rfl⟩ := okWide_slice Try.underlying32 (hval 0 32 v0 rfl rfl)
  obtain ⟨a1, len1, cap1, rfl⟩ := okWide_slice Try.underlying27 (hval 1 27 v1 rfl rfl)
  obtain ⟨cs, rfl, hsz, _⟩ : ∃ cs, v2 = .agg cs ∧ cs.size = Try.prog.cellsOf 42 ∧ Row.okWide Try.prog W .any base 42 cs := by
    have := hval 2 42 v2 rfl rfl
    simpa [Value.okWide, Try.underlying42] using this
  rw [cells42] at hsz
  obtain ⟨a3, len3, cap3, rfl⟩ := okWide_slice Try.underlying45 (hval 3 45 v3 rfl rfl)
  obtain ⟨steps, rfl⟩ := okWide_int Try.underlying3 (hval 4 3 v4 rfl rfl)
  obtain ⟨fuel, hf⟩ := h0
  obtain ⟨fuel1, hf1⟩ := h1
  obtain ⟨fuel2, hf2⟩ := h2
  obtain ⟨fuel3, hf3⟩ := h3
  obtain ⟨fuel4, hf4⟩ := h4
  obtain ⟨ad, len, cap, O, A, X, M, hv, hM, hins⟩ := ins_arg hf
  injection hv with e1 e2 e3
  subst e1 e2 e3
  obtain ⟨bd, bn, bcap, x, hv, hx⟩ := bytes_arg hf1
  injection hv with e1 e2 e3
  subst e1 e2 e3
  obtain ⟨l⟩ := cs
  obtain ⟨R, rfl, hR⟩ := regs_arg (by simpa using hsz) (by simpa [Value.cells] using hf2)
  obtain ⟨wd, wn, wcap, y, hv, hwn, hy⟩ := ints_arg hf3
  injection hv with e1 e2 e3
  subst e1 e2 e3
  have hst : -9223372036854775808 ≤ steps ∧ steps ≤ 9223372036854775807 := by
    obtain ⟨n, e, _, hwf⟩ := DataW.trod_int Try.underlying3 (by simpa [Value.cells] using hf4)
    injection e with e _
    injection e with _ e
    subst e
    simpa [Lit.wf, IntKind.min, IntKind.max, IntKind.signed, IntKind.bits] using hwf
  have hlt0 : ∀ x ∈ p0, x.block < W.heap.size := fun x hx => by simpa using hW'.lt x (by simp [hx])
  have hlt1 : ∀ x ∈ p1, x.block < W.heap.size := fun x hx => by simpa using hW'.lt x (by simp [hx])
  have hlt2 : ∀ x ∈ p2, x.block < W.heap.size := fun x hx => by simpa using hW'.lt x (by simp [hx])
  have hlt3 : ∀ x ∈ p3, x.block < W.heap.size := fun x hx => by simpa using hW'.lt x (by simp [hx])
  have hlt4 : ∀ x ∈ p4, x.block < W.heap.size := fun x hx => by simpa using hW'.lt x (by simp [hx])
  clear hA0 hval0
  refine (rdw.law8 a0 len0 cap0 O A X M hM a1 len1 cap1 x R hR a3 len3 cap3 y steps hst W hins hx hy hwn).mono fun e W' ⟨he, hnx⟩ => ?_
  subst he
  refine ⟨_, rfl, _, _, _, [], p0 ++ (p1 ++ (p2 ++ (p3 ++ (p4 ++ [])))), [], hW', ?_, ?_, rfl, hnx.frame _, fun h => by cases h⟩
  · exact trodAll_cons_mk (shut_bool Try.underlying4 _) trodAll_mk0
  · exact trodAll_cons_mk (Below.trod laidOut (by kernel_rfl) (of_decide_eq_true (by kernel_rfl)) h0k hnx hlt0) (trodAll_cons_mk (Below.trod laidOut (by kernel_rfl) (of_decide_eq_true (by kernel_rfl)) h1k hnx hlt1) (trodAll_cons_mk (Below.trod laidOut (by kernel_rfl) (of_decide_eq_true (by kernel_rfl)) h2k hnx hlt2) (trodAll_cons_mk (Below.trod laidOut (by kernel_rfl) (of_decide_eq_true (by kernel_rfl)) h3k hnx hlt3) (trodAll_cons_mk (Below.trod laidOut (by kernel_rfl) (of_decide_eq_true (by kernel_rfl)) h4k hnx hlt4) trodAll_mk0))))
theorem over : Rows.simPlaysRow.holds Try.pinned (OpenSpec.ofChange Rows.simPlaysSpec) :=
  OpenClaim.holds_of_wide 8 Try.f8 rfl rfl rfl rfl rfl rfl rfl ⟨rfl, rfl, rfl, rfl, rfl⟩ rfl rfl rfl rfl rfl (by kernel_rfl) Try.func8 (by kernel_rfl)
    (of_decide_eq_true (by kernel_rfl)) (by unfold Func.isWrapper; first | (rw [if_pos (by decide +kernel)]; kernel_rfl) | (rw [if_neg (by decide +kernel)]; exact ⟨rfl, rfl⟩))
    (fun os started H enc _ => lifted os started H enc)
/-- ████ THE STATEMENT ████ -/
theorem proved : Rows.SimPlaysSaid :=
  over
#print axioms proved
end Go.Proofs.Ytpcocfdgcihpdaa.simPlays
