/-
  X86Writes ANSWERS TRUE for every list of instructions: Encode's contract (the evaluator), its loops walked by the kit's tactics.
-/
import Derived.Test.YtjcjalmkjncoaaaRows
import Derived.Test.YtjcjalmkjncoaaaWrLaw
import Derived.WalkKit
import Derived.ProofKit
import Derived.OpenShut
import Derived.Deep.SlicePairs
namespace Go.Proofs.Ytjcjalmkjncoaaa.x86Writes
open Go.ChangeShapes Go.WideShapes Go.ChangeAt Go.RowKit Go.Deep
set_option linter.unusedVariables false
set_option linter.unusedSimpArgs false

theorem own : ownKnob Try.prog.godebug = none := by kernel_rfl
theorem laidOut : laidOutB Try.prog = true := by kernel_rfl
theorem cells32 : Try.prog.cellsOf 32 = 4 := by kernel_rfl
theorem cells3 : Try.prog.cellsOf 3 = 1 := by kernel_rfl
theorem cells21 : Try.prog.cellsOf 21 = 1 := by kernel_rfl

/-- a list of instructions that came in -/
theorem ins_arg {H : Type} {enc : TypeId × Value → H} {W : World} {n : Nat} {v : Value} {y : DataW H × List MemPlace} (h : DataW.trod enc Try.prog W 0 (fun _ => true) true n 27 [v] = some y) :
    ∃ ad len cap O A X M, v = .slice ad len cap ∧ len ≤ cap ∧ wr.Ins W W.heap.size ad len O A X M ∧ (0 < len → ∃ b off, ad = some ⟨b, off, none⟩) := by
  rcases open_slice Try.underlying27 h with ⟨hcs, hx⟩ | ⟨a, len, cap, m, k, D, Pl, hcs, _, hl, hm, hmm, _, hx⟩
  · injection hcs with hv _
    exact ⟨none, 0, 0, fun _ => 0, fun _ => 0, fun _ => 0, fun _ => 0, hv, Nat.le_refl _, fun i hi => by omega, fun hi => by omega⟩
  · injection hcs with hv _
    simp only [if_true] at hmm
    subst hmm
    have each : ∀ i, i < m → ∃ q : Int × Int × Int × Int, W.cell? (a.add (i * 4)) = some (.int .i64 q.1) ∧ W.cell? (a.add (i * 4 + 1)) = some (.int .i64 q.2.1) ∧ W.cell? (a.add (i * 4 + 2)) = some (.int .i64 q.2.2.1) ∧ W.cell? (a.add (i * 4 + 3)) = some (.int .i32 q.2.2.2) := by
      intro i hi
      obtain ⟨cs', h1, h2⟩ := hx i hi
      rw [cells32] at h1
      obtain ⟨_, hlen, hcell⟩ := World.cells?_some h1
      obtain ⟨xs, k', hk, hxy, _, hxl, hf⟩ := DataW.trod_struct Try.underlying32 h2
      match xs, hxl, cs', hlen with
      | [y0, y1, y2, y3], _, [v0, v1, v2, v3], _ =>
        have g0 := hf 0 _ rfl
        have g1 := hf 1 _ rfl
        have g2 := hf 2 _ rfl
        have g3 := hf 3 _ rfl
        simp [cells3, cells21] at g0 g1 g2 g3
        obtain ⟨n0, e0, _⟩ := DataW.trod_int Try.underlying3 g0
        obtain ⟨n1, e1, _⟩ := DataW.trod_int Try.underlying3 g1
        obtain ⟨n2, e2, _⟩ := DataW.trod_int Try.underlying3 g2
        obtain ⟨n3, e3, _⟩ := DataW.trod_int Try.underlying21 g3
        injection e0 with e0 _
        injection e1 with e1 _
        injection e2 with e2 _
        injection e3 with e3 _
        subst e0 e1 e2 e3
        have f0 := hcell 0 (by omega)
        have f1 := hcell 1 (by omega)
        have f2 := hcell 2 (by omega)
        have f3 := hcell 3 (by omega)
        rw [add_add] at f0 f1 f2 f3
        exact ⟨(n0, n1, n2, n3), by simpa using f0, by simpa using f1, by simpa using f2, by simpa using f3⟩
    obtain ⟨q, hq⟩ := choose_lt each
    obtain ⟨b, off, spot⟩ := a
    by_cases hz : 0 < m
    · have hspot : spot = none := by simpa [Addr.add] using World.cell?_spot (hq 0 hz).1
      subst hspot
      refine ⟨_, len, m, fun i => (q i).1, fun i => (q i).2.1, fun i => (q i).2.2.1, fun i => (q i).2.2.2, hv, hl, fun i hi => ⟨b, off, rfl, ?_, ?_⟩, fun _ => ⟨b, off, rfl⟩⟩
      · have hc := (hq i (by omega)).1
        rw [add_plain] at hc
        apply Nat.lt_of_not_le
        intro hge
        have hn : W.heap[b]? = none := by simp [hge]
        simp [World.cell?, hn] at hc
      · obtain ⟨c0, c1, c2, c3⟩ := hq i (by omega)
        rw [add_plain] at c0 c1 c2 c3
        exact ⟨c0, c1, c2, c3⟩
    · exact ⟨_, len, m, fun _ => 0, fun _ => 0, fun _ => 0, fun _ => 0, hv, hl, fun i hi => by omega, fun hi => by omega⟩

set_option maxRecDepth 100000 in
theorem lifted (os : Os) (started : os.Started) (H : Type) (enc : TypeId × Value → H) :
    ReturnsInHanded {} Try.checked os 4 .any (Rows.x86WritesSpec.pre6 enc Try.prog Try.f4 Rows.x86WritesRow.domain false) (Rows.x86WritesSpec.post enc Try.prog Try.f4 false true false false) := by
  refine returnsInHanded_of_change (C := Try.checked) own started (by kernel_rfl) Try.func4
    (ChangeSpec.witness6 (enc := enc) (C := Try.checked) false ⟨#[], #[.slice none 0 0], []⟩ 8 (by kernel_rfl) (by kernel_rfl) (by kernel_rfl) (by kernel_rfl)) ?_
  intro W base args ds gs before hval0 hW hcnd _
  have hval : ∀ (j : Nat) t v, Try.f4.params[j]? = some t → args[j]? = some v → Value.okWide Try.prog W .any base t v := hval0
  have hW' := hW
  obtain ⟨p, q, hA0, hV, rfl, hfz, hnd⟩ := hW
  have hA : DataW.TrodAll enc Try.prog W 0 (fun _ => true) true Try.f4.params.toList args.toList ds p := hA0
  rw [Try.params4] at hA hval
  obtain ⟨v0, vs0, d0, ds0, p0, q0, hargs, rfl, rfl, h0, r0⟩ := trodAll_cons hA
  obtain ⟨rfl, rfl, rfl⟩ := trodAll_nil r0
  obtain rfl : args = #[v0] := by cases args; simp_all
  obtain ⟨rfl, rfl⟩ := trodVars_none hV
  have h0k := h0
  obtain ⟨a0, len0, cap0, rfl⟩ := okWide_slice Try.underlying27 (hval 0 27 v0 rfl rfl)
  obtain ⟨fuel, hf⟩ := h0
  obtain ⟨ad, len, cap, O, A, X, M, hv, hlc, hins, had⟩ := ins_arg hf
  injection hv with e1 e2 e3
  subst e1 e2 e3
  have hlt : ∀ x ∈ p0, x.block < W.heap.size := fun x hx => by simpa using hW'.lt x (by simpa using hx)
  clear hA0 hval0
  have walk : Calls Try.prog 4 #[.slice a0 len0 cap0] W fun e w' => e = .returned (.bool true) ∧ Below W.heap.size W w' := by
    by_cases hn : len0 ≤ 100
    · exact wr.law4 a0 len0 cap0 O A X M W hn hins
    · obtain ⟨b, off, rfl⟩ := had (by omega)
      exact wr.law4b b off len0 cap0 O A X M W (by omega) hlc hins
  refine walk.mono fun e W' ⟨he, hnx⟩ => ?_
  subst he
  refine ⟨_, rfl, _, _, _, [], p0 ++ [], [], hW', ?_, ?_, rfl, hnx.frame _, fun h => by cases h⟩
  · exact trodAll_cons_mk (shut_bool Try.underlying4 _) trodAll_mk0
  · exact trodAll_cons_mk (Below.trod laidOut (by kernel_rfl) (of_decide_eq_true (by kernel_rfl)) h0k hnx hlt) trodAll_mk0

theorem over : Rows.x86WritesRow.holds Try.pinned (OpenSpec.ofChange Rows.x86WritesSpec) :=
  OpenClaim.holds_of_wide 4 Try.f4 rfl rfl rfl rfl rfl rfl rfl ⟨rfl, rfl, rfl, rfl, rfl⟩ rfl rfl rfl rfl rfl (by kernel_rfl) Try.func4 (by kernel_rfl)
    (of_decide_eq_true (by kernel_rfl)) (by unfold Func.isWrapper; first | (rw [if_pos (by decide +kernel)]; kernel_rfl) | (rw [if_neg (by decide +kernel)]; exact ⟨rfl, rfl⟩))
    (fun os started H enc _ => lifted os started H enc)

/-- ████ THE STATEMENT ████ -/
theorem proved : Rows.X86WritesSaid :=
  over
#print axioms proved
end Go.Proofs.Ytjcjalmkjncoaaa.x86Writes
