/-
  X86Reads ANSWERS TRUE for all that is together of bulk at most 1048576 (the statement's second form): both readers read the same.
-/
import Derived.Test.YtjcjalmkjncoaaaRows
import Derived.Test.YtjcjalmkjncoaaaRefLaw
import Derived.WalkKit
import Derived.ProofKit
import Derived.OpenShut
import Derived.Deep.SlicePairs
import Derived.Deep.Slices
import Derived.JoinedCond
import Derived.Lib.SmallJoins
namespace Go.Proofs.Ytjcjalmkjncoaaa.x86Reads
open Go.ChangeShapes Go.WideShapes Go.ChangeAt Go.RowKit Go.Deep
set_option linter.unusedVariables false
set_option linter.unusedSimpArgs false

theorem own : ownKnob Try.prog.godebug = none := by kernel_rfl
theorem laidOut : laidOutB Try.prog = true := by kernel_rfl
theorem cells32 : Try.prog.cellsOf 32 = 4 := by kernel_rfl
theorem cells3 : Try.prog.cellsOf 3 = 1 := by kernel_rfl
theorem cells21 : Try.prog.cellsOf 21 = 1 := by kernel_rfl

theorem cells5 : Try.prog.cellsOf 5 = 1 := by kernel_rfl
theorem i32_wf {n : Int} (h : (Lit.int .i32 n).wf = true) : rdw.I32 n := by
  have hx : -2147483648 ≤ n ∧ n ≤ 2147483647 := by simpa [Lit.wf, IntKind.min, IntKind.max, IntKind.signed, IntKind.bits] using h
  exact hx
theorem u8_wf {n : Int} (h : (Lit.int .u8 n).wf = true) : 0 ≤ n ∧ n ≤ 255 := by
  simpa [Lit.wf, IntKind.min, IntKind.max, IntKind.signed, IntKind.bits] using h
theorem lt_of_cell {W : World} {b o : Nat} {v : Value} (hc : W.cell? ⟨b, o, none⟩ = some v) : b < W.heap.size := by
  apply Nat.lt_of_not_le
  intro hge
  have hn : W.heap[b]? = none := by simp [hge]
  simp [World.cell?, hn] at hc
theorem one_le {H : Type} (d : DataW H) : 1 ≤ Rows.uptoBulk d := by
  cases d with
  | lit l => cases l <;> simp [Rows.uptoBulk]
  | nil => simp [Rows.uptoBulk]
  | ptr d => simp [Rows.uptoBulk]
  | slice elems spare => simp [Rows.uptoBulk]
  | agg parts => simp [Rows.uptoBulk]
  | iface t d => simp [Rows.uptoBulk]
  | map entries => simp [Rows.uptoBulk]
  | held h => simp [Rows.uptoBulk]
theorem length_le {H : Type} (l : List (DataW H)) : l.length ≤ Rows.uptoBulkAll l := by
  induction l with
  | nil => simp [Rows.uptoBulkAll]
  | cons x r ih => have := one_le x; simp only [Rows.uptoBulkAll, List.length_cons]; omega
/-- the bytes that came in -/
theorem bytes_arg {H : Type} {enc : TypeId × Value → H} {W : World} {k : Nat} {v : Value} {y : DataW H × List MemPlace} (h : DataW.trod enc Try.prog W 0 (fun _ => true) true k 33 [v] = some y) :
    ∃ ad len cap x, v = .slice ad len cap ∧ rdw.Arr W ad len cap x ∧ (ad = none → len = 0 ∧ cap = 0) ∧ len ≤ Rows.uptoBulk y.1 := by
  rcases open_slice1 Try.underlying33 cells5 h with ⟨hcs, hx⟩ | ⟨ad, len, cap, m, n, V, D, Pl, hcs, _, hl, hm, hmm, hyx, hx⟩
  · injection hcs with hv _
    exact ⟨none, 0, 0, [], hv, ⟨rfl, Nat.le_refl _, by omega, (fun v hv => by cases hv), fun hi => by omega⟩, fun _ => ⟨rfl, rfl⟩, Nat.zero_le _⟩
  · injection hcs with hv _
    simp only [if_true] at hmm
    subst hmm
    have each : ∀ i, i < m → ∃ q : Int, W.cell? (ad.add i) = some (.int .u8 q) ∧ 0 ≤ q ∧ q ≤ 255 := by
      intro i hi
      obtain ⟨h1, h2⟩ := hx i hi
      obtain ⟨q, e, _, hwf⟩ := DataW.trod_int Try.underlying5 h2
      injection e with e _
      exact ⟨q, by rw [h1, e], u8_wf hwf⟩
    obtain ⟨q, hq⟩ := choose_lt each
    obtain ⟨cb, off, spot⟩ := ad
    refine ⟨_, len, m, (List.range len).map q, hv, ⟨by simp, hl, by have := hm; unfold maxLen at this; omega, fun v hv => ?_, fun hi => ?_⟩, (fun e => by cases e), ?_⟩
    · simp only [List.mem_map, List.mem_range] at hv
      obtain ⟨i, hi, rfl⟩ := hv
      have := (hq i (by omega)).2
      omega
    · have hspot : spot = none := by simpa [Addr.add] using World.cell?_spot (hq 0 (by omega)).1
      subst hspot
      refine ⟨cb, off, rfl, ?_, fun j hj => ?_⟩
      · have hc := (hq 0 (by omega)).1
        rw [add_plain] at hc
        exact lt_of_cell hc
      · simp only [List.length_map, List.length_range] at hj
        have hc := (hq j (by omega)).1
        rw [add_plain] at hc
        rw [hc]
        simp [List.getD, hj]
    · rw [hyx]
      simp only [Rows.uptoBulk]
      have := length_le ((List.range len).map D)
      simp only [List.length_map, List.length_range] at this
      omega

/-- a list of instructions that came in -/
theorem ins_arg {H : Type} {enc : TypeId × Value → H} {W : World} {n : Nat} {v : Value} {y : DataW H × List MemPlace} (h : DataW.trod enc Try.prog W 0 (fun _ => true) true n 27 [v] = some y) :
    ∃ ad len cap O A X M, v = .slice ad len cap ∧ len ≤ cap ∧ (∀ i, i < len → rdw.I32 (M i)) ∧ (∀ l, l ≤ len → wr.Ins W W.heap.size ad l O A X M) := by
  rcases open_slice Try.underlying27 h with ⟨hcs, hx⟩ | ⟨a, len, cap, m, k, D, Pl, hcs, _, hl, hm, hmm, _, hx⟩
  · injection hcs with hv _
    exact ⟨none, 0, 0, fun _ => 0, fun _ => 0, fun _ => 0, fun _ => 0, hv, Nat.le_refl _, fun i hi => by omega, fun l hl i hi => by omega⟩
  · injection hcs with hv _
    simp only [if_true] at hmm
    subst hmm
    have each : ∀ i, i < m → ∃ q : Int × Int × Int × Int, W.cell? (a.add (i * 4)) = some (.int .i64 q.1) ∧ W.cell? (a.add (i * 4 + 1)) = some (.int .i64 q.2.1) ∧ W.cell? (a.add (i * 4 + 2)) = some (.int .i64 q.2.2.1) ∧ W.cell? (a.add (i * 4 + 3)) = some (.int .i32 q.2.2.2) ∧ rdw.I32 q.2.2.2 := by
      intro i hi
      obtain ⟨cs', h1, h2⟩ := hx i hi
      rw [cells32] at h1
      obtain ⟨_, hlen, hcell⟩ := World.cells?_some h1
      obtain ⟨xs, k', hk, hxy, _, hxl, hf⟩ := DataW.trod_struct Try.underlying32 h2
      match xs, hxl, cs', hlen with
      | [y0, y1, y2, y3], _, [v0, v1, v2, v3], _ =>
        have g0 := hf 0 _ rfl
        have g1 := hf 1 _ rfl
        have g2 := hf 2 _ rfl
        have g3 := hf 3 _ rfl
        simp [cells3, cells21] at g0 g1 g2 g3
        obtain ⟨n0, e0, _⟩ := DataW.trod_int Try.underlying3 g0
        obtain ⟨n1, e1, _⟩ := DataW.trod_int Try.underlying3 g1
        obtain ⟨n2, e2, _⟩ := DataW.trod_int Try.underlying3 g2
        obtain ⟨n3, e3, _, hwf⟩ := DataW.trod_int Try.underlying21 g3
        injection e0 with e0 _
        injection e1 with e1 _
        injection e2 with e2 _
        injection e3 with e3 _
        subst e0 e1 e2 e3
        have f0 := hcell 0 (by omega)
        have f1 := hcell 1 (by omega)
        have f2 := hcell 2 (by omega)
        have f3 := hcell 3 (by omega)
        rw [add_add] at f0 f1 f2 f3
        exact ⟨(n0, n1, n2, n3), by simpa using f0, by simpa using f1, by simpa using f2, by simpa using f3, i32_wf hwf⟩
    obtain ⟨q, hq⟩ := choose_lt each
    obtain ⟨b, off, spot⟩ := a
    by_cases hz : 0 < m
    · have hspot : spot = none := by simpa [Addr.add] using World.cell?_spot (hq 0 hz).1
      subst hspot
      refine ⟨_, len, m, fun i => (q i).1, fun i => (q i).2.1, fun i => (q i).2.2.1, fun i => (q i).2.2.2, hv, hl, fun i hi => (hq i (by omega)).2.2.2.2, fun l hll i hi => ⟨b, off, rfl, ?_, ?_⟩⟩
      · have hc := (hq i (by omega)).1
        rw [add_plain] at hc
        apply Nat.lt_of_not_le
        intro hge
        have hn : W.heap[b]? = none := by simp [hge]
        simp [World.cell?, hn] at hc
      · obtain ⟨c0, c1, c2, c3, _⟩ := hq i (by omega)
        rw [add_plain] at c0 c1 c2 c3
        exact ⟨c0, c1, c2, c3⟩
    · exact ⟨_, len, m, fun _ => 0, fun _ => 0, fun _ => 0, fun _ => 0, hv, hl, fun i hi => by omega, fun l hll i hi => by omega⟩

theorem contract (H : Type) (enc : TypeId × Value → H) (W : World) (base : Nat) (args : Array Value) (ds gs : List (DataW H)) (before : List MemPlace)
    (hval : ∀ (j : Nat) t v, Try.f6.params[j]? = some t → args[j]? = some v → Value.okWide Try.prog W .any base t v)
    (hW : DataW.Whole enc Try.prog Try.f6.params.toList Rows.x86ReadsSpec.vars false W args.toList ds gs before) (hk : Rows.uptoSmall H (ds ++ gs) = true) :
    Calls Try.prog 6 args W fun e W' => ∃ v, e = .returned v ∧ Rows.x86ReadsSpec.post enc Try.prog Try.f6 false true false false W args v W' := by
  have hW' := hW
  obtain ⟨p, q, hA0, hV, rfl, hfz, hnd⟩ := hW
  have hA : DataW.TrodAll enc Try.prog W 0 (fun _ => true) true Try.f6.params.toList args.toList ds p := hA0
  rw [Try.params6] at hA hval
  obtain ⟨v0, vs0, d0, ds0, p0, q0, hargs, rfl, rfl, h0, r0⟩ := trodAll_cons hA
  obtain ⟨v1, vs1, d1, ds1, p1, q1, rfl, rfl, rfl, h1, r1⟩ := trodAll_cons r0
  obtain ⟨v2, vs2, d2, ds2, p2, q2, rfl, rfl, rfl, h2, r2⟩ := trodAll_cons r1
  obtain ⟨rfl, rfl, rfl⟩ := trodAll_nil r2
  obtain rfl : args = #[v0, v1, v2] := by cases args; simp_all
  obtain ⟨rfl, rfl⟩ := trodVars_none hV
  have h0k := h0
  have h1k := h1
  have h2k := h2
  obtain ⟨a0, len0, cap0, rfl⟩ := okWide_slice Try.underlying33 (hval 0 33 v0 rfl rfl)
  obtain ⟨a1, len1, cap1, rfl⟩ := okWide_slice Try.underlying27 (hval 1 27 v1 rfl rfl)
  obtain ⟨at_, rfl⟩ := okWide_int Try.underlying3 (hval 2 3 v2 rfl rfl)
  obtain ⟨fuel, hf⟩ := h0
  obtain ⟨fuel1, hf1⟩ := h1
  obtain ⟨bd, bn, bcap, x, hv, hx, hxn, hbulk⟩ := bytes_arg hf
  injection hv with e1 e2 e3
  subst e1 e2 e3
  obtain ⟨ad, len, cap, O, A, X, M, hv, hcap, hM, hins⟩ := ins_arg hf1
  injection hv with e1 e2 e3
  subst e1 e2 e3
  have hb := of_decide_eq_true hk
  simp only [Rows.uptoBulkAll, List.cons_append, List.nil_append] at hb
  have hlt0 : ∀ x ∈ p0, x.block < W.heap.size := fun x hx => by simpa using hW'.lt x (by simp [hx])
  have hlt1 : ∀ x ∈ p1, x.block < W.heap.size := fun x hx => by simpa using hW'.lt x (by simp [hx])
  have hlt2 : ∀ x ∈ p2, x.block < W.heap.size := fun x hx => by simpa using hW'.lt x (by simp [hx])
  clear hA0
  refine (rdw.law6 a0 len0 cap0 x a1 len1 cap1 O A X M at_ W hx hxn (by simp only at hbulk; omega) hM hins hcap).mono fun e W' ⟨he, hnx⟩ => ?_
  subst he
  refine ⟨_, rfl, _, _, _, [], p0 ++ (p1 ++ (p2 ++ [])), [], hW', ?_, ?_, rfl, hnx.frame _, fun h => by cases h⟩
  · exact trodAll_cons_mk (shut_bool Try.underlying4 _) trodAll_mk0
  · exact trodAll_cons_mk (Below.trod laidOut (by kernel_rfl) (of_decide_eq_true (by kernel_rfl)) h0k hnx hlt0) (trodAll_cons_mk (Below.trod laidOut (by kernel_rfl) (of_decide_eq_true (by kernel_rfl)) h1k hnx hlt1) (trodAll_cons_mk (Below.trod laidOut (by kernel_rfl) (of_decide_eq_true (by kernel_rfl)) h2k hnx hlt2) trodAll_mk0))

set_option maxRecDepth 100000 in
theorem lifted (os : Os) (started : os.Started) (H : Type) (enc : TypeId × Value → H) (F : Stop.Interp) :
    ReturnsInHanded {} Try.checked os 6 .any ((Rows.OpenSpec.upto Rows.x86ReadsSpec).pre6 enc Try.prog Try.f6 Rows.x86ReadsUptoRow.domain false) (((Rows.OpenSpec.upto Rows.x86ReadsSpec).at F).post enc Try.prog Try.f6 false true false false) := by
  refine returnsInHanded_of_cond (C := Try.checked) (s := Rows.OpenSpec.upto Rows.x86ReadsSpec) (k := Rows.uptoSmall) rfl own started (by kernel_rfl) Try.func6
    (OpenSpec.witness (enc := enc) (C := Try.checked) (s := Rows.OpenSpec.upto Rows.x86ReadsSpec) (k := Rows.uptoSmall) rfl false ⟨#[], #[.slice none 0 0, .slice none 0 0, .int .i64 0], []⟩ 8 (by kernel_rfl) (by kernel_rfl) (by kernel_rfl)
      (x := ([.nil, .nil, .lit (.int .i64 0)], [], [])) (by kernel_rfl) rfl (by kernel_rfl)) ?_
  intro W base args ds gs before hval hW _ hk _
  exact contract H enc W base args ds gs before hval hW hk

theorem over : Rows.x86ReadsUptoRow.holds Try.pinned (Rows.OpenSpec.upto Rows.x86ReadsSpec) :=
  OpenClaim.holds_of_cond 6 Try.f6 rfl rfl rfl rfl rfl rfl rfl ⟨rfl, rfl, rfl, rfl, rfl⟩ rfl rfl rfl rfl rfl (by kernel_rfl) Try.func6 (by kernel_rfl)
    (of_decide_eq_true (by kernel_rfl)) (by unfold Func.isWrapper; first | (rw [if_pos (by decide +kernel)]; kernel_rfl) | (rw [if_neg (by decide +kernel)]; exact ⟨rfl, rfl⟩))
    (fun os started H enc _ F => lifted os started H enc F)

/-- ████ THE STATEMENT ████ -/
theorem proved : Rows.X86ReadsUptoSaid :=
  over
#print axioms proved
end Go.Proofs.Ytjcjalmkjncoaaa.x86Reads
