/-
  in: a Func for the document: the same code in new memory.
-/
import Derived.Test.YtondggcbldnhcaaGreatIrEvB
import Derived.Deep.Cut
namespace Go.Proofs.YtondggcbldnhcaaGreat.irx
open Go Go.RowKit
open Go.Proofs.YtondggcbldnhcaaGreat
set_option linter.unusedVariables false
set_option linter.unusedSimpArgs false
theorem info45 : (Tryz.prog.info? 45).map (fun i => (i.zero, i.size, i.bytes)) = some (some (.agg #[.int .i64 0, .int .i64 0, .int .i64 0, .int .i64 0, .int .i32 0, .int .i64 0]), 6, 48) := by kernel_rfl
theorem results6 : Tryz.f6.results = #[.cell 2 29] := by kernel_rfl
theorem size29 : (Tryz.prog.info? 29).map (·.size) = some 3 := by kernel_rfl
/-- the cells of the first k -/
def m6 (op ds a b n to : Nat → Int) (k : Nat) : List Value := (List.range k).flatMap fun i => [.int .i64 (op i), .int .i64 (ds i), .int .i64 (a i), .int .i64 (b i), .int .i32 (n i), .int .i64 (to i)]
theorem m6_succ (op ds a b n to : Nat → Int) (k : Nat) : m6 op ds a b n to (k + 1) = m6 op ds a b n to k ++ [.int .i64 (op k), .int .i64 (ds k), .int .i64 (a k), .int .i64 (b k), .int .i32 (n k), .int .i64 (to k)] := by simp [m6, List.range_succ]
theorem m6_length (op ds a b n to : Nat → Int) : ∀ k, (m6 op ds a b n to k).length = k * 6
  | 0 => rfl
  | k + 1 => by rw [m6_succ, List.length_append, m6_length op ds a b n to k]; simp; omega
theorem m6_get (op ds a b n to : Nat → Int) (N i : Nat) (hi : i < N) : (m6 op ds a b n to N)[i * 6]? = some (.int .i64 (op i)) ∧ (m6 op ds a b n to N)[i * 6 + 1]? = some (.int .i64 (ds i)) ∧ (m6 op ds a b n to N)[i * 6 + 2]? = some (.int .i64 (a i)) ∧ (m6 op ds a b n to N)[i * 6 + 3]? = some (.int .i64 (b i)) ∧ (m6 op ds a b n to N)[i * 6 + 4]? = some (.int .i32 (n i)) ∧ (m6 op ds a b n to N)[i * 6 + 5]? = some (.int .i64 (to i)) := by
  induction N with
  | zero => omega
  | succ N ih =>
    rw [m6_succ]
    have hl := m6_length op ds a b n to N
    by_cases h : i < N
    · obtain ⟨h0, h1, h2, h3, h4, h5⟩ := ih h
      refine ⟨?_, ?_, ?_, ?_, ?_, ?_⟩
      · rw [List.getElem?_append_left (by omega)]; exact h0
      · rw [List.getElem?_append_left (by omega)]; exact h1
      · rw [List.getElem?_append_left (by omega)]; exact h2
      · rw [List.getElem?_append_left (by omega)]; exact h3
      · rw [List.getElem?_append_left (by omega)]; exact h4
      · rw [List.getElem?_append_left (by omega)]; exact h5
    · have : i = N := by omega
      subst this
      refine ⟨?_, ?_, ?_, ?_, ?_, ?_⟩
      · rw [List.getElem?_append_right (by omega), hl, Nat.sub_self]; rfl
      · rw [List.getElem?_append_right (by omega), hl, show i * 6 + 1 - i * 6 = 1 by omega]; rfl
      · rw [List.getElem?_append_right (by omega), hl, show i * 6 + 2 - i * 6 = 2 by omega]; rfl
      · rw [List.getElem?_append_right (by omega), hl, show i * 6 + 3 - i * 6 = 3 by omega]; rfl
      · rw [List.getElem?_append_right (by omega), hl, show i * 6 + 4 - i * 6 = 4 by omega]; rfl
      · rw [List.getElem?_append_right (by omega), hl, show i * 6 + 5 - i * 6 = 5 by omega]; rfl
theorem own_code {w : World} {base : Nat} {v : Value} {P R : Int} {N : Nat} {op ds a b n to : Nat → Int} (h : w.ownsRow base 45 6 v N (m6 op ds a b n to N)) : ∃ cad cap, v = .slice cad N cap ∧ Code_ w w.heap.size cad ⟨P, R, N, op, ds, a, b, n, to⟩ := by
  have h0 := h
  have hlt := h.lt
  obtain ⟨h1, h2⟩ := h
  rcases h2 with ⟨hv, hn⟩ | ⟨g, cap, cur, rfl, hg, hh, hn, hcap, hsz, htake⟩
  · subst hn; exact ⟨none, 0, hv, fun i hi => by simp only at hi; omega⟩
  · refine ⟨_, cap, rfl, fun i hi => ⟨g, 0, rfl, (hlt g rfl).2, ?_⟩⟩
    simp only at hi
    obtain ⟨e0, e1, e2, e3, e4, e5⟩ := m6_get op ds a b n to N i hi
    rw [Nat.zero_add]
    exact ⟨(h0.cellAt _ (by omega)).trans e0, (h0.cellAt _ (by omega)).trans e1, (h0.cellAt _ (by omega)).trans e2, (h0.cellAt _ (by omega)).trans e3, (h0.cellAt _ (by omega)).trans e4, (h0.cellAt _ (by omega)).trans e5⟩
theorem new6 (w : World) (x0 x1 x2 x3 x4 x5 : Value) (t : TypeId) : ∀ j u, ([x0, x1, x2, x3, x4, x5] : List Value)[j]? = some u → (w.alloc (.cells #[x0, x1, x2, x3, x4, x5] t)).cell? ((⟨w.heap.size, 0, none⟩ : Addr).add j) = some u := by
  intro j u hj
  rw [Go.WideShapes.add_plain, World.cell?_alloc_at _ _ _ _ rfl]
  simpa using hj
theorem one6 (o d a b n t : Int) : ∀ u ∈ ([.int .i64 o, .int .i64 d, .int .i64 a, .int .i64 b, .int .i32 n, .int .i64 t] : List Value), u.oneCell' = true := by
  intro u hu
  simp only [List.mem_cons, List.not_mem_nil, or_false] at hu
  rcases hu with rfl | rfl | rfl | rfl | rfl | rfl <;> rfl
theorem keep_ne {B N : Nat} {o : Option Nat} (h : ∀ j, o = some j → B ≤ j ∧ j < N) : ∀ j, j < B → some j ≠ o := fun j hj e => by have := (h j e.symm).1; omega
set_option maxHeartbeats 3200000 in
set_option maxRecDepth 1000000 in
theorem in6 (P R : Int) (len : Nat) (op ds a b n to : Nat → Int) (cad : Option Addr) (cap : Nat) (w : World) (hlen : len ≤ 60) (hc : Code_ w w.heap.size cad ⟨P, R, len, op, ds, a, b, n, to⟩) :
    Calls Tryz.prog 6 #[fval P R cad len cap] w fun e w' => ∃ cad' cap', e = .returned (fval P R cad' len cap') ∧ Code_ w' w'.heap.size cad' ⟨P, R, len, op, ds, a, b, n, to⟩ ∧ Below w.heap.size w w' := by
  obtain ⟨i0, hi, hz0, hz1, hz2⟩ := info_parts info45
  have hB0 : Below w.heap.size w (((w.alloc (.cells #[.int .i64 P, .int .i64 R, .slice cad len cap] 24)).alloc (.cells #[.int .i64 0, .int .i64 0, .slice none 0 0] 29)).alloc (.cells #[.int .i64 P, .int .i64 R, .slice none 0 0] 29)) := ((((Below.refl _ _).alloc (Nat.le_refl _) _).alloc (by simp) _).alloc (by simp; omega) _)
  have hS0 : (((w.alloc (.cells #[.int .i64 P, .int .i64 R, .slice cad len cap] 24)).alloc (.cells #[.int .i64 0, .int .i64 0, .slice none 0 0] 29)).alloc (.cells #[.int .i64 P, .int .i64 R, .slice none 0 0] 29)).heap.size = w.heap.size + 1 + 1 + 1 := by simp
  have hO0 : (((w.alloc (.cells #[.int .i64 P, .int .i64 R, .slice cad len cap] 24)).alloc (.cells #[.int .i64 0, .int .i64 0, .slice none 0 0] 29)).alloc (.cells #[.int .i64 P, .int .i64 R, .slice none 0 0] 29)).heap[w.heap.size + 1 + 1]? = some (.cells #[.int .i64 P, .int .i64 R, .slice none 0 0] 29 (0, 0)) := by
    have := heap_alloc_new ((w.alloc (.cells #[.int .i64 P, .int .i64 R, .slice cad len cap] 24)).alloc (.cells #[.int .i64 0, .int .i64 0, .slice none 0 0] 29)) (.cells #[.int .i64 P, .int .i64 R, .slice none 0 0] 29)
    simpa using this
  have hX0 : (((w.alloc (.cells #[.int .i64 P, .int .i64 R, .slice cad len cap] 24)).alloc (.cells #[.int .i64 0, .int .i64 0, .slice none 0 0] 29)).alloc (.cells #[.int .i64 P, .int .i64 R, .slice none 0 0] 29)).heap[w.heap.size + 1]? = some (.cells #[.int .i64 0, .int .i64 0, .slice none 0 0] 29 (0, 0)) := by
    rw [Below.heap_alloc _ _ _ (by simp)]
    have := heap_alloc_new (w.alloc (.cells #[.int .i64 P, .int .i64 R, .slice cad len cap] 24)) (.cells #[.int .i64 0, .int .i64 0, .slice none 0 0] 29)
    simpa using this
  have hF0 : (((w.alloc (.cells #[.int .i64 P, .int .i64 R, .slice cad len cap] 24)).alloc (.cells #[.int .i64 0, .int .i64 0, .slice none 0 0] 29)).alloc (.cells #[.int .i64 P, .int .i64 R, .slice none 0 0] 29)).heap[w.heap.size]? = some (.cells #[.int .i64 P, .int .i64 R, .slice cad len cap] 24 (0, 0)) := by
    rw [Below.heap_alloc _ _ _ (by simp; omega), Below.heap_alloc _ _ _ (by simp)]; exact heap_alloc_new w _
  go_enter Tryz.func6, Tryz.ntmps6
  go_wp2
  go_loopw [4] (fun i wr => ∃ (k : Nat) (v : Value), k ≤ len ∧ i = .int .i64 k ∧ wr.ownsRow (w.heap.size + 1 + 1 + 1) 45 6 v k (m6 op ds a b n to k) ∧ wr.heap[w.heap.size + 1 + 1]? = some (.cells #[.int .i64 P, .int .i64 R, v] 29 (0, 0)) ∧ wr.heap[w.heap.size + 1]? = some (.cells #[.int .i64 0, .int .i64 0, .slice none 0 0] 29 (0, 0)) ∧ wr.heap[w.heap.size]? = some (.cells #[.int .i64 P, .int .i64 R, .slice cad len cap] 24 (0, 0)) ∧ Below w.heap.size w wr ∧ w.heap.size + 1 + 1 + 1 ≤ wr.heap.size)
    (fun i _ => len - (intOf i).toNat)
  case atStart => exact ⟨0, _, Nat.zero_le _, rfl, World.ownsRow_nil _ _ _ _, hO0, hX0, hF0, hB0, by omega⟩
  case round =>
    obtain ⟨k, v, hk, rfl, hown, hO, hX, hF, hbl, hsz⟩ := hrel
    obtain ⟨vad, vcap, rfl, _⟩ := own_code (P := P) (R := R) hown
    clear hB0 hS0 hO0 hX0 hF0
    have hf2 : wr.cell? ⟨w.heap.size, 2, none⟩ = some (.slice cad len cap) := by simp [World.cell?, hF]
    by_cases hk1 : k < len
    · obtain ⟨cb, off, he, hb, hat⟩ := hc k hk1
      subst he
      obtain ⟨d0, d1, d2, d3, d4, d5⟩ := hat.mono hbl hb
      have hOa : (wr.alloc (.cells #[.int .i64 (op k), .int .i64 (ds k), .int .i64 (a k), .int .i64 (b k), .int .i32 (n k), .int .i64 (to k)] 44)).heap[w.heap.size + 1 + 1]? = some (.cells #[.int .i64 P, .int .i64 R, .slice vad k vcap] 29 (0, 0)) := by rw [Below.heap_alloc _ _ _ (by omega)]; exact hO
      have hXa : (wr.alloc (.cells #[.int .i64 (op k), .int .i64 (ds k), .int .i64 (a k), .int .i64 (b k), .int .i32 (n k), .int .i64 (to k)] 44)).heap[w.heap.size + 1]? = some (.cells #[.int .i64 0, .int .i64 0, .slice none 0 0] 29 (0, 0)) := by rw [Below.heap_alloc _ _ _ (by omega)]; exact hX
      have hFa : (wr.alloc (.cells #[.int .i64 (op k), .int .i64 (ds k), .int .i64 (a k), .int .i64 (b k), .int .i32 (n k), .int .i64 (to k)] 44)).heap[w.heap.size]? = some (.cells #[.int .i64 P, .int .i64 R, .slice (some ⟨cb, off, none⟩) len cap] 24 (0, 0)) := by rw [Below.heap_alloc _ _ _ (by omega)]; exact hF
      have hIa : (wr.alloc (.cells #[.int .i64 (op k), .int .i64 (ds k), .int .i64 (a k), .int .i64 (b k), .int .i32 (n k), .int .i64 (to k)] 44)).heap[wr.heap.size]? = some (.cells #[.int .i64 (op k), .int .i64 (ds k), .int .i64 (a k), .int .i64 (b k), .int .i32 (n k), .int .i64 (to k)] 44 (0, 0)) := heap_alloc_new _ _
      have hba : Below w.heap.size w (wr.alloc (.cells #[.int .i64 (op k), .int .i64 (ds k), .int .i64 (a k), .int .i64 (b k), .int .i32 (n k), .int .i64 (to k)] 44)) := hbl.alloc (by omega) _
      have hsa : w.heap.size + 1 + 1 + 1 ≤ (wr.alloc (.cells #[.int .i64 (op k), .int .i64 (ds k), .int .i64 (a k), .int .i64 (b k), .int .i32 (n k), .int .i64 (to k)] 44)).heap.size := by simp; omega
      have howna := hown.alloc (.cells #[.int .i64 (op k), .int .i64 (ds k), .int .i64 (a k), .int .i64 (b k), .int .i32 (n k), .int .i64 (to k)] 44)
      go_upto_region 6 with fail
      generalize (wr.alloc (.cells #[.int .i64 (op k), .int .i64 (ds k), .int .i64 (a k), .int .i64 (b k), .int .i32 (n k), .int .i64 (to k)] 44)) = wa at *
      generalize wr.heap.size = I at *
      have o2 : wa.cell? ⟨w.heap.size + 1 + 1, 2, none⟩ = some (.slice vad k vcap) := by simp [World.cell?, hOa]
      have i_0 : wa.cell? ⟨I, 0, none⟩ = some (.int .i64 (op k)) := by simp [World.cell?, hIa]
      have i_1 : wa.cell? ⟨I, 1, none⟩ = some (.int .i64 (ds k)) := by simp [World.cell?, hIa]
      have i_2 : wa.cell? ⟨I, 2, none⟩ = some (.int .i64 (a k)) := by simp [World.cell?, hIa]
      have i_3 : wa.cell? ⟨I, 3, none⟩ = some (.int .i64 (b k)) := by simp [World.cell?, hIa]
      have i_4 : wa.cell? ⟨I, 4, none⟩ = some (.int .i32 (n k)) := by simp [World.cell?, hIa]
      have i_5 : wa.cell? ⟨I, 5, none⟩ = some (.int .i64 (to k)) := by simp [World.cell?, hIa]
      clear d0 d1 d2 d3 d4 d5 hf2 hown hO hX hF hbl hat hsz
      go_wp2_with (at_builtin; refine wpList_append_own _ rfl _ _ 27 rfl (w.heap.size + 1 + 1 + 1) 45 i0 (.agg #[.int .i64 0, .int .i64 0, .int .i64 0, .int .i64 0, .int .i32 0, .int .i64 0]) 6 48 Tryz.underlying27 hi hz0 hz1 hz2 rfl (by decide) _ _ _ rfl (howna.alloc _) ⟨wa.heap.size, 0, none⟩ 1 1 [.int .i64 (op k), .int .i64 (ds k), .int .i64 (a k), .int .i64 (b k), .int .i32 (n k), .int .i64 (to k)] rfl rfl (new6 _ _ _ _ _ _ _ _) (one6 _ _ _ _ _ _) (by unfold maxLen; omega) (by omega) (by simp; omega) ?_; intro v2 w2 hown2 hgrow2 _; have hown2' := (m6_succ op ds a b n to k).symm ▸ hown2; obtain ⟨v2ad, v2cap, rfl, _⟩ := own_code (P := P) (R := R) hown2'; have hne := keep_ne howna.lt; have hO2 := (hgrow2.block (w.heap.size + 1 + 1) (by simp; omega) (hne _ (by omega))).trans ((Below.heap_alloc _ _ _ (by omega)).trans hOa); have hX2 := (hgrow2.block (w.heap.size + 1) (by simp; omega) (hne _ (by omega))).trans ((Below.heap_alloc _ _ _ (by omega)).trans hXa); have hF2 := (hgrow2.block w.heap.size (by simp; omega) (hne _ (by omega))).trans ((Below.heap_alloc _ _ _ (by omega)).trans hFa); have hb2 := (hba.alloc (by omega) _).grown hgrow2 (by simp; omega) (fun j hj => by have := (howna.lt j hj).1; omega); have hs2 := hgrow2.size; have o22 : w2.cell? ⟨w.heap.size + 1 + 1, 2, none⟩ = some (.slice vad k vcap) := (by simp [World.cell?, hO2]); have z22 : w2.frozen? ⟨w.heap.size + 1 + 1, 2, none⟩ = false := (by simp [World.frozen?, hO2]))
      go_roundw
      case rel =>
        refine ⟨k + 1, .slice v2ad (k + 1) v2cap, by omega, by go_num, ?_, ?_, (Below.heap_setCell _ _ _ _ (by simp only; omega)).trans hX2, (Below.heap_setCell _ _ _ _ (by simp only; omega)).trans hF2, hb2.setCell (by simp only; omega) _, by simp at hs2; simp [World.setCell]; omega⟩
        · refine ownsRow_setCell_below ?_ (by simp only; omega) _
          exact hown2'
        · rw [setCell_row' hO2]; simp
      case measure => simp [intOf]; omega
    · have hkl : k = len := by omega
      subst hkl
      have q0 : wr.cell? ⟨w.heap.size + 1 + 1, 0, none⟩ = some (.int .i64 P) := by simp [World.cell?, hO]
      have q1 : wr.cell? ⟨w.heap.size + 1 + 1, 1, none⟩ = some (.int .i64 R) := by simp [World.cell?, hO]
      have q2 : wr.cell? ⟨w.heap.size + 1 + 1, 2, none⟩ = some (.slice vad k vcap) := by simp [World.cell?, hO]
      have x0 : wr.cell? ⟨w.heap.size + 1, 0, none⟩ = some (.int .i64 0) := by simp [World.cell?, hX]
      have x1 : wr.cell? ⟨w.heap.size + 1, 1, none⟩ = some (.int .i64 0) := by simp [World.cell?, hX]
      have x2 : wr.cell? ⟨w.heap.size + 1, 2, none⟩ = some (.slice none 0 0) := by simp [World.cell?, hX]
      have zX : ∀ j, wr.frozen? ⟨w.heap.size + 1, j, none⟩ = false := fun j => by simp [World.frozen?, hX]
      go_wp2
      have hownF := ownsRow_setCell_below (ownsRow_setCell_below (ownsRow_setCell_below hown (a := ⟨w.heap.size + 1, 0, none⟩) (by simp only; omega) (.int .i64 P)) (a := ⟨w.heap.size + 1, 1, none⟩) (by simp only; omega) (.int .i64 R)) (a := ⟨w.heap.size + 1, 2, none⟩) (by simp only; omega) (.slice vad k vcap)
      obtain ⟨cad', cap', hvv, hcode⟩ := own_code (P := P) (R := R) hownF
      injection hvv with e1 e2 e3
      subst e1 e3
      refine bodyPost_ret_by (results_cell_row results6 _ _ (w.heap.size + 1) 29 _ (0, 0) _ rfl (fin_row' hX _ _ _) Tryz.underlying29 rfl size29) rfl ⟨_, _, rfl, hcode, ((hbl.setCell (by simp only; omega) _).setCell (by simp only; omega) _).setCell (by simp only; omega) _⟩
end Go.Proofs.YtondggcbldnhcaaGreat.irx
