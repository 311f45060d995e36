/-
  X86Writes answers true for every list of instructions.
-/
import Derived.Test.YtjcjalmkjncoaaaWrJoin
namespace Go.Proofs.Ytjcjalmkjncoaaa.wr
open Go Go.RowKit
open Go.Proofs.Ytjcjalmkjncoaaa Go.Proofs.Ytjcjalmkjncoaaa.x86enc
set_option linter.unusedVariables false
set_option linter.unusedSimpArgs false
theorem info30 : (Try.prog.info? 30).map (fun i => (i.zero, i.size, i.bytes)) = some (some (.agg #[.int .i64 0, .int .i64 0, .int .i64 0, .int .i32 0]), 4, 32) := by kernel_rfl
def mc (O A X M : Nat → Int) (k : Nat) : List Value := (List.range k).flatMap fun i => [.int .i64 (O i), .int .i64 (A i), .int .i64 (X i), .int .i32 (M i)]
theorem mc_succ (O A X M : Nat → Int) (k : Nat) : mc O A X M (k + 1) = mc O A X M k ++ [.int .i64 (O k), .int .i64 (A k), .int .i64 (X k), .int .i32 (M k)] := by simp [mc, List.range_succ]
theorem mc_length (O A X M : Nat → Int) : ∀ k, (mc O A X M k).length = k * 4
  | 0 => rfl
  | k + 1 => by rw [mc_succ, List.length_append, mc_length O A X M k]; simp; omega
theorem in11_run (o a x m : Int) : Eng.fcallOf (β := Eng.AV) Try.prog (Eng.fexec Try.prog 100000) 11 [.agg [.sint .i64 o 1, .sint .i64 a 2, .sint .i64 x 3, .sint .i32 m 4]] Eng.f5 Eng.b0 (fun v _ _ => some v) = some (.agg [.sint .i64 o 1, .sint .i64 a 2, .sint .i64 x 3, .sint .i32 m 4]) := by kernel_rfl
theorem in11 (o a x m : Int) (w : World) : Calls Try.prog 11 #[.agg #[.int .i64 o, .int .i64 a, .int .i64 x, .int .i32 m]] w fun e w' => e = .returned (.agg #[.int .i64 o, .int .i64 a, .int .i64 x, .int .i32 m]) ∧ Below w.heap.size w w' := by
  refine (Eng.calledF 100000 11 _ _ _ (in11_run o a x m) w #[.agg #[.int .i64 o, .int .i64 a, .int .i64 x, .int .i32 m]] (by simp [Eng.VRels, Eng.VRel])).mono fun e w' h => ?_
  obtain ⟨⟨v, h', x', cv, μ', h1, rfl, h2, _⟩, hb⟩ := h
  have h1' := Option.some.inj h1
  rw [h1'] at h2
  simp only [Eng.VRel, Eng.VRels] at h2
  obtain ⟨cs, rfl, v1, r1, hc1, rfl, v2, r2, rfl, rfl, v3, r3, rfl, rfl, v4, r4, rfl, rfl, rfl⟩ := h2
  have hcs : cs = #[.int .i64 o, .int .i64 a, .int .i64 x, .int .i32 m] := Array.toList_inj.1 (by simpa using hc1)
  rw [hcs]
  exact ⟨rfl, hb⟩
theorem new4 (w : World) (a b c d : Value) (t : TypeId) : ∀ j u, ([a, b, c, d] : List Value)[j]? = some u → (w.alloc (.cells #[a, b, c, d] t)).cell? ((⟨w.heap.size, 0, none⟩ : Addr).add j) = some u := by
  intro j u hj
  rw [Go.WideShapes.add_plain, World.cell?_alloc_at _ _ _ _ rfl]
  simpa using hj
theorem one4 (o a x m : Int) : ∀ u ∈ ([.int .i64 o, .int .i64 a, .int .i64 x, .int .i32 m] : List Value), u.oneCell' = true := by
  intro u hu
  simp only [List.mem_cons, List.not_mem_nil, or_false] at hu
  rcases hu with rfl | rfl | rfl | rfl <;> rfl
/-- a row of instructions of the call's own: the cells of each -/
theorem mc_getElem (O A X M : Nat → Int) (n i : Nat) (hi : i < n) : (mc O A X M n)[i * 4]? = some (.int .i64 (O i)) ∧ (mc O A X M n)[i * 4 + 1]? = some (.int .i64 (A i)) ∧ (mc O A X M n)[i * 4 + 2]? = some (.int .i64 (X i)) ∧ (mc O A X M n)[i * 4 + 3]? = some (.int .i32 (M i)) := by
  induction n with
  | zero => omega
  | succ n ih =>
    rw [mc_succ]
    by_cases h : i < n
    · obtain ⟨h0, h1, h2, h3⟩ := ih h
      have hl := mc_length O A X M n
      refine ⟨?_, ?_, ?_, ?_⟩
      · rw [List.getElem?_append_left (by omega)]; exact h0
      · rw [List.getElem?_append_left (by omega)]; exact h1
      · rw [List.getElem?_append_left (by omega)]; exact h2
      · rw [List.getElem?_append_left (by omega)]; exact h3
    · have : i = n := by omega
      subst this
      have hl := mc_length O A X M i
      refine ⟨?_, ?_, ?_, ?_⟩
      · rw [List.getElem?_append_right (by omega), hl, Nat.sub_self]; rfl
      · rw [List.getElem?_append_right (by omega), hl, show i * 4 + 1 - i * 4 = 1 by omega]; rfl
      · rw [List.getElem?_append_right (by omega), hl, show i * 4 + 2 - i * 4 = 2 by omega]; rfl
      · rw [List.getElem?_append_right (by omega), hl, show i * 4 + 3 - i * 4 = 3 by omega]; rfl
theorem own_ins {w : World} {base : Nat} {v : Value} {n : Nat} {O A X M : Nat → Int} (h : w.ownsRow base 30 4 v n (mc O A X M n)) : ∃ ad cap, v = .slice ad n cap ∧ Ins w w.heap.size ad n O A X M := by
  have h0 := h
  have hlt := h.lt
  obtain ⟨h1, h2⟩ := h
  rcases h2 with ⟨hv, hn⟩ | ⟨g, cap, cur, rfl, hg, hh, hn, hcap, hsz, htake⟩
  · subst hn; exact ⟨none, 0, hv, fun i hi => by omega⟩
  · refine ⟨_, cap, rfl, fun i hi => ⟨g, 0, rfl, (hlt g rfl).2, ?_⟩⟩
    obtain ⟨e0, e1, e2, e3⟩ := mc_getElem O A X M n i hi
    rw [Nat.zero_add]
    exact ⟨(h0.cellAt _ (by omega)).trans e0, (h0.cellAt _ (by omega)).trans e1, (h0.cellAt _ (by omega)).trans e2, (h0.cellAt _ (by omega)).trans e3⟩
theorem own_shape {w : World} {base : Nat} {v : Value} {n : Nat} {O A X M : Nat → Int} (h : w.ownsRow base 30 4 v (n + 1) (mc O A X M (n + 1))) : ∃ g cap, v = .slice (some ⟨g, 0, none⟩) (n + 1) cap ∧ g < w.heap.size ∧ At w g (n * 4) (O n) (A n) (X n) (M n) := by
  have hlt := h.lt
  obtain ⟨ad, cap, hv, hins⟩ := own_ins h
  obtain ⟨b, off, rfl, hb, hat⟩ := hins n (by omega)
  have h0 := h
  obtain ⟨_, h2⟩ := h
  rcases h2 with ⟨_, hn⟩ | ⟨g, cap', cur, hv', hg, hh, hn, hcap, hsz, htake⟩
  · omega
  · rw [hv] at hv'
    injection hv' with e1 e2 e3
    injection e1 with e1
    injection e1 with e1 e4 _
    subst e1 e4
    rw [Nat.zero_add] at hat
    exact ⟨b, cap, hv, hb, hat⟩
set_option maxHeartbeats 1600000 in
set_option maxRecDepth 1000000 in
theorem law4 (ad : Option Addr) (n cap : Nat) (O A X M : Nat → Int) (w : World) (hn : n ≤ 100) (h : Ins w w.heap.size ad n O A X M) :
    Calls Try.prog 4 #[.slice ad n cap] w fun e w' => e = .returned (.bool true) ∧ Below w.heap.size w w' := by
  obtain ⟨i0, hi, hz0, hz1, hz2⟩ := info_parts info30
  go_enter Try.func4, Try.ntmps4
  go_wp2
  go_loopw [3, 4] (fun v i wr => ∃ k : Nat, k ≤ n ∧ i = .int .i64 k ∧ wr.ownsRow w.heap.size 30 4 v k (mc O A X M k) ∧ Below w.heap.size w wr)
    (fun _ i _ => n - (intOf i).toNat)
  case atStart => exact ⟨0, Nat.zero_le _, rfl, World.ownsRow_nil _ _ _ _, Below.refl _ _⟩
  case round =>
    obtain ⟨k, hk, rfl, hown, hbel⟩ := hrel
    by_cases hk1 : k < n
    · obtain ⟨b, off, he, hb, hat⟩ := h k hk1
      cases he
      obtain ⟨d0, d1, d2, d3⟩ := hat.mono hbel hb
      have hsz := hbel.size
      have hE := hat
      go_wp2_with (first | (go_at_call 11; refine (in11 _ _ _ _ _).mono ?_; rintro e w1 ⟨rfl, hb1⟩; have hown1 := own_below hown hb1; have hbel1 := hbel.trans (hb1.mono hbel.size)) | (at_builtin; refine wpList_append_own _ rfl _ _ 28 rfl w.heap.size 30 i0 (.agg #[.int .i64 0, .int .i64 0, .int .i64 0, .int .i32 0]) 4 32 Try.underlying28 hi hz0 hz1 hz2 rfl (by decide) _ _ _ rfl (hown1.alloc _) ⟨w1.heap.size, 0, none⟩ 1 1 [.int .i64 (O k), .int .i64 (A k), .int .i64 (X k), .int .i32 (M k)] rfl rfl (new4 _ _ _ _ _ _) (one4 _ _ _ _) (by unfold maxLen; omega) (by omega) (by have := hbel1.size; simp; omega) ?_; intro v2 w2 hown2 hgrow2 _; have hbel2 := (hbel1.alloc hbel1.size _).grown hgrow2 (by have := hbel1.size; simp; omega) (fun j hj => (hown1.lt j hj).1); have hown2' := (mc_succ O A X M k).symm ▸ hown2; clear hown2 hgrow2; obtain ⟨g, cp, rfl, hg, hatm⟩ := own_shape hown2'; obtain ⟨f0, f1, f2, f3⟩ := hat.mono hbel2 hb) | (go_at_call 12; refine (enc12C _ _ _ _ _).mono ?_; rintro e w3 ⟨vx, rfl, hbx, hb3⟩; have hbel3 := hbel2.trans (hb3.mono hbel2.size); obtain ⟨m0, m1, m2, m3⟩ := hatm.mono hb3 hg; have hown3 := own_below hown2' hb3) | (go_at_call 13; refine (enc13C _ _ _ _ _).mono ?_; rintro e w4 ⟨vy, rfl, hby, hb4⟩; have hbel4 := hbel3.trans (hb4.mono hbel3.size); have hown4 := own_below hown3 hb4; have t1 := text_run (hbx.mono hb4 (Nat.le_refl _)); have t2 := text_run hby))
      go_roundw
      case rel => exact ⟨k + 1, by omega, by go_num, hown4, hbel4⟩
      case measure => simp [intOf]; omega
    · have hkn : k = n := by omega
      subst hkn
      obtain ⟨adm, cpm, rfl, hins⟩ := own_ins hown
      have hown0 : Hid (Ins wr wr.heap.size adm k O A X M) := hins
      have hl := h.mono hbel hbel.size
      clear hown hins
      go_wp2_with (first | (go_at_call 14; refine (join14 _ _ _ O A X M _ hn hl).mono ?_; rintro e w1 ⟨v1, e1, bs1, rfl, hj1, hy1, hb1⟩; have hbel1 := hbel.trans (hb1.mono hbel.size)) | (go_at_call 15; refine (join15 _ _ _ O A X M _ hn (hown0.out.mono hb1 hb1.size)).mono ?_; rintro e w2 ⟨v2, e2, bs2, rfl, hj2, hy2, hb2⟩; have hbel2 := hbel1.trans (hb2.mono hbel1.size); obtain ⟨rfl, rfl⟩ := hj1.unique hj2; have t1 := text_run (hy1.mono hb2 (Nat.le_refl _)); have t2 := text_run hy2) | (go_at_call 10; refine (known_call _).mono ?_; rintro e w3 ⟨rfl, hb3⟩))
      go_ret
      exact ⟨rfl, hbel2.trans (hb3.mono hbel2.size)⟩
set_option maxHeartbeats 1600000 in
set_option maxRecDepth 1000000 in
theorem law4b (bb oo N cap : Nat) (O A X M : Nat → Int) (w : World) (hN : 100 < N) (hcap : N ≤ cap) (h0 : Ins w w.heap.size (some ⟨bb, oo, none⟩) N O A X M) :
    Calls Try.prog 4 #[.slice (some ⟨bb, oo, none⟩) N cap] w fun e w' => e = .returned (.bool true) ∧ Below w.heap.size w w' := by
  obtain ⟨i0, hi, hz0, hz1, hz2⟩ := info_parts info30
  have h : Ins w w.heap.size (some ⟨bb, oo, none⟩) 100 O A X M := fun i hi => h0 i (by omega)
  have hn : 100 ≤ 100 := Nat.le_refl _
  clear h0
  go_enter Try.func4, Try.ntmps4
  go_wp2
  generalize decide ((100 : Int) < (N : Int)) = q15
  clear hN hcap
  go_loopw [3, 4] (fun v i wr => ∃ k : Nat, k ≤ 100 ∧ i = .int .i64 k ∧ wr.ownsRow w.heap.size 30 4 v k (mc O A X M k) ∧ Below w.heap.size w wr)
    (fun _ i _ => 100 - (intOf i).toNat)
  case atStart => exact ⟨0, Nat.zero_le _, rfl, World.ownsRow_nil _ _ _ _, Below.refl _ _⟩
  case round =>
    obtain ⟨k, hk, rfl, hown, hbel⟩ := hrel
    by_cases hk1 : k < 100
    · obtain ⟨b, off, he, hb, hat⟩ := h k hk1
      cases he
      obtain ⟨d0, d1, d2, d3⟩ := hat.mono hbel hb
      have hsz := hbel.size
      have hE := hat
      go_wp2_with (first | (go_at_call 11; refine (in11 _ _ _ _ _).mono ?_; rintro e w1 ⟨rfl, hb1⟩; have hown1 := own_below hown hb1; have hbel1 := hbel.trans (hb1.mono hbel.size)) | (at_builtin; refine wpList_append_own _ rfl _ _ 28 rfl w.heap.size 30 i0 (.agg #[.int .i64 0, .int .i64 0, .int .i64 0, .int .i32 0]) 4 32 Try.underlying28 hi hz0 hz1 hz2 rfl (by decide) _ _ _ rfl (hown1.alloc _) ⟨w1.heap.size, 0, none⟩ 1 1 [.int .i64 (O k), .int .i64 (A k), .int .i64 (X k), .int .i32 (M k)] rfl rfl (new4 _ _ _ _ _ _) (one4 _ _ _ _) (by unfold maxLen; omega) (by omega) (by have := hbel1.size; simp; omega) ?_; intro v2 w2 hown2 hgrow2 _; have hbel2 := (hbel1.alloc hbel1.size _).grown hgrow2 (by have := hbel1.size; simp; omega) (fun j hj => (hown1.lt j hj).1); have hown2' := (mc_succ O A X M k).symm ▸ hown2; clear hown2 hgrow2; obtain ⟨g, cp, rfl, hg, hatm⟩ := own_shape hown2'; obtain ⟨f0, f1, f2, f3⟩ := hat.mono hbel2 hb) | (go_at_call 12; refine (enc12C _ _ _ _ _).mono ?_; rintro e w3 ⟨vx, rfl, hbx, hb3⟩; have hbel3 := hbel2.trans (hb3.mono hbel2.size); obtain ⟨m0, m1, m2, m3⟩ := hatm.mono hb3 hg; have hown3 := own_below hown2' hb3) | (go_at_call 13; refine (enc13C _ _ _ _ _).mono ?_; rintro e w4 ⟨vy, rfl, hby, hb4⟩; have hbel4 := hbel3.trans (hb4.mono hbel3.size); have hown4 := own_below hown3 hb4; have t1 := text_run (hbx.mono hb4 (Nat.le_refl _)); have t2 := text_run hby))
      go_roundw
      case rel => exact ⟨k + 1, by omega, by go_num, hown4, hbel4⟩
      case measure => simp [intOf]; omega
    · have hkn : k = 100 := by omega
      subst hkn
      obtain ⟨adm, cpm, rfl, hins⟩ := own_ins hown
      have hown0 : Hid (Ins wr wr.heap.size adm 100 O A X M) := hins
      have hl := h.mono hbel hbel.size
      clear hown hins
      go_wp2_with (first | (go_at_call 14; refine (join14 _ _ _ O A X M _ hn hl).mono ?_; rintro e w1 ⟨v1, e1, bs1, rfl, hj1, hy1, hb1⟩; have hbel1 := hbel.trans (hb1.mono hbel.size)) | (go_at_call 15; refine (join15 _ _ _ O A X M _ hn (hown0.out.mono hb1 hb1.size)).mono ?_; rintro e w2 ⟨v2, e2, bs2, rfl, hj2, hy2, hb2⟩; have hbel2 := hbel1.trans (hb2.mono hbel1.size); obtain ⟨rfl, rfl⟩ := hj1.unique hj2; have t1 := text_run (hy1.mono hb2 (Nat.le_refl _)); have t2 := text_run hy2) | (go_at_call 10; refine (known_call _).mono ?_; rintro e w3 ⟨rfl, hb3⟩))
      go_ret
      exact ⟨rfl, hbel2.trans (hb3.mono hbel2.size)⟩
end Go.Proofs.Ytjcjalmkjncoaaa.wr
