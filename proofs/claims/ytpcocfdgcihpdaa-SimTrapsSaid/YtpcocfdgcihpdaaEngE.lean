/-
  THE ENGINE, PART E: more operations that write nothing.
-/
import Derived.Test.YtpcocfdgcihpdaaEngD
namespace Go.Proofs.Ytpcocfdgcihpdaa.Eng
open Go
set_option linter.unusedVariables false
set_option linter.unusedSimpArgs false

theorem over_length {α : Type} (L : List α) (o : Nat) (m : List α) (h : o + m.length ≤ L.length) : (over L o m).length = L.length := by
  simp [over]; omega
theorem over_get {α : Type} (L : List α) (o : Nat) (m : List α) (h : o + m.length ≤ L.length) (i : Nat) :
    (over L o m)[i]? = if o ≤ i ∧ i < o + m.length then m[i - o]? else L[i]? := by
  unfold over
  rw [List.getElem?_append, List.getElem?_append]
  simp only [List.length_take, List.getElem?_take, List.getElem?_drop]
  have e : min o L.length = o := by omega
  rw [e]
  by_cases h1 : i < o
  · rw [if_pos h1, if_pos h1, if_neg (by omega)]
  · rw [if_neg h1]
    by_cases h2 : i - o < m.length
    · rw [if_pos h2, if_pos (by omega)]
    · rw [if_neg h2, if_neg (by omega)]; congr 1; omega
theorem over_cons {α : Type} (L : List α) (o : Nat) (c : α) (m : List α) (h : o + (m.length + 1) ≤ L.length) : over L o (c :: m) = over (L.set o c) (o + 1) m := by
  apply List.ext_getElem?
  intro i
  rw [over_get _ _ _ (by simpa using h), over_get _ _ _ (by simp; omega)]
  simp only [List.length_cons, List.getElem?_set]
  by_cases h1 : o = i
  · subst h1; rw [if_pos (by omega), if_neg (by omega), if_pos rfl, if_pos (by omega)]; simp
  · by_cases h2 : o + 1 ≤ i ∧ i < o + 1 + m.length
    · rw [if_pos (by omega), if_pos h2]
      obtain ⟨j, rfl⟩ : ∃ j, i = o + 1 + j := ⟨i - (o + 1), by omega⟩
      rw [show o + 1 + j - o = j + 1 by omega, show o + 1 + j - (o + 1) = j by omega]; simp
    · rw [if_neg (by omega), if_neg h2, if_neg h1]
theorem over_nil {α : Type} (L : List α) (o : Nat) : over L o [] = L := by simp [over]
theorem foldl_over : ∀ (l : List Value) (j0 off : Nat) (arr : Array Value), off + j0 + l.length ≤ arr.size →
    ((l.zipIdx j0).foldl (fun cs p => cs.setIfInBounds (off + p.2) p.1) arr).toList = over arr.toList (off + j0) l
  | [], j0, off, arr, _ => by simp [over_nil]
  | c :: l, j0, off, arr, h => by
    simp only [List.length_cons] at h
    simp only [List.zipIdx_cons, List.foldl_cons]
    rw [foldl_over l (j0 + 1) off _ (by simp; omega)]
    rw [over_cons _ _ _ _ (by simp; omega), Array.toList_setIfInBounds]
    rfl

section
variable {β : Type} {P : Program} {μ : Inj} {w : World} {x : Bid} {s : Sem Value} {k : AV → Option AObj → Option β} {r : β} {hp : Hp} {vs : List AV}

theorem fillK_ok (f : Nat → Option (Nat × Nat)) : ∀ (ps : List (Nat × Nat)) (parts : List (Nat × Value)) (vs z : List AV) (cells : Array Value) (k' : List AV → Option β),
    parts.map (fun p => f p.1) = ps.map some → VRels μ vs (parts.map (·.2)) → VRels μ z cells.toList → fillK ps vs z k' = some r →
    ∃ z', k' z' = some r ∧ ∃ cells', Instr.fill f cells parts = some cells' ∧ VRels μ z' cells'.toList
  | [], parts, vs, z, cells, k', hp, hv, hz, h => by
    have hparts : parts = [] := by simpa using hp
    subst hparts
    simp only [List.map_nil, VRels] at hv
    cases vs with
    | nil => exact ⟨z, h, cells, rfl, hz⟩
    | cons _ _ => simp only [VRels] at hv; obtain ⟨_, _, hh, _⟩ := hv; cases hh
  | (off, size) :: ps, [], vs, z, cells, k', hp, hv, hz, h => by simp at hp
  | (off, size) :: ps, (i, v) :: parts, vs, z, cells, k', hp, hv, hz, h => by
    simp only [List.map_cons, List.cons.injEq] at hp
    obtain ⟨hp1, hp2⟩ := hp
    cases vs with
    | nil => simp [fillK] at h
    | cons a vs =>
      simp only [List.map_cons, VRels, List.cons.injEq] at hv
      obtain ⟨v', r', ⟨rfl, rfl⟩, ha, hv⟩ := hv
      simp only [fillK] at h
      obtain ⟨l, h, hl⟩ := cellsK_ok ha h
      split at h
      · rename_i hsz
        rw [Nat.beq_eq] at hsz
        obtain ⟨hb, h⟩ := overK_ok h
        have hlen := hl.length
        have hzl := hz.length
        have hz' : VRels μ (over z off l) (v.cells.zipIdx.foldl (fun cs p => cs.setIfInBounds (off + p.2) p.1) cells).toList := by
          have := foldl_over v.cells.toList 0 off cells (by simp at hlen hzl ⊢; omega)
          rw [← Array.foldl_toList, Array.toList_zipIdx, this, Nat.add_zero]
          exact hz.over off hl
        obtain ⟨z', hk, cells', hf, hz''⟩ := fillK_ok f ps parts vs _ _ k' hp2 hv hz' h
        refine ⟨z', hk, cells', ?_, hz''⟩
        simp only [Instr.fill, hp1]
        rw [if_neg]
        · exact hf
        · simp at hlen hzl ⊢; omega
      · cases h

theorem places_ok : ∀ (fs : List Field), allSized P fs = true → ∃ places, fs.mapM (fun f : Field => (P.info? f.type).map fun i => (f.offset, i.size)) = some places ∧
    ∀ (i : Nat) (f : Field) (n : Nat), fs[i]? = some f → sizeP P f.type = some n → places[i]? = some (f.offset, n)
  | [], _ => ⟨[], rfl, by simp⟩
  | f :: fs, h => by
    simp only [allSized, Bool.and_eq_true] at h
    obtain ⟨h1, h2⟩ := h
    obtain ⟨places, hp, hq⟩ := places_ok fs h2
    unfold sizeP at h1
    cases hi : P.info? f.type with
    | none => simp [hi] at h1
    | some inf =>
      refine ⟨(f.offset, inf.size) :: places, by simp [hi, hp], ?_⟩
      intro i g n hg hn
      cases i with
      | zero =>
        simp at hg; subst hg
        simp [sizeP, hi] at hn; subst hn; rfl
      | succ i => simp at hg; simpa using hq i g n hg hn
theorem placesS_ok {fs : List Field} {places : List (Nat × Nat)} (hq : ∀ (i : Nat) (f : Field) (n : Nat), fs[i]? = some f → sizeP P f.type = some n → places[i]? = some (f.offset, n)) :
    ∀ (parts : List (Nat × Operand)) (ps : List (Nat × Nat)), placesS P fs parts = some ps → ∀ ρ : Operand → Value, (parts.map fun p => (p.1, ρ p.2)).map (fun p => places.toArray[p.1]?) = ps.map some
  | [], ps, h, ρ => by simp only [placesS, Option.some.injEq] at h; subst h; rfl
  | (i, o) :: parts, ps, h, ρ => by
    simp only [placesS] at h
    split at h
    · rename_i f l hf hl
      split at h
      · rename_i n hn
        injection h with h; subst h
        have := placesS_ok hq parts l hl ρ
        simp only [List.map_cons, List.cons.injEq]
        exact ⟨by simpa using hq i f n hf hn, this⟩
      · cases h
    · cases h
theorem placesA_ok (n : Nat) : ∀ (parts : List (Nat × Operand)) (ρ : Operand → Value), (parts.map fun p => (p.1, ρ p.2)).map (fun p => some (p.1 * n, n)) = (placesA n parts).map some
  | [], ρ => rfl
  | (i, o) :: parts, ρ => by simp only [List.map_cons, placesA, List.cons.injEq, true_and]; exact placesA_ok n parts ρ

theorem compBuild_ok {t : TypeId} {parts : Array (Nat × Operand)} {ρ : Operand → Value} (hv : VRels μ vs ((compBuild P t parts.toList).2.map ρ)) (h : nrun (compBuild P t parts.toList).1 vs hp x k = some r) :
    NGood P μ w x (Instr.build t (parts.map fun p => (p.1, ρ p.2))) k r := by
  unfold compBuild at hv h
  have hmap : (parts.map fun p => (p.1, ρ p.2)).toList = parts.toList.map fun p => (p.1, ρ p.2) := by simp
  split at h
  · rename_i fs z hu hz
    rw [hu, hz] at hv
    simp only at hv
    split at h
    · rename_i ps ha hps
      rw [ha, hps] at hv
      obtain ⟨inf, zv, hi, hiz, hrel, _⟩ := zeroP_ok hz
      obtain ⟨places, hpl, hq⟩ := places_ok fs.toList ha
      simp only [nrun, buildF] at h
      obtain ⟨z', hk, cells', hf, hz'⟩ := fillK_ok (places.toArray[·]?) ps (parts.toList.map fun p => (p.1, ρ p.2)) vs z zv.cells _ (placesS_ok hq _ _ hps ρ) (by simpa [List.map_map, Function.comp_def] using hv) (hrel μ) h
      refine .pure hk (run_build w t _ cells' ?_) (by simp only [VRel]; exact ⟨_, rfl, hz'⟩)
      rw [hmap]; simp only [Program.built, hi, hu, hiz, hpl]; exact hf
    · simp [bad, nrun, badF] at h
  · rename_i n e z hu hz
    rw [hu, hz] at hv
    simp only at hv
    split at h
    · rename_i sz hsz
      rw [hsz] at hv
      obtain ⟨inf, zv, hi, hiz, hrel, _⟩ := zeroP_ok hz
      unfold sizeP at hsz; rw [Option.map_eq_some_iff] at hsz; obtain ⟨ie, hie, rfl⟩ := hsz
      simp only [nrun, buildF] at h
      obtain ⟨z', hk, cells', hf, hz'⟩ := fillK_ok (fun i => some (i * ie.size, ie.size)) _ (parts.toList.map fun p => (p.1, ρ p.2)) vs z zv.cells _ (placesA_ok ie.size parts.toList ρ) (by simpa [List.map_map, Function.comp_def] using hv) (hrel μ) h
      refine .pure hk (run_build w t _ cells' ?_) (by simp only [VRel]; exact ⟨_, rfl, hz'⟩)
      rw [hmap]; simp only [Program.built, hi, hu, hiz, hie]; exact hf
    · simp [bad, nrun, badF] at h
  · simp [bad, nrun, badF] at h

theorem flat_get (z : Array Value) (hz : z.size ≠ 0) : ∀ (n i : Nat), i < n * z.size → ((List.replicate n z.toList).flatten)[i]? = some (z[i % z.size]!)
  | 0, i, h => by omega
  | n + 1, i, h => by
    have e : (n + 1) * z.size = n * z.size + z.size := by rw [Nat.add_mul]; omega
    rw [List.replicate_succ, List.flatten_cons, List.getElem?_append]
    split
    · rename_i hl
      have hl' : i < z.size := by simpa using hl
      rw [Nat.mod_eq_of_lt hl', Array.getElem?_toList]
      simp [hl']
    · rename_i hl
      have hl' : z.size ≤ i := by simpa using hl
      have := flat_get z hz n (i - z.size) (by omega)
      rw [Array.length_toList, this]
      congr 2
      rw [Nat.mod_eq_sub_mod hl']
theorem cyc_eq (z : Array Value) (hz : z.size ≠ 0) (n : Nat) : ((Array.range (n * z.size)).map (z[· % z.size]!)).toList = (List.replicate n z.toList).flatten := by
  apply List.ext_getElem?
  intro i
  by_cases h : i < n * z.size
  · rw [flat_get z hz n i h]
    simp [h]
  · rw [List.getElem?_eq_none (by simp; omega), List.getElem?_eq_none]
    simp [List.length_flatten, List.map_replicate, List.sum_replicate_nat]; omega

theorem compBuildSlice_ok (hx : ∀ v o, k v (some o) = some r → μ x = none) {t len : Nat} {parts : Array (Nat × Operand)} {ρ : Operand → Value} (hv : VRels μ vs ((compBuildSlice P t len parts.toList).2.map ρ)) (h : nrun (compBuildSlice P t len parts.toList).1 vs hp x k = some r) :
    NGood P μ w x (Instr.buildSlice t len (parts.map fun p => (p.1, ρ p.2))) k r := by
  unfold compBuildSlice at hv h
  have hmap : (parts.map fun p => (p.1, ρ p.2)).toList = parts.toList.map fun p => (p.1, ρ p.2) := by simp
  split at h
  · rename_i e hu
    rw [hu] at hv
    simp only at hv
    split at h
    · rename_i n z hn hz
      rw [hn, hz] at hv
      simp only at hv
      split at h
      · rename_i hc
        rw [if_pos hc] at hv
        obtain ⟨hc1, hc2, hc3⟩ := hc
        obtain ⟨inf, zv, hi, hiz, hrel, _⟩ := zeroP_ok hz
        have hzl : zv.cells.size = n := by have := (hrel μ).length; simp at this; omega
        simp only [nrun, buildSliceF] at h
        have hzr : VRels μ (repL len z) ((Array.range (len * n)).map (zv.cells[· % zv.cells.size]!)).toList := by
          rw [← hzl, cyc_eq _ (by omega)]; exact (hrel μ).repl len
        obtain ⟨z', hk, cells', hf, hz'⟩ := fillK_ok (fun i => some (i * n, n)) _ (parts.toList.map fun p => (p.1, ρ p.2)) vs _ _ _ (placesA_ok n parts.toList ρ) (by simpa [List.map_map, Function.comp_def] using hv) hzr h
        refine .cells hx hk (cv := .slice (some ⟨w.heap.size, 0, none⟩) len len) (w1 := w.alloc (.cells cells' e)) (t := e) (arr := cells') ?_ rfl ?_ hz'
        · have hf' := hf
          rw [← hmap] at hf'
          by_cases hl : len * n = 0
          · have hl0 : len = 0 := by rcases Nat.mul_eq_zero.1 hl with h | h; exact h; exact absurd h hc2
            subst hl0
            have e0 : ∀ f : Nat → Value, (Array.range (0 * n)).map f = #[] := by intro f; simp
            rw [e0] at hf'
            simp only [Instr.buildSlice, Sem.run_bind, run_underlying hu, Result.andThen_ok, run_sizeOf hn]
            rw [if_neg (by omega), if_pos hl]
            simp only [Sem.run_bind, Sem.run_pure, Result.andThen_ok, e0, hf', newRow, run_newObj]
            rfl
          · simp only [Instr.buildSlice, Sem.run_bind, run_underlying hu, Result.andThen_ok, run_sizeOf hn]
            rw [if_neg (by omega), if_neg hl]
            simp only [Sem.run_bind, Sem.run_pure, Result.andThen_ok, run_zeroValue hi hiz, hf', newRow, run_newObj]
            rfl
        · simp only [VRel, SlRel]; exact ⟨_, upd_self _ _ _, rfl⟩
      · simp [bad, nrun, badF] at h
    · simp [bad, nrun, badF] at h
  · simp [bad, nrun, badF] at h
end
end Go.Proofs.Ytpcocfdgcihpdaa.Eng
