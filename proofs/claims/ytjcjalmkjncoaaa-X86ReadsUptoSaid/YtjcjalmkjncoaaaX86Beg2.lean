/-
  begins OF 40 99 IS FALSE: as a call; its contract may stand in (TabOK).
-/
import Derived.Test.YtjcjalmkjncoaaaX86Beg
import Derived.Test.YtjcjalmkjncoaaaEngVB
namespace Go.Proofs.Ytjcjalmkjncoaaa.x86enc
open Go
open Go.Proofs.Ytjcjalmkjncoaaa
set_option maxRecDepth 1000000
set_option linter.unusedVariables false
set_option linter.unusedSimpArgs false
theorem b0_in : Eng.inNames c0.names Eng.b0 = true := by decide
theorem c0_get : (Eng.hpOf c0.hs).get Eng.b0 = .cells [.int .u8 64, .int .u8 153] := by
  simp only [c0, m0, Eng.hpOf, Eng.Hp.get_put, if_true]
theorem c1_get : (Eng.hpOf c1.hs).get Eng.b0 = .cells [.int .u8 64, .int .u8 153] := c0_get
/-- BEGINS OF 40 99 is false, and nothing else turns -/
theorem begins_call (w : World) (blk : Nat) (t : TypeId) (arr : Array Value) (hcell : w.heap[blk]? = some (.cells arr t (0, 0))) (harr : arr.toList = [.int .u8 64, .int .u8 153]) :
    Calls Try.prog 33 #[.slice (some ⟨blk, 0, none⟩) 2 2] w fun e w' => e = .returned (.bool false) ∧ w'.os = w.os ∧ w'.tape = w.tape ∧ w'.output = w.output ∧ w.heap.size ≤ w'.heap.size ∧
      (∀ c, c < w.heap.size → c ≠ blk → w'.heap[c]? = w.heap[c]?) ∧ ∃ arr' t', w'.heap[blk]? = some (.cells arr' t' (0, 0)) ∧ arr'.toList = [.int .u8 64, .int .u8 153] := by
  let μ : Eng.Inj := fun c => if c = Eng.b0 then some ⟨blk, 0, 2⟩ else none
  have hμ : μ Eng.b0 = some ⟨blk, 0, 2⟩ := if_pos rfl
  have honly : ∀ c l, μ c = some l → c = Eng.b0 ∧ l = ⟨blk, 0, 2⟩ := by
    intro c l h
    by_cases e : c = Eng.b0
    · subst e; rw [hμ] at h; injection h with h; exact ⟨rfl, h.symm⟩
    · have : μ c = none := if_neg e
      rw [this] at h; cases h
  have hr : Eng.HR μ (Eng.hpOf c0.hs).get w := by
    refine ⟨fun b l hb => ?_, fun b b' l l' hb hb' _ _ _ => ?_⟩
    · obtain ⟨rfl, rfl⟩ := honly b l hb
      rw [c0_get]
      exact ⟨rfl, arr, t, hcell, by rw [harr]; simp [Eng.VRels, Eng.VRel]⟩
    · rw [(honly b l hb).1, (honly b' l' hb').1]
  have ha : Eng.TRel μ 77 (Eng.tmOf c0.ts) (Eng.actOf 77 #[.slice (some ⟨blk, 0, none⟩) 2 2]) := by
    refine ⟨by simp [Eng.actOf], fun p => ?_⟩
    rcases Eng.tmOf_get c0.ts p with h | ⟨q, hq, rfl, h3⟩
    · rw [h]; simp [Eng.VRel]
    · rw [← h3]
      have hq0 : q = a0 := by simpa [c0] using hq
      subst hq0
      have e0 : (a0.1).toNat = 0 := by decide
      rw [e0]
      simp only [a0, Eng.VRel, Eng.SlRel, Eng.actOf]
      exact ⟨_, hμ, by simp⟩
  have hrs : Eng.compRes Try.prog 77 Try.f33.results.toList = some [.tmp (.ofNat 2)] := by kernel_rfl
  have hk : Eng.resK [.tmp (.ofNat 2)] (Eng.tmOf c1.ts) (Eng.hpOf c1.hs) (fun vs => some vs) = some [.bool false] := by kernel_rfl
  refine (Eng.piece_callN (N := 77) (c := .seq r0 (.seq (.seq r1 (.block 0 (.loop lb))) r22)) (rs := [.tmp (.ofNat 2)]) Try.func33 bd_eq Try.ntmps33 (by decide) hrs begins_piece (.inl rfl) hk μ w #[.slice (some ⟨blk, 0, none⟩) 2 2] hr ha).mono fun e w' hh => ?_
  obtain ⟨vs2, vals, μ', h1, h2, he, h3, h4⟩ := hh
  have h1' : vs2 = [.bool false] := Option.some.inj h1
  have hvals : vals = [.bool false] := by
    rw [h1'] at h2
    simp only [Eng.VRels, Eng.VRel] at h2
    obtain ⟨v, r, h5, h6, h7⟩ := h2
    rw [h5, h6, h7]
  clear h1 h2
  refine ⟨by rw [he, hvals]; rfl, h4.os, h4.tape, h4.output, h4.size, fun c hc hne => h4.same c hc ?_, ?_⟩
  · rintro ⟨b, l, hb, _, he⟩
    rw [(honly b l hb).2] at he
    exact hne he.symm
  · have h5 := h3.ok Eng.b0 ⟨blk, 0, 2⟩ (h4.le _ _ hμ)
    rw [c1_get] at h5
    obtain ⟨_, arr', t', h6, h7⟩ := h5
    refine ⟨arr', t', h6, ?_⟩
    simp only [Eng.VRels, Eng.VRel] at h7
    obtain ⟨v, r, h8, rfl, v2, r2, rfl, rfl, rfl⟩ := h7
    exact h8
def begT {β : Type} : Eng.EF β
  | [.slice b 0 2 (.ex 2)], h, x, k => match h.get b with
    | .cells [.int .u8 m, .int .u8 n] => match Eng.intEq m 64 && Eng.intEq n 153 with
      | true => k (.bool false) h x
      | false => none
    | _ => none
  | _, _, _, _ => none
/-- Encode's contract stands in, and that of begins -/
def T2 {β : Type} (call : Eng.CALL β) : Eng.CALL β := fun f vs h x k => match Nat.beq f 33 with
  | true => begT vs h x k
  | false => T call f vs h x k
theorem tab2 {β : Type} : Eng.TabOK (β := β) Try.prog T2 := by
  intro call hcall f vs h x k r μ w args hr hv hk
  unfold T2 at hk
  split at hk
  · rename_i hf
    rw [Nat.beq_eq] at hf
    subst hf
    refine ⟨Try.f33, Try.func33, by decide +kernel, by kernel_rfl, ?_⟩
    unfold begT at hk
    split at hk
    · rename_i b
      split at hk
      · rename_i m n hc
        split at hk
        · rename_i hmn
          rw [Bool.and_eq_true, Eng.intEq_eq, Eng.intEq_eq, beq_iff_eq, beq_iff_eq] at hmn
          obtain ⟨rfl, rfl⟩ := hmn
          simp only [Eng.VRels, Eng.VRel, Eng.SlRel] at hv
          obtain ⟨v, r0, hargs, ⟨l, hl, rfl⟩, rfl⟩ := hv
          have hob := hr.ok b l hl
          rw [hc] at hob
          obtain ⟨hb0, arr, t, h1, h2⟩ := hob
          have harr : arr.toList = [.int .u8 64, .int .u8 153] := by
            simp only [Eng.VRels, Eng.VRel] at h2
            obtain ⟨v, r, h8, rfl, v2, r2, rfl, rfl, rfl⟩ := h2
            exact h8
          have he : args = #[.slice (some ⟨l.blk, 0, none⟩) 2 2] := by
            apply Array.toList_inj.1
            rw [hargs, hb0]
          subst he
          refine (begins_call w l.blk t arr h1 harr).mono fun e w' hh => ?_
          obtain ⟨rfl, q1, q2, q3, q4, q5, arr', t', q6, q7⟩ := hh
          have hob' : ∀ b' l', μ b' = some l' → Eng.ObjRel μ w' l' (h.get b') := by
            intro b' l' hb'
            by_cases hlive : Eng.live (h.get b') = true
            · by_cases hbl : l'.blk = l.blk
              · have : b' = b := hr.inj b' b l' l hb' hl hlive (by rw [hc]; rfl) hbl
                subst this
                rw [hl] at hb'; injection hb' with hb'; subst hb'
                rw [hc]
                exact ⟨hb0, arr', t', q6, by rw [q7]; simp [Eng.VRels, Eng.VRel]⟩
              · exact (hr.ok b' l' hb').of_block fun _ => q5 _ ((hr.ok b' l' hb').lt hlive) hbl
            · exact (hr.ok b' l' hb').of_block fun hh => absurd hh hlive
          exact ⟨_, h, x, _, μ, hk, rfl, by simp only [Eng.VRel], ⟨hob', hr.inj⟩, ⟨Eng.Le.refl _, fun b h h' => absurd h h', q1, q2, q3, q4, fun c hc' hu => q5 c hc' fun e => hu ⟨b, l, hl, by rw [hc]; rfl, e.symm⟩, fun c h => .inl h, fun _ h => h⟩⟩
        · cases hk
      · cases hk
    · cases hk
  · exact tab call hcall f vs h x k r μ w args hr hv hk
end Go.Proofs.Ytjcjalmkjncoaaa.x86enc
