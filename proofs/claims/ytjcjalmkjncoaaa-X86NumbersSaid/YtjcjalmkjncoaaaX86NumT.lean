/-
  What stands in for calls in the rest of X86Numbers: both Encode's, begins of 40 99 and of 44 b8, known; any other call is run.
-/
import Derived.Test.YtjcjalmkjncoaaaX86BegB2
namespace Go.Proofs.Ytjcjalmkjncoaaa.x86enc.num
open Go Go.RowKit
open Go.Proofs.Ytjcjalmkjncoaaa Go.Proofs.Ytjcjalmkjncoaaa.x86enc
set_option maxRecDepth 1000000
set_option linter.unusedVariables false
set_option linter.unusedSimpArgs false
/-- what begins of two bytes is, where it is false -/
def BegF (m n : Int) : Prop := ∀ (w : World) (blk : Nat) (t : TypeId) (arr : Array Value) (hcell : w.heap[blk]? = some (.cells arr t (0, 0))) (harr : arr.toList = [.int .u8 m, .int .u8 n]),
    Calls Try.prog 33 #[.slice (some ⟨blk, 0, none⟩) 2 2] w fun e w' => e = .returned (.bool false) ∧ w'.os = w.os ∧ w'.tape = w.tape ∧ w'.output = w.output ∧ w.heap.size ≤ w'.heap.size ∧
      (∀ c, c < w.heap.size → c ≠ blk → w'.heap[c]? = w.heap[c]?) ∧ ∃ arr' t', w'.heap[blk]? = some (.cells arr' t' (0, 0)) ∧ arr'.toList = [.int .u8 m, .int .u8 n]
theorem begA : BegF 64 153 := begins_call
theorem begB : BegF 68 184 := b.begins_call
def isBeg (m n : Int) : Bool := (Eng.intEq m 64 && Eng.intEq n 153) || (Eng.intEq m 68 && Eng.intEq n 184)
theorem isBeg_ok {m n : Int} (h : isBeg m n = true) : BegF m n := by
  unfold isBeg at h
  rw [Bool.or_eq_true, Bool.and_eq_true, Bool.and_eq_true, Eng.intEq_eq, Eng.intEq_eq, Eng.intEq_eq, Eng.intEq_eq, beq_iff_eq, beq_iff_eq, beq_iff_eq, beq_iff_eq] at h
  rcases h with ⟨rfl, rfl⟩ | ⟨rfl, rfl⟩
  · exact begA
  · exact begB
def begAsk (vs : List Eng.AV) (h : Eng.Hp) : Bool := match vs with
  | [.slice b 0 2 (.ex 2)] => match h.get b with
    | .cells [.int .u8 m, .int .u8 n] => isBeg m n
    | _ => false
  | _ => false
def begT4 {β : Type} (call : Eng.CALL β) : Eng.EF β := fun vs h x k => match begAsk vs h with
  | true => k (.bool false) h x
  | false => T call 33 vs h x k
def T4 {β : Type} (call : Eng.CALL β) : Eng.CALL β := fun f vs h x k => match Nat.beq f 33 with
  | true => begT4 call vs h x k
  | false => match Nat.beq f 10 with
    | true => knownT vs h x k
    | false => T call f vs h x k
theorem tab4 {β : Type} : Eng.TabOK (β := β) Try.prog T4 := by
  intro call hcall f vs h x k r μ w args hr hv hk
  unfold T4 at hk
  split at hk
  · rename_i hf
    rw [Nat.beq_eq] at hf
    subst hf
    unfold begT4 at hk
    split at hk
    · rename_i hask
      refine ⟨Try.f33, Try.func33, by decide +kernel, by kernel_rfl, ?_⟩
      unfold begAsk at hask
      split at hask
      · rename_i b
        split at hask
        · rename_i m n hc
          have hbeg := isBeg_ok hask
          simp only [Eng.VRels, Eng.VRel, Eng.SlRel] at hv
          obtain ⟨v, r0, hargs, ⟨l, hl, rfl⟩, rfl⟩ := hv
          have hob := hr.ok b l hl
          rw [hc] at hob
          obtain ⟨hb0, arr, t, h1, h2⟩ := hob
          have harr : arr.toList = [.int .u8 m, .int .u8 n] := by
            simp only [Eng.VRels, Eng.VRel] at h2
            obtain ⟨v, r, h8, rfl, v2, r2, rfl, rfl, rfl⟩ := h2
            exact h8
          have he : args = #[.slice (some ⟨l.blk, 0, none⟩) 2 2] := by
            apply Array.toList_inj.1
            rw [hargs, hb0]
          subst he
          refine (hbeg w l.blk t arr h1 harr).mono fun e w' hh => ?_
          obtain ⟨rfl, q1, q2, q3, q4, q5, arr', t', q6, q7⟩ := hh
          have hob' : ∀ b' l', μ b' = some l' → Eng.ObjRel μ w' l' (h.get b') := by
            intro b' l' hb'
            by_cases hlive : Eng.live (h.get b') = true
            · by_cases hbl : l'.blk = l.blk
              · have : b' = b := hr.inj b' b l' l hb' hl hlive (by rw [hc]; rfl) hbl
                subst this
                rw [hl] at hb'; injection hb' with hb'; subst hb'
                rw [hc]
                exact ⟨hb0, arr', t', q6, by rw [q7]; simp [Eng.VRels, Eng.VRel]⟩
              · exact (hr.ok b' l' hb').of_block fun _ => q5 _ ((hr.ok b' l' hb').lt hlive) hbl
            · exact (hr.ok b' l' hb').of_block fun hh => absurd hh hlive
          exact ⟨_, h, x, _, μ, hk, rfl, by simp only [Eng.VRel], ⟨hob', hr.inj⟩, ⟨Eng.Le.refl _, fun b h h' => absurd h h', q1, q2, q3, q4, fun c hc' hu => q5 c hc' fun e => hu ⟨b, l, hl, by rw [hc]; rfl, e.symm⟩, fun c h => .inl h, fun _ h => h⟩⟩
        · cases hask
      · cases hask
    · exact tab call hcall 33 vs h x k r μ w args hr hv hk
  · split at hk
    · rename_i hf
      rw [Nat.beq_eq] at hf
      subst hf
      refine ⟨Try.f10, Try.func10, by decide +kernel, by kernel_rfl, ?_⟩
      unfold knownT at hk
      split at hk
      · have he : args = #[] := by
          simp only [Eng.VRels] at hv
          exact Array.toList_inj.1 (by simpa using hv)
        subst he
        refine (known_call w).mono fun e w' hh => ?_
        obtain ⟨rfl, hb⟩ := hh
        obtain ⟨p1, p2⟩ := plain_ok hr hb
        exact ⟨_, h, x, _, μ, hk, rfl, by simp only [Eng.VRel], p1, p2⟩
      · cases hk
    · exact tab call hcall f vs h x k r μ w args hr hv hk
end Go.Proofs.Ytjcjalmkjncoaaa.x86enc.num
