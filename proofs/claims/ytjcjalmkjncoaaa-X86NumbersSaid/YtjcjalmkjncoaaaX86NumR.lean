/-
  X86Numbers: the rest behind its loop, and the whole: it answers true.
-/
import Derived.Test.YtjcjalmkjncoaaaX86NumT
import Derived.Test.YtjcjalmkjncoaaaX86NumA
import Derived.Test.YtjcjalmkjncoaaaX86NumB
import Derived.Test.YtjcjalmkjncoaaaX86NumC
namespace Go.Proofs.Ytjcjalmkjncoaaa.x86enc.num
open Go Go.RowKit
open Go.Proofs.Ytjcjalmkjncoaaa Go.Proofs.Ytjcjalmkjncoaaa.x86enc
set_option maxRecDepth 1000000
set_option linter.unusedVariables false
set_option linter.unusedSimpArgs false
def cR : Eng.Ck := ⟨[(.ofNat 0, .bool true)], []⟩
set_option maxHeartbeats 4000000 in
theorem p2 : Eng.Piece Try.prog 154 r2 c1 .ret cR :=
  Eng.piece_quick (T := T4) tab4 1000000 (by decide) xb (by kernel_rfl) (by kernel_rfl)
theorem rounds : ∀ i, i < 31 → Eng.Piece Try.prog 154 lb (S i) .nrm (S (i + 1))
  | 0, _ => n0
  | 1, _ => n1
  | 2, _ => n2
  | 3, _ => n3
  | 4, _ => n4
  | 5, _ => n5
  | 6, _ => n6
  | 7, _ => n7
  | 8, _ => n8
  | 9, _ => n9
  | 10, _ => n10
  | 11, _ => n11
  | 12, _ => n12
  | 13, _ => n13
  | 14, _ => n14
  | 15, _ => n15
  | 16, _ => n16
  | 17, _ => n17
  | 18, _ => n18
  | 19, _ => n19
  | 20, _ => n20
  | 21, _ => n21
  | 22, _ => n22
  | 23, _ => n23
  | 24, _ => n24
  | 25, _ => n25
  | 26, _ => n26
  | 27, _ => n27
  | 28, _ => n28
  | 29, _ => n29
  | 30, _ => n30
  | n + 31, h => absurd h (by omega)
theorem num_piece : Eng.Piece Try.prog 154 (.seq r0 (.seq (.seq r1 (.block 0 (.loop lb))) r2)) c0 .ret cR :=
  Eng.piece_seq p0 (Eng.piece_seq (Eng.piece_seq p1 (Eng.piece_block (Eng.piece_loop S 31 rounds pE))) p2)
theorem num_call (w : World) : Calls Try.prog 5 #[] w fun e w' => e = .returned (.bool true) ∧ Below w.heap.size w w' := by
  have hr : Eng.HR (fun _ => none) (Eng.hpOf c0.hs).get w := ⟨fun b l hb => (by cases hb), fun b b' l l' hb => (by cases hb)⟩
  have ha : Eng.TRel (fun _ => none) 154 (Eng.tmOf c0.ts) (Eng.actOf 154 #[]) := by
    refine ⟨by simp [Eng.actOf], fun p => ?_⟩
    rcases Eng.tmOf_get c0.ts p with h | ⟨q, hq, _⟩
    · rw [h]; simp [Eng.VRel]
    · simp [c0] at hq
  have hrs : Eng.compRes Try.prog 154 Try.f5.results.toList = some [.tmp (.ofNat 0)] := by kernel_rfl
  have hk : Eng.resK [.tmp (.ofNat 0)] (Eng.tmOf cR.ts) (Eng.hpOf cR.hs) (fun vs => some vs) = some [.bool true] := by kernel_rfl
  refine (Eng.piece_callN (N := 154) (rs := [.tmp (.ofNat 0)]) Try.func5 bd_eq Try.ntmps5 (by decide) hrs num_piece (.inl rfl) hk (fun _ => none) w #[] hr ha).mono fun e w' hh => ?_
  obtain ⟨vs2, vals, μ', h1, h2, he, h3, h4⟩ := hh
  have h1' : vs2 = [.bool true] := Option.some.inj h1
  have hvals : vals = [.bool true] := by
    rw [h1'] at h2
    simp only [Eng.VRels, Eng.VRel] at h2
    obtain ⟨v, r, h5, h6, h7⟩ := h2
    rw [h5, h6, h7]
  clear h1 h2
  refine ⟨by rw [he, hvals]; rfl, ?_⟩
  exact ⟨h4.os, h4.tape, h4.output, h4.size, fun i hi => h4.same i hi fun hu => by obtain ⟨b, l, hb, _⟩ := hu; cases hb⟩
end Go.Proofs.Ytjcjalmkjncoaaa.x86enc.num
