/-
  THE ENGINE, PART WB: bytes that are not worked out stand in for a call's answer.
-/
import Derived.Test.YtjcjalmkjncoaaaEngW
namespace Go.Proofs.Ytjcjalmkjncoaaa.Eng
open Go Go.RowKit
set_option linter.unusedVariables false
set_option linter.unusedSimpArgs false
section
variable {β : Type}
/-- the answer: a list of bytes (as they are) and a number -/
def resG (e : Int) (l : List AV) (h : Hp) (x : Bid) (k : EK β) : Option β := natK l.length fun m => intK e fun e => freshK h x fun y => Hp.putK x (.opn l 1) h fun h => k (.tup [.slice x 0 m (.op 0), .int .i64 e]) h y
theorem resG_ok {r : β} {μ : Inj} {h : Hp} {x : Bid} {w w' : World} {k : EK β} {e : Int} {l : List AV} {bs : List Int} {cv : Value} (hl : ∀ ν, VRels ν l (bs.map (Value.int .u8))) (hne : bs ≠ []) (hr : HR μ h.get w) (hk : resG e l h x k = some r) (hb : Below w.heap.size w w') (hc : BytesRes w w' e bs cv) :
    ∃ v h' x' μ', k v h' x' = some r ∧ VRel μ' v cv ∧ HR μ' h'.get w' ∧ Fr μ h.get w μ' h'.get w' := by
  have hold : ∀ {b l}, μ b = some l → ObjRel μ w' l (h.get b) := fun {b l} hbl => (hr.ok b l hbl).of_block fun hl => hb.block l.blk ((hr.ok b l hbl).lt hl)
  have hlen : l.length = bs.length := by have := (hl μ).length; simpa using this
  unfold resG at hk
  rcases hc with ⟨h0, _⟩ | ⟨_, v, ⟨blk, base, cap, arr, t, fr, rfl, h1, h2, h3, h4, h5, h6⟩, rfl⟩
  · exact absurd h0 hne
  rw [natK_eq, intK_eq] at hk
  unfold freshK at hk
  split at hk
  · rename_i hno
    obtain ⟨y, hy⟩ := succK_ok x (fun y => Hp.putK x (.opn l 1) h fun h => k (.tup [.slice x 0 l.length (.op 0), .int .i64 e]) h y)
    rw [hy, Hp.putK_eq] at hk
    have hx : μ x = none := hr.fresh hno
    refine ⟨_, _, _, upd μ x ⟨blk, base, cap⟩, hk, ?_, ⟨fun b l hbl => ?_, fun b b' l l' hbl hbl' hv hv' he => ?_⟩, ⟨le_upd _ hx, fun b hb1 hb2 => ?_, hb.os, hb.tape, hb.output, hb.size, fun c hc _ => hb.block c hc, fun c hu => ?_, fun b hb1 => ?_⟩⟩
    · simp only [VRel, VRels, SlRel]
      refine ⟨_, rfl, _, _, rfl, ⟨_, upd_self _ _ _, ?_, (show 0 + l.length ≤ cap by omega)⟩, _, _, rfl, rfl, rfl⟩
      simp [hlen]
    · rw [Hp.get_put]
      unfold upd at hbl
      split at hbl
      · rename_i e'; subst e'
        injection hbl with hbl; subst hbl
        rw [if_pos rfl]
        refine ⟨arr, t, fr, h2, h3, (show base + cap * 1 ≤ arr.size by omega), ?_⟩
        rw [hlen, h6]
        exact hl _
      · rename_i e'
        rw [if_neg e']
        exact (hold hbl).mono (le_upd _ hx)
    · rw [Hp.get_put] at hv hv'
      unfold upd at hbl hbl'
      by_cases e1 : b = x
      · by_cases e2 : b' = x
        · rw [e1, e2]
        · rw [if_pos e1] at hbl; rw [if_neg e2] at hbl' hv'
          injection hbl with hbl; subst hbl
          have := (hr.ok b' l' hbl').lt hv'
          simp only at he; omega
      · by_cases e2 : b' = x
        · rw [if_neg e1] at hbl hv; rw [if_pos e2] at hbl'
          injection hbl' with hbl'; subst hbl'
          have := (hr.ok b l hbl).lt hv
          simp only at he; omega
        · rw [if_neg e1] at hbl hv; rw [if_neg e2] at hbl' hv'
          exact hr.inj b b' l l' hbl hbl' hv hv' he
    · unfold upd at hb2
      split at hb2
      · rename_i e'; rw [e']; exact hno
      · exact absurd hb1 hb2
    · obtain ⟨b, l, hbl, hv, rfl⟩ := hu
      rw [Hp.get_put] at hv
      unfold upd at hbl
      split at hbl
      · injection hbl with hbl; subst hbl; exact .inr h1
      · rename_i e'; rw [if_neg e'] at hv; exact .inl ⟨b, l, hbl, hv, rfl⟩
    · rw [Hp.get_put]
      split
      · simp
      · exact hb1
  · cases hk
theorem rels_sints {μ : Inj} : ∀ (l : List Int), VRels μ (l.map fun n => AV.sint .u8 n 0) (l.map (Value.int .u8))
  | [] => by simp [VRels]
  | a :: l => by simp only [List.map_cons, VRels, VRel]; exact ⟨_, _, rfl, rfl, rels_sints l⟩
end
end Go.Proofs.Ytjcjalmkjncoaaa.Eng
