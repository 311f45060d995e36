/-
  THE ENGINE, PART J: operations that write.
-/
import Derived.Test.YtpcocfdgcihpdaaEngI
namespace Go.Proofs.Ytpcocfdgcihpdaa.Eng
open Go
set_option linter.unusedVariables false
set_option linter.unusedSimpArgs false

/-! ### cells that are put over -/
theorem setCells_heap (b : Nat) : ∀ (vs : List Value) (o : Nat) (w : World) (arr : Array Value) (t : TypeId) (fr : Nat × Nat), w.heap[b]? = some (.cells arr t fr) → o + vs.length ≤ arr.size →
    ∃ arr' : Array Value, (w.setCells b o vs).heap[b]? = some (.cells arr' t fr) ∧ arr'.toList = over arr.toList o vs
  | [], o, w, arr, t, fr, h, _ => ⟨arr, h, (over_nil _ _).symm⟩
  | v :: vs, o, w, arr, t, fr, h, hl => by
    simp only [List.length_cons] at hl
    have h1 : (w.setCell ⟨b, o, none⟩ v).heap[b]? = some (.cells (arr.setIfInBounds o v) t fr) := by
      simp only [World.setCell, Array.getElem?_modify, if_true, h, Option.map_some]
      rfl
    obtain ⟨arr', h2, h3⟩ := setCells_heap b vs (o + 1) _ _ t fr h1 (by simp; omega)
    refine ⟨arr', h2, ?_⟩
    rw [h3, Array.toList_setIfInBounds, over_cons _ _ _ _ (by simp; omega)]
theorem setCells_other (b : Nat) : ∀ (vs : List Value) (o : Nat) (w : World) (c : Nat), c ≠ b → (w.setCells b o vs).heap[c]? = w.heap[c]?
  | [], _, _, _, _ => rfl
  | v :: vs, o, w, c, h => by
    rw [World.setCells, setCells_other b vs (o + 1) _ c h]
    exact heap_setCell_other w ⟨b, o, none⟩ c v h
theorem setCells_rest (b : Nat) : ∀ (vs : List Value) (o : Nat) (w : World), (w.setCells b o vs).os = w.os ∧ (w.setCells b o vs).tape = w.tape ∧ (w.setCells b o vs).output = w.output ∧ (w.setCells b o vs).heap.size = w.heap.size
  | [], _, _ => ⟨rfl, rfl, rfl, rfl⟩
  | v :: vs, o, w => by
    obtain ⟨h1, h2, h3, h4⟩ := setCells_rest b vs (o + 1) (w.setCell ⟨b, o, none⟩ v)
    refine ⟨h1, h2, h3, ?_⟩
    rw [World.setCells, h4]; simp

section
variable {β : Type} {P : Program} {μ : Inj} {w : World} {r : β} {h : Hp}

theorem okCells_ok : ∀ {l : List AV} {vals : List Value}, okCells l = true → VRels μ l vals → ∀ v ∈ vals, v.oneCell' = true
  | [], _, _, hv => by simp only [VRels] at hv; subst hv; simp
  | a :: l, _, h, hv => by
    simp only [okCells, Bool.and_eq_true] at h
    simp only [VRels] at hv
    obtain ⟨v, r0, rfl, ha, hv⟩ := hv
    intro u hu
    rcases List.mem_cons.1 hu with rfl | hu
    · cases a <;> simp [okCell] at h <;> simp only [VRel] at ha
      all_goals first | (subst ha; rfl) | skip
      case str => obtain ⟨_, rfl, _⟩ := ha; rfl
      case nz => obtain ⟨rfl, _⟩ := ha; rfl
      case ptr => obtain ⟨_, _, rfl⟩ := ha; rfl
      case slice => obtain ⟨_, _, hs⟩ := ha; obtain ⟨_, _, rfl, _⟩ := slice_len hs; rfl
      case map => obtain ⟨_, _, rfl⟩ := ha; rfl
      case func => obtain ⟨_, _, rfl, _⟩ := ha; rfl
      case iface => obtain ⟨_, rfl, _⟩ := ha; rfl
    · exact okCells_ok h.2 hv u hu

theorem Hp.get_put_self (h : Hp) (b : Bid) (o : AObj) : (h.put b o).get b = o := by rw [Hp.get_put, if_pos rfl]
theorem Hp.get_put_ne (h : Hp) {b c : Bid} (o : AObj) (hne : c ≠ b) : (h.put b o).get c = h.get c := by rw [Hp.get_put, if_neg hne]

/-- one object is changed in place -/
theorem HR.change (hr : HR μ h.get w) {b : Bid} {l : Loc} (hl : μ b = some l) (hlive : live (h.get b) = true) {o : AObj} (ho : live o = true) {w' : World} (hsame : ∀ c, c ≠ l.blk → w'.heap[c]? = w.heap[c]?) (hob : ObjRel μ w' l o)
    (h1 : w'.os = w.os) (h2 : w'.tape = w.tape) (h3 : w'.output = w.output) (h4 : w'.heap.size = w.heap.size) : HR μ (h.put b o).get w' ∧ Fr μ h.get w μ (h.put b o).get w' := by
  have hlv : ∀ c, live ((h.put b o).get c) = live (h.get c) := by
    intro c
    by_cases e : c = b
    · subst e; rw [Hp.get_put_self, ho, hlive]
    · rw [Hp.get_put_ne _ _ e]
  refine ⟨⟨fun c m hc => ?_, fun c c' m m' hc hc' e1 e2 e3 => hr.inj c c' m m' hc hc' (by rw [← hlv]; exact e1) (by rw [← hlv]; exact e2) e3⟩, ?_⟩
  · by_cases e : c = b
    · subst e; rw [hl] at hc; injection hc with hc; subst hc; rw [Hp.get_put_self]; exact hob
    · rw [Hp.get_put_ne _ _ e]
      refine (hr.ok c m hc).of_block fun hlc => hsame _ fun he => e (hr.inj c b m l hc hl hlc hlive he)
  · refine ⟨Le.refl _, fun c e e' => absurd e e', h1, h2, h3, by rw [h4]; exact Nat.le_refl _, fun c _ hu => hsame c fun e => hu ⟨b, l, hl, hlive, e.symm⟩, fun c hu => ?_, fun c hc => ?_⟩
    · obtain ⟨b', l', hb', hl', e⟩ := hu
      exact .inl ⟨b', l', hb', by rw [← hlv]; exact hl', e⟩
    · by_cases e : c = b
      · subst e; rw [Hp.get_put_self]; intro e; rw [e] at ho; cases ho
      · rw [Hp.get_put_ne _ _ e]; exact hc

theorem overObj_ok (hr : HR μ h.get w) {b : Bid} {l : Loc} (hl : μ b = some l) {o : Nat} {c : List AV} {vals : List Value} (hc : VRels μ c vals) {k' : Hp → Option β} (hk : overObj o c b h (h.get b) k' = some r) :
    ∃ h' w', k' h' = some r ∧ (storeCells ⟨l.blk, l.base + o, none⟩ vals).run P w = .ok () w' ∧ HR μ h'.get w' ∧ Fr μ h.get w μ h'.get w' ∧ live (h'.get b) = live (h.get b) ∧ (∀ d, d ≠ b → h'.get d = h.get d) := by
  unfold overObj at hk
  split at hk
  · rename_i hok
    have h1 := okCells_ok hok hc
    have hlen := hc.length
    cases hob : h.get b with
    | no => rw [hob] at hk; cases hk
    | dead => rw [hob] at hk; cases hk
    | map _ _ => rw [hob] at hk; cases hk
    | cells c0 =>
      rw [hob] at hk
      simp only [overObj1] at hk
      obtain ⟨hb, hk⟩ := overK_ok hk
      rw [Hp.putK_eq] at hk
      have hor := hr.ok b l hl
      rw [hob] at hor
      obtain ⟨hbase, arr, t, hheap, hrel⟩ := hor
      have hsz : c0.length = arr.size := by simpa using hrel.length
      obtain ⟨arr', hh, harr⟩ := setCells_heap l.blk vals o w arr t (0, 0) hheap (by omega)
      obtain ⟨q1, q2, q3, q4⟩ := setCells_rest l.blk vals o w
      have hrun := run_storeCells_cells (P := P) l.blk o vals 0 w (fun j hj => by simp [World.cell?, hheap]; omega) (fun j hj => by simp [World.frozen?, hheap]) h1
      have hch := hr.change hl (by rw [hob]; rfl) (o := .cells (over c0 o c)) rfl (w' := w.setCells l.blk o vals) (fun c hc => setCells_other l.blk vals o w c hc)
        ⟨hbase, arr', t, hh, by rw [harr]; exact hrel.over o hc⟩ q1 q2 q3 q4
      refine ⟨_, _, hk, by rw [hbase, Nat.zero_add]; simpa using hrun, hch.1, hch.2, ?_, fun d hd => Hp.get_put_ne _ _ hd⟩
      rw [Hp.get_put_self]; rfl
    | opn c0 sz =>
      rw [hob] at hk
      simp only [overObj1] at hk
      obtain ⟨hb, hk⟩ := overK_ok hk
      rw [Hp.putK_eq] at hk
      have hor := hr.ok b l hl
      rw [hob] at hor
      obtain ⟨arr, t, fr, hheap, hfr, hcap, hrel⟩ := hor
      have hsz : c0.length = min c0.length (arr.size - l.base) := by simpa using hrel.length
      have hin : l.base + o + vals.length ≤ arr.size := by omega
      obtain ⟨arr', hh, harr⟩ := setCells_heap l.blk vals (l.base + o) w arr t fr hheap hin
      obtain ⟨q1, q2, q3, q4⟩ := setCells_rest l.blk vals (l.base + o) w
      have hrun := run_storeCells_cells (P := P) l.blk (l.base + o) vals 0 w (fun j hj => by simp [World.cell?, hheap]; omega) (fun j hj => by
        have hf := hfr (l.base + o + j) (by omega)
        simp only [World.frozen?, hheap]
        rw [Bool.and_eq_false_iff]; simp only [decide_eq_false_iff_not, Nat.add_zero]
        by_cases hle : fr.1 ≤ l.base + o + j
        · right; exact fun hh => hf ⟨hle, hh⟩
        · left; exact hle) h1
      have hasz : arr'.size = arr.size := by
        rw [← Array.length_toList, harr, over_length _ _ _ (by rw [Array.length_toList]; exact hin), Array.length_toList]
      have hch := hr.change hl (by rw [hob]; rfl) (o := .opn (over c0 o c) sz) rfl (w' := w.setCells l.blk (l.base + o) vals) (fun c hc => setCells_other l.blk vals (l.base + o) w c hc)
        (by
          refine ⟨arr', t, fr, hh, by rw [hasz]; exact hfr, by rw [hasz]; exact hcap, ?_⟩
          rw [over_length _ _ _ hb, harr]
          have : ((over arr.toList (l.base + o) vals).drop l.base).take c0.length = over ((arr.toList.drop l.base).take c0.length) o vals := by
            apply List.ext_getElem?
            intro i
            rw [over_get _ _ _ (by simp; omega)]
            rw [List.getElem?_take, List.getElem?_drop, over_get _ _ _ (by simpa using hin)]
            rw [List.getElem?_take, List.getElem?_drop]
            by_cases e1 : o ≤ i ∧ i < o + vals.length
            · rw [if_pos (by omega), if_pos (by omega), if_pos e1]; congr 1; omega
            · rw [if_neg e1]
              split
              · rw [if_neg (by omega)]
              · rfl
          rw [this]; exact hrel.over o hc) q1 q2 q3 q4
      refine ⟨_, _, hk, by simpa using hrun, hch.1, hch.2, ?_, fun d hd => Hp.get_put_ne _ _ hd⟩
      rw [Hp.get_put_self]; rfl
  · cases hk

/-- what an operation that writes does -/
def EGood {β : Type} (P : Program) (μ : Inj) (h : Hp) (w : World) (s : Sem Next) (k : EK β) (r : β) : Prop :=
  ∃ v h' x', k v h' x' = some r ∧ ∃ nx cv w' μ', s.run P w = .ok nx w' ∧ (nx = .value cv ∨ (nx = .skip ∧ cv = undef)) ∧ VRel μ' v cv ∧ HR μ' h'.get w' ∧ Fr μ h.get w μ' h'.get w'

variable {x : Bid} {vs : List AV} {k : EK β}

theorem assignE_ok (hr : HR μ h.get w) {c : Value} (hv : VRels μ vs [c]) (hk : assignE vs h x k = some r) : EGood P μ h w (pure (.value c)) k r := by
  unfold assignE at hk
  split at hk
  · simp only [VRels, List.cons.injEq] at hv
    obtain ⟨v1, r1, ⟨rfl, rfl⟩, hv, _⟩ := hv
    exact ⟨_, _, _, hk, _, _, _, μ, rfl, .inl rfl, hv, hr, Fr.refl _ _ _⟩
  · cases hk
theorem storeE_ok (hr : HR μ h.get w) {t : TypeId} {n : Nat} (hs : sizeP P t = some n) {a c : Value} (hv : VRels μ vs [a, c]) (hk : storeE (some n) vs h x k = some r) :
    EGood P μ h w (do Instr.storeAt t a c; pure .skip) k r := by
  unfold storeE at hk
  split at hk
  · rename_i b o v
    simp only [VRels, VRel, List.cons.injEq] at hv
    obtain ⟨v1, r1, ⟨rfl, rfl⟩, ⟨l, hl, rfl⟩, v2, r2, ⟨rfl, _⟩, hv, _⟩ := hv
    obtain ⟨lst, hk, hlst⟩ := cellsK_ok hv hk
    split at hk
    · rename_i hsz
      rw [Nat.beq_eq] at hsz
      simp only at hsz
      obtain ⟨h', w', hk, hrun, hr', hf, _⟩ := overObj_ok (P := P) hr hl hlst hk
      have hcs : c.cells.size = n := (by simpa using hlst.length : lst.length = c.cells.size).symm.trans hsz
      refine ⟨_, _, _, hk, .skip, undef, w', μ, ?_, .inr ⟨rfl, rfl⟩, by simp [VRel], hr', hf⟩
      simp [Instr.storeAt, Instr.sureAddr, storeVar, run_sizeOf hs, hcs, hrun]
    · cases hk
  · cases hk
end
end Go.Proofs.Ytpcocfdgcihpdaa.Eng
