/-
  THE ENGINE, PART S: statements whose order is open: what the checker has seen.
-/
import Derived.Test.YtpcocfdgcihpdaaEngR
namespace Go.Proofs.Ytpcocfdgcihpdaa.Eng
open Go
set_option linter.unusedVariables false
set_option linter.unusedSimpArgs false

section
variable {P : Program} {N : Nat} {ops : Array Oper}

theorem compOpers_get : ∀ {l : List Oper} {cs : List COper}, compOpers P N ops l = some cs → cs.length = l.length ∧ ∀ (i : Nat) (co : COper), cs[i]? = some co → ∃ o, l[i]? = some o ∧ compOper P N ops o = some co
  | [], cs, h => by
    simp only [compOpers, Option.some.injEq] at h; subst h
    exact ⟨rfl, fun i co hc => by simp at hc⟩
  | o :: l, cs, h => by
    simp only [compOpers] at h
    split at h
    · rename_i c1 c2 h1 h2
      injection h with h; subst h
      obtain ⟨q1, q2⟩ := compOpers_get h2
      refine ⟨by simp [q1], fun i co hc => ?_⟩
      cases i with
      | zero => simp only [List.getElem?_cons_zero, Option.some.injEq] at hc; subst hc; exact ⟨o, rfl, h1⟩
      | succ i => simpa using q2 i co (by simpa using hc)
    · cases h

/-- an item is the operation of its place -/
def GoodIt (cs : List COper) : DIt → Prop
  | .ne i o op _ => cs[i]? = some o ∧ o.op = .ne op
  | .eff i o op => cs[i]? = some o ∧ o.op = .eff op
theorem itOk_good (cs : List COper) : ∀ (l : List DIt), itOk cs (withOps cs l) = true → ∀ it ∈ withOps cs l, GoodIt cs it
  | [], h, it, hi => by simp [withOps] at hi
  | .ne i o op last :: l, h, it, hi => by
    simp only [withOps] at h hi
    cases hc : cs[i]? with
    | none =>
      simp only [hc, itOk] at h
      simp at h
    | some c =>
      cases hop : c.op with
      | ne op' =>
        simp only [hc, hop, itOk, Bool.true_and] at h hi
        rcases List.mem_cons.1 hi with rfl | hi
        · exact ⟨hc, hop⟩
        · exact itOk_good cs l h it hi
      | eff op' =>
        simp only [hc, hop, itOk] at h
        simp at h
  | .eff i o op :: l, h, it, hi => by
    simp only [withOps] at h hi
    cases hc : cs[i]? with
    | none =>
      simp only [hc, itOk] at h
      simp at h
    | some c =>
      cases hop : c.op with
      | eff op' =>
        simp only [hc, hop, itOk, Bool.true_and] at h hi
        rcases List.mem_cons.1 hi with rfl | hi
        · exact ⟨hc, hop⟩
        · exact itOk_good cs l h it hi
      | ne op' =>
        simp only [hc, hop, itOk] at h
        simp at h

theorem idxIn_ok {i : Nat} : ∀ {l : List DIt}, idxIn i l = false → ∀ it ∈ l, it.idx ≠ i
  | [], h, it, hi => by simp at hi
  | a :: l, h, it, hi => by
    simp only [idxIn, Bool.or_eq_false_iff] at h
    rcases List.mem_cons.1 hi with rfl | hi
    · intro e
      have : Nat.beq it.idx i = true := by rw [Nat.beq_eq]; exact e
      rw [this] at h; exact absurd h.1 (by simp)
    · exact idxIn_ok h.2 it hi
theorem idxIn_some {i : Nat} : ∀ {l : List DIt}, idxIn i l = true → ∃ it ∈ l, it.idx = i
  | [], h => by simp [idxIn] at h
  | a :: l, h => by
    simp only [idxIn, Bool.or_eq_true, Nat.beq_eq] at h
    rcases h with h | h
    · exact ⟨a, by simp, h⟩
    · obtain ⟨it, h1, h2⟩ := idxIn_some h
      exact ⟨it, by simp [h1], h2⟩
theorem idxNodup_ok : ∀ {pre rest : List DIt}, idxNodup (pre ++ rest) = true → (∀ a ∈ pre, ∀ b ∈ rest, a.idx ≠ b.idx) ∧ idxNodup rest = true
  | [], rest, h => ⟨fun a ha => by simp at ha, h⟩
  | x :: pre, rest, h => by
    simp only [List.cons_append, idxNodup, Bool.and_eq_true, Bool.not_eq_true'] at h
    obtain ⟨h1, h2⟩ := h
    obtain ⟨q1, q2⟩ := idxNodup_ok h2
    refine ⟨fun a ha b hb => ?_, q2⟩
    rcases List.mem_cons.1 ha with rfl | ha
    · exact fun e => idxIn_ok h1 b (by simp [hb]) e.symm
    · exact q1 a ha b hb
theorem allIn_ok {its : List DIt} : ∀ {n : Nat}, allIn its n = true → ∀ i, i < n → ∃ it ∈ its, it.idx = i
  | 0, h, i, hi => by omega
  | n + 1, h, i, hi => by
    simp only [allIn, Bool.and_eq_true] at h
    by_cases e : i = n
    · subst e; exact idxIn_some h.1
    · exact allIn_ok h.2 i (by omega)
theorem effsOf_mem {e : Nat} : ∀ {l : List DIt}, e ∈ effsOf l → ∃ o op, .eff e o op ∈ l
  | [], h => by simp [effsOf] at h
  | .ne _ _ _ _ :: l, h => by
    simp only [effsOf] at h
    obtain ⟨o, op, h1⟩ := effsOf_mem h
    exact ⟨o, op, by simp [h1]⟩
  | .eff i o op :: l, h => by
    simp only [effsOf, List.mem_cons] at h
    rcases h with rfl | h
    · exact ⟨o, op, by simp⟩
    · obtain ⟨o, op, h1⟩ := effsOf_mem h
      exact ⟨o, op, by simp [h1]⟩
theorem mem_effsOf {e : Nat} {o : COper} {op : EOp} : ∀ {l : List DIt}, .eff e o op ∈ l → e ∈ effsOf l
  | [], h => by simp at h
  | .ne _ _ _ _ :: l, h => by
    simp only [effsOf]
    rcases List.mem_cons.1 h with h | h
    · cases h
    · exact mem_effsOf h
  | .eff i o op :: l, h => by
    simp only [effsOf, List.mem_cons]
    rcases List.mem_cons.1 h with h | h
    · injection h with h; exact .inl h
    · exact .inr (mem_effsOf h)
theorem effsOf_app : ∀ (a b : List DIt), effsOf (a ++ b) = effsOf a ++ effsOf b
  | [], b => rfl
  | .ne _ _ _ _ :: l, b => by simp only [List.cons_append, effsOf, effsOf_app l b]
  | .eff _ _ _ :: l, b => by simp only [List.cons_append, effsOf, effsOf_app l b]

theorem chain_behind {an : List Nat} : ∀ {l : List DIt} {e : Nat}, chainOk an l (some e) = true → ∀ it ∈ l, ∃ e', (e' = e ∨ e' ∈ effsOf l) ∧ (an.getD it.idx 0).testBit e' = true
  | [], e, h, it, hi => by simp at hi
  | .ne i o op last :: l, e, h, it, hi => by
    simp only [chainOk, behind, Bool.and_eq_true] at h
    rcases List.mem_cons.1 hi with rfl | hi
    · exact ⟨e, .inl rfl, h.1⟩
    · exact chain_behind h.2 it hi
  | .eff i o op :: l, e, h, it, hi => by
    simp only [chainOk, behind, Bool.and_eq_true] at h
    rcases List.mem_cons.1 hi with rfl | hi
    · exact ⟨e, .inl rfl, h.1⟩
    · obtain ⟨e', h1, h2⟩ := chain_behind h.2 it hi
      refine ⟨e', .inr ?_, h2⟩
      simp only [effsOf, List.mem_cons]; exact h1
theorem chain_app {an : List Nat} : ∀ {pre rest : List DIt} {e : Option Nat}, chainOk an (pre ++ rest) e = true → ∃ e', chainOk an rest e' = true
  | [], rest, e, h => ⟨e, h⟩
  | .ne _ _ _ _ :: pre, rest, e, h => by
    simp only [List.cons_append, chainOk, Bool.and_eq_true] at h
    exact chain_app h.2
  | .eff _ _ _ :: pre, rest, e, h => by
    simp only [List.cons_append, chainOk, Bool.and_eq_true] at h
    exact chain_app h.2
theorem lastOk_ok {an effs : List Nat} : ∀ {l : List DIt}, lastOk an effs l = true → ∀ i o op last, .ne i o op last ∈ l → ∀ e, effs[last]? = some e → (an.getD e 0).testBit i = true
  | [], h, i, o, op, last, hi, e, he => by simp at hi
  | .ne i' o' op' last' :: l, h, i, o, op, last, hi, e, he => by
    simp only [lastOk, Bool.and_eq_true] at h
    rcases List.mem_cons.1 hi with hi | hi
    · injection hi with h1 h2 h3 h4; subst h1 h4
      have := h.1
      rw [he] at this; exact this
    · exact lastOk_ok h.2 i o op last hi e he
  | .eff i' o' op' :: l, h, i, o, op, last, hi, e, he => by
    simp only [lastOk] at h
    rcases List.mem_cons.1 hi with hi | hi
    · cases hi
    · exact lastOk_ok h i o op last hi e he
theorem readOk1_ok {a : Nat} {ps : List P3} : ∀ {l : List DIt}, readOk1 a ps l = true → ∀ j o op last, .ne j o op last ∈ l → ∀ p, o.dst = some p → p ∈ ps → a.testBit j = true
  | [], h, j, o, op, last, hi, p, hp, hm => by simp at hi
  | .ne i' o' op' last' :: l, h, j, o, op, last, hi, p, hp, hm => by
    simp only [readOk1, Bool.and_eq_true] at h
    rcases List.mem_cons.1 hi with hi | hi
    · injection hi with h1 h2 h3 h4; subst h1 h2
      have := h.1
      rw [hp] at this
      simp only [Bool.or_eq_true, Bool.not_eq_true'] at this
      rcases this with h | h
      · exact h
      · rw [List.any_eq_false] at h
        exact absurd ((P3.same_iff p p).2 rfl) (h p hm)
    · exact readOk1_ok h.2 j o op last hi p hp hm
  | .eff i' o' op' :: l, h, j, o, op, last, hi, p, hp, hm => by
    simp only [readOk1] at h
    rcases List.mem_cons.1 hi with hi | hi
    · cases hi
    · exact readOk1_ok h j o op last hi p hp hm
theorem readOk_ok {an : List Nat} {all : List DIt} : ∀ {l : List DIt}, readOk an all l = true → ∀ it ∈ l, ∀ j o op last, .ne j o op last ∈ all → ∀ p, o.dst = some p → p ∈ readsP it.oper → (an.getD it.idx 0).testBit j = true
  | [], h, it, hi => by simp at hi
  | a :: l, h, it, hi => by
    simp only [readOk, Bool.and_eq_true] at h
    rcases List.mem_cons.1 hi with rfl | hi
    · exact fun j o op last hj p hp hm => readOk1_ok h.1 j o op last hj p hp hm
    · exact readOk_ok h.2 it hi
theorem dstFree_ok {p : P3} : ∀ {l : List DIt}, dstFree p l = true → ∀ it ∈ l, it.oper.dst ≠ some p
  | [], h, it, hi => by simp at hi
  | a :: l, h, it, hi => by
    simp only [dstFree, Bool.and_eq_true] at h
    rcases List.mem_cons.1 hi with rfl | hi
    · intro e
      have := h.1
      rw [e] at this
      simp only [Bool.not_eq_true'] at this
      rw [(P3.same_iff p p).2 rfl] at this; cases this
    · exact dstFree_ok h.2 it hi
theorem dstOk_ok : ∀ {pre rest : List DIt}, dstOk (pre ++ rest) = true → (∀ i o op last, .ne i o op last ∈ pre → ∀ p, o.dst = some p → ∀ it ∈ rest, it.oper.dst ≠ some p) ∧ dstOk rest = true
  | [], rest, h => ⟨fun i o op last hi => by simp at hi, h⟩
  | .ne i' o' op' last' :: pre, rest, h => by
    simp only [List.cons_append, dstOk, Bool.and_eq_true] at h
    obtain ⟨q1, q2⟩ := dstOk_ok h.2
    refine ⟨fun i o op last hi p hp it hit => ?_, q2⟩
    rcases List.mem_cons.1 hi with hi | hi
    · injection hi with h1 h2 h3 h4; subst h2
      have := h.1
      rw [hp] at this
      exact dstFree_ok this it (by simp [hit])
    · exact q1 i o op last hi p hp it hit
  | .eff i' o' op' :: pre, rest, h => by
    simp only [List.cons_append, dstOk, Bool.and_eq_true] at h
    obtain ⟨q1, q2⟩ := dstOk_ok h.2
    refine ⟨fun i o op last hi p hp it hit => ?_, q2⟩
    rcases List.mem_cons.1 hi with hi | hi
    · cases hi
    · exact q1 i o op last hi p hp it hit

theorem ancOk1_ok {an : List Nat} {es : List Edge} {a : Nat} : ∀ {n : Nat}, ancOk1 an es a n = true → ∀ j, j < n → a.testBit j = true → ancBit an es j = true
  | 0, h, j, hj, hb => by omega
  | n + 1, h, j, hj, hb => by
    simp only [ancOk1, Bool.and_eq_true, Bool.or_eq_true, Bool.not_eq_true'] at h
    by_cases e : j = n
    · subst e
      rcases h.1 with h1 | h1
      · rw [hb] at h1; cases h1
      · exact h1
    · exact ancOk1_ok h.2 j (by omega) hb
theorem ancOk_ok {an : List Nat} : ∀ {l : List Oper} {i : Nat}, ancOk an l i = true → ∀ n o, l[n]? = some o → (∀ e ∈ o.after.toList, Region.binds .any e = true → e.on < i + n) ∧ ∀ j, (an.getD (i + n) 0).testBit j = true → ancBit an o.after.toList j = true
  | [], i, h, n, o, ho => by simp at ho
  | a :: l, i, h, n, o, ho => by
    simp only [ancOk, Bool.and_eq_true] at h
    obtain ⟨h1, h2, h3, h4⟩ := h
    cases n with
    | zero =>
      simp only [List.getElem?_cons_zero, Option.some.injEq] at ho; subst ho
      refine ⟨fun e he hb => ?_, fun j hj => ?_⟩
      · rw [List.all_eq_true] at h1
        have := h1 e he
        rw [hb] at this
        simp only [Bool.not_true, Bool.false_or, Nat.ble_eq] at this
        omega
      · rw [Nat.ble_eq] at h2
        refine ancOk1_ok h3 j ?_ hj
        rcases Nat.lt_or_ge j i with hlt | hge
        · exact hlt
        · have hlt2 : an.getD i 0 < 2 ^ j := Nat.lt_of_lt_of_le h2 (Nat.pow_le_pow_right (by omega) hge)
          rw [Nat.add_zero, Nat.testBit_lt_two_pow hlt2] at hj; cases hj
    | succ n =>
      have := ancOk_ok h4 n o (by simpa using ho)
      rw [show i + (n + 1) = i + 1 + n by omega]; exact this
theorem ancBit_ok {an : List Nat} {es : List Edge} {j : Nat} (h : ancBit an es j = true) : ∃ e ∈ es, Region.binds .any e = true ∧ (e.on = j ∨ (an.getD e.on 0).testBit j = true) := by
  unfold ancBit at h
  rw [List.any_eq_true] at h
  obtain ⟨e, h1, h2⟩ := h
  simp only [Bool.and_eq_true, Bool.or_eq_true, Nat.beq_eq] at h2
  exact ⟨e, h1, h2.1, h2.2⟩
end
end Go.Proofs.Ytpcocfdgcihpdaa.Eng
