/-
  THE ENGINE, PART Q: statements whose order is open: the schedules; part knowledge of the slots; what the evaluator has asked.
-/
import Derived.Test.YtpcocfdgcihpdaaEngP
namespace Go.Proofs.Ytpcocfdgcihpdaa.Eng
open Go
set_option linter.unusedVariables false
set_option linter.unusedSimpArgs false

/-! ### schedules -/
/-- an edge that binds -/
def dep (ops : Array Oper) (i j : Nat) : Prop := ∃ o, ops[i]? = some o ∧ ∃ e ∈ o.after.toList, Region.binds .any e = true ∧ e.on = j
/-- what is left of a schedule: each once, its edges' ends ahead of it -/
inductive Sched (ops : Array Oper) : (Nat → Prop) → List Nat → Prop
  | nil {S : Nat → Prop} : (∀ i, i < ops.size → S i) → Sched ops S []
  | cons {S : Nat → Prop} {i : Nat} {l : List Nat} : i < ops.size → ¬ S i → (∀ j, dep ops i j → S j) → Sched ops (fun x => x = i ∨ S x) l → Sched ops S (i :: l)

theorem ready_exists (ops : Array Oper) (hb : ∀ i j, dep ops i j → j < i) (listed : Array Bool) (hs : listed.size = ops.size) (i : Nat) (hi : i < ops.size) (hn : listed[i]? = some false) :
    ∃ j, j < ops.size ∧ listed[j]? = some false ∧ ∀ k, dep ops j k → listed[k]? = some true := by
  induction i using Nat.strongRecOn with
  | _ i ih =>
    by_cases h : ∀ k, dep ops i k → listed[k]? = some true
    · exact ⟨i, hi, hn, h⟩
    · obtain ⟨k, hk⟩ := Classical.not_forall.1 h
      obtain ⟨hd, hk⟩ := Classical.not_imp.1 hk
      have hlt := hb i k hd
      have hks : k < listed.size := by omega
      have : listed[k]? = some false := by
        rw [Array.getElem?_eq_getElem hks] at hk ⊢
        cases h2 : listed[k] with
        | true => rw [h2] at hk; exact absurd rfl hk
        | false => rfl
      exact ih k hlt (by omega) this

theorem count_set : ∀ (l : List Bool) (i : Nat), l[i]? = some false → ((l.set i true).filter (! ·)).length + 1 = (l.filter (! ·)).length
  | [], i, h => by simp at h
  | b :: l, 0, h => by
    simp only [List.getElem?_cons_zero, Option.some.injEq] at h; subst h
    simp
  | b :: l, i + 1, h => by
    have := count_set l i (by simpa using h)
    cases b <;> simp [List.filter_cons] at this ⊢ <;> omega

theorem linear_ok (ops : Array Oper) (hb : ∀ i j, dep ops i j → j < i) : ∀ (fuel t : Nat) (listed : Array Bool) (acc : List Nat), listed.size = ops.size → (listed.toList.filter (! ·)).length ≤ fuel →
    ∃ l, Region.linearise.go .any ops fuel t listed acc = acc.reverse ++ l ∧ Sched ops (fun i => listed[i]? = some true) l
  | 0, t, listed, acc, hs, hf => by
    refine ⟨[], by simp [Region.linearise.go], .nil fun i hi => ?_⟩
    have h0 : listed.toList.filter (! ·) = [] := List.eq_nil_of_length_eq_zero (by omega)
    rw [List.filter_eq_nil_iff] at h0
    have hi' : i < listed.size := by omega
    have := h0 listed[i] (by simp)
    rw [Array.getElem?_eq_getElem hi']
    simpa using this
  | fuel + 1, t, listed, acc, hs, hf => by
    unfold Region.linearise.go
    simp only
    generalize hrs : (List.range ops.size).filter (fun i => !listed.getD i true && ((ops[i]?).map (·.after.all fun e => !Region.binds .any e || listed.getD e.on false)).getD false) = rs
    have hmem : ∀ i, i ∈ rs ↔ i < ops.size ∧ listed[i]? = some false ∧ ∀ j, dep ops i j → listed[j]? = some true := by
      intro i
      rw [← hrs, List.mem_filter, List.mem_range]
      constructor
      · rintro ⟨hi, h⟩
        rw [Bool.and_eq_true] at h
        obtain ⟨h1, h2⟩ := h
        have hi' : i < listed.size := by omega
        refine ⟨hi, ?_, ?_⟩
        · rw [Array.getElem?_eq_getElem hi']
          simp [Array.getD, hi'] at h1; simpa using h1
        · rintro j ⟨o, ho, e, he, hbd, rfl⟩
          rw [ho] at h2
          simp only [Option.map_some, Option.getD_some] at h2
          rw [Array.all_eq_true_iff_forall_mem] at h2
          have := h2 e (by simpa using he)
          rw [hbd] at this
          simp only [Bool.not_true, Bool.false_or] at this
          by_cases hj : e.on < listed.size
          · rw [Array.getElem?_eq_getElem hj]; simp [Array.getD, hj] at this; simpa using this
          · simp [Array.getD, hj] at this
      · rintro ⟨hi, h1, h2⟩
        have hi' : i < listed.size := by omega
        refine ⟨hi, ?_⟩
        rw [Bool.and_eq_true]
        refine ⟨?_, ?_⟩
        · rw [Array.getElem?_eq_getElem hi'] at h1; simp [Array.getD, hi']; simpa using h1
        · have ho : ops[i]? = some ops[i] := by simp [hi]
          rw [ho]
          simp only [Option.map_some, Option.getD_some]
          rw [Array.all_eq_true_iff_forall_mem]
          intro e he
          cases hbd : Region.binds .any e with
          | false => rfl
          | true =>
            have := h2 e.on ⟨_, ho, e, by simpa using he, hbd, rfl⟩
            simp only [Bool.not_true, Bool.false_or]
            rw [Array.getD_eq_getD_getElem?, this]; rfl
    cases hpick : rs[t % rs.length]? with
    | none =>
      refine ⟨[], by simp, .nil fun i hi => ?_⟩
      have hempty : rs = [] := by
        rcases Nat.eq_zero_or_pos rs.length with h | h
        · exact List.eq_nil_of_length_eq_zero h
        · have := Nat.mod_lt t h
          rw [List.getElem?_eq_getElem this] at hpick; cases hpick
      have hi' : i < listed.size := by omega
      rw [Array.getElem?_eq_getElem hi']
      cases hli : listed[i] with
      | true => rfl
      | false =>
        obtain ⟨j, h1, h2, h3⟩ := ready_exists ops hb listed hs i hi (by rw [Array.getElem?_eq_getElem hi', hli])
        have := (hmem j).2 ⟨h1, h2, h3⟩
        rw [hempty] at this; cases this
    | some i =>
      have hi := (hmem i).1 (List.mem_of_getElem? hpick)
      obtain ⟨hi1, hi2, hi3⟩ := hi
      have hi' : i < listed.size := by omega
      have hcount : ((listed.setIfInBounds i true).toList.filter (! ·)).length ≤ fuel := by
        have := count_set listed.toList i (by simpa using hi2)
        simp only [Array.toList_setIfInBounds]
        omega
      obtain ⟨l, h1, h2⟩ := linear_ok ops hb fuel (t / rs.length) (listed.setIfInBounds i true) (i :: acc) (by simpa using hs) hcount
      refine ⟨i :: l, by simp only [h1]; simp, .cons hi1 (by rw [hi2]; simp) hi3 ?_⟩
      have : (fun x => (listed.setIfInBounds i true)[x]? = some true) = fun x => x = i ∨ listed[x]? = some true := by
        funext x
        rw [Array.getElem?_setIfInBounds]
        by_cases e : i = x
        · subst e; simp [hi']
        · rw [if_neg e]; simp [Ne.symm e]
      rw [← this]; exact h2

section
variable {β : Type} {P : Program} {r : β} {N : Nat}

/-! ### what is known of some slots alone -/
def TRelP (μ : Inj) (N : Nat) (t : Tm) (a : Act) (D : P3 → Prop) : Prop := a.tmps.size = N ∧ ∀ p : P3, ¬ D p → VRel μ (t.get p) (a.tmps.getD p.toNat undef)
theorem TRelP.mono {μ ν : Inj} {t : Tm} {a : Act} {D : P3 → Prop} (hl : Le μ ν) (ht : TRelP μ N t a D) : TRelP ν N t a D := ⟨ht.1, fun p hp => (ht.2 p hp).mono hl⟩

theorem compOpds_okP {μ : Inj} {t : Tm} {a : Act} {D : P3 → Prop} (ht : TRelP μ N t a D) : ∀ {os : List Operand} {cs : List COpd}, compOpds os = some cs → (∀ p ∈ opdP cs, ¬ D p) → ∀ {k' : List AV → Option β}, evL cs t k' = some r → ∃ vs, k' vs = some r ∧ VRels μ vs (os.map a.eval)
  | [], cs, hc, hd, k', hk => by
    simp only [compOpds, Option.some.injEq] at hc; subst hc
    exact ⟨[], hk, by simp [VRels]⟩
  | o :: os, cs, hc, hd, k', hk => by
    simp only [compOpds] at hc
    split at hc
    · rename_i c1 c2 h1 h2
      injection hc with hc; subst hc
      simp only [evL] at hk
      have key : ∃ v, (evL c2 t fun vs => k' (v :: vs)) = some r ∧ VRel μ v (a.eval o) := by
        cases o with
        | tmp n =>
          simp only [compOpd] at h1
          split at h1
          · rename_i hn
            injection h1 with h1; subst h1
            simp only [evK, avK_eq] at hk
            have := ht.2 (.ofNat n) (hd _ (by simp [opdP]))
            rw [P3.toNat_ofNat n hn] at this
            exact ⟨_, hk, this⟩
          · cases h1
        | const v =>
          simp only [compOpd, Option.map_eq_some_iff] at h1
          obtain ⟨v', hv, rfl⟩ := h1
          exact ⟨v', hk, toAV_ok hv μ⟩
        | func f =>
          simp only [compOpd, Option.some.injEq] at h1; subst h1
          refine ⟨_, hk, ?_⟩
          simp only [VRel, Act.eval]
          exact ⟨#[], #[], rfl, by simp [VRels], by simp [VRels]⟩
        | global g => cases h1
      obtain ⟨v, hk, hv⟩ := key
      obtain ⟨vs, hk, hvs⟩ := compOpds_okP ht h2 (fun p hp => hd p (by cases c1 <;> simp [opdP, hp])) hk
      exact ⟨_, hk, by simp only [List.map_cons, VRels]; exact ⟨_, _, rfl, hv, hvs⟩⟩
    · cases hc
theorem guard_okP {μ : Inj} {t : Tm} {a : Act} {D : P3 → Prop} (hN : N ≤ 512) (ht : TRelP μ N t a D) {ops : Array Oper} {o : Oper} {g : Option (P3 × Bool)} (hg : compGuard ops N o.guard = some g) (hd : ∀ p b, g = some (p, b) → ¬ D p) {yes no : Option β} (hk : guardK g t yes no = some r) :
    (Region.wanted o (yielded ops a.tmps) = true ∧ yes = some r) ∨ (Region.wanted o (yielded ops a.tmps) = false ∧ no = some r) := by
  cases hgo : o.guard with
  | none =>
    rw [hgo] at hg
    simp only [compGuard, Option.some.injEq] at hg; subst hg
    exact .inl ⟨by simp [Region.wanted, hgo], hk⟩
  | some jb =>
    obtain ⟨j, b⟩ := jb
    rw [hgo] at hg
    simp only [compGuard] at hg
    split at hg
    · rename_i o' ho'
      split at hg
      · rename_i d hd'
        split at hg
        · rename_i hlt
          injection hg with hg; subst hg
          have hv := ht.2 (.ofNat d) (hd _ _ rfl)
          rw [P3.toNat_ofNat d (Nat.lt_of_lt_of_le hlt hN), Array.getD_eq_getD_getElem?] at hv
          have hsome : ∃ y, a.tmps[d]? = some y := ⟨a.tmps[d]'(by rw [ht.1]; exact hlt), by simp [ht.1, hlt]⟩
          obtain ⟨y, hy⟩ := hsome
          rw [hy] at hv
          simp only [Option.getD_some] at hv
          have hyl : yielded ops a.tmps j = match y with | .bool b => some b | _ => none := by
            simp only [yielded, ho', Option.bind_some, hd', hy]
            cases y <;> rfl
          simp only [guardK] at hk
          split at hk
          · rename_i bb hbb
            rw [hbb] at hv
            simp only [VRel] at hv; subst hv
            split at hk
            · rename_i e
              left; refine ⟨?_, hk⟩
              simp only [Region.wanted, hgo, hyl]; simpa using e
            · rename_i e
              right; refine ⟨?_, hk⟩
              simp only [Region.wanted, hgo, hyl]; simpa using e
          · rename_i bb gg hbb
            rw [hbb] at hv
            simp only [VRel] at hv; subst hv
            split at hk
            · rcases symFork_ok hk with ⟨e, hk⟩ | ⟨e, hk⟩
              · left; refine ⟨?_, hk⟩
                simp only [Region.wanted, hgo, hyl]; simpa using e
              · right; refine ⟨?_, hk⟩
                simp only [Region.wanted, hgo, hyl]; simpa using e
            · rcases symFork_ok hk with ⟨e, hk⟩ | ⟨e, hk⟩
              · right; refine ⟨?_, hk⟩
                simp only [Region.wanted, hgo, hyl]; simpa using e
              · left; refine ⟨?_, hk⟩
                simp only [Region.wanted, hgo, hyl]; simpa using e
          · rename_i l hl
            rw [hl] at hv
            simp only [VRel] at hv; obtain ⟨cs, rfl, _⟩ := hv
            right; refine ⟨?_, hk⟩
            simp only [Region.wanted, hgo, hyl]; rfl
          · cases hk
        · cases hg
      · cases hg
    · cases hg
end
end Go.Proofs.Ytpcocfdgcihpdaa.Eng
