/-
  THE ENGINE, PART Q: statements whose order is open: the schedules; part knowledge of the slots; what the evaluator has asked.
-/
import Derived.Test.YtkejnhmhbmbhcaaEngP
set_option maxHeartbeats 64000000
set_option maxRecDepth 1000000
set_option linter.unusedVariables false
set_option linter.unusedSimpArgs false
set_option maxHeartbeats 64000000
set_option maxHeartbeats 64000000
set_option maxHeartbeats 64000000
set_option maxHeartbeats 64000000
namespace Go.Proofs.Ytkejnhmhbmbhcaa.Eng
open Go
/-! ### schedules -/
def dep (ops : Array Oper) (i j : Nat) : Prop := ∃ o, ops[i]? = some o ∧ ∃ e ∈ o.after.toList, Region.binds .any e = true ∧ e.on = j
inductive Sched (ops : Array Oper) : (Nat → Prop) → List Nat → Prop
  | nil {S : Nat → Prop} : (∀ i, i < ops.size → S i) → Sched ops S []
  | cons {S : Nat → Prop} {i : Nat} {l : List Nat} : i < ops.size → ¬ S i → (∀ j, dep ops i j → S j) → Sched ops (fun x => x = i ∨ S x) l → Sched ops S (i :: l)
theorem ready_exists (ops : Array Oper) (hb : ∀ i j, dep ops i j → j < i) (listed : Array Bool) (hs : listed.size = ops.size) (i : Nat) (hi : i < ops.size) (hn : listed[i]? = some false) :
    ∃ j, j < ops.size ∧ listed[j]? = some false ∧ ∀ k, dep ops j k → listed[k]? = some true := by
  induction i using Nat.strongRecOn with
  | _ i ih =>
    by_cases h : ∀ k, dep ops i k → listed[k]? = some true
    · exact ⟨i, hi, hn, h⟩
    · obtain ⟨k, hk⟩ := Classical.not_forall.1 h
      obtain ⟨hd, hk⟩ := Classical.not_imp.1 hk
      have hlt := hb i k hd
      have hks : k < listed.size := by omega
      have : listed[k]? = some false := by
        rw [Array.getElem?_eq_getElem hks] at hk ⊢
        cases h2 : listed[k] with
        | true => rw [h2] at hk; exact absurd rfl hk
        | false => rfl
      exact ih k hlt (by omega) this
theorem count_set : ∀ (l : List Bool) (i : Nat), l[i]? = some false → ((l.set i true).filter (! ·)).length + 1 = (l.filter (! ·)).length
  | [], i, h => by simp at h
  | b :: l, 0, h => by
    simp only [List.getElem?_cons_zero, Option.some.injEq] at h; subst h
    simp
  | b :: l, i + 1, h => by
    have := count_set l i (by simpa using h)
    cases b <;> simp [List.filter_cons] at this ⊢ <;> omega
theorem linear_ok (ops : Array Oper) (hb : ∀ i j, dep ops i j → j < i) : ∀ (fuel t : Nat) (listed : Array Bool) (acc : List Nat), listed.size = ops.size → (listed.toList.filter (! ·)).length ≤ fuel →
    ∃ l, Region.linearise.go .any ops fuel t listed acc = acc.reverse ++ l ∧ Sched ops (fun i => listed[i]? = some true) l
  | 0, t, listed, acc, hs, hf => by
    refine ⟨[], by simp [Region.linearise.go], .nil fun i hi => ?_⟩
    have h0 : listed.toList.filter (! ·) = [] := List.eq_nil_of_length_eq_zero (by omega)
    rw [List.filter_eq_nil_iff] at h0
    have hi' : i < listed.size := by omega
    have := h0 listed[i] (by simp)
    rw [Array.getElem?_eq_getElem hi']
    simpa using this
  | fuel + 1, t, listed, acc, hs, hf => by
    unfold Region.linearise.go
    simp only
    generalize hrs : (List.range ops.size).filter (fun i => !listed.getD i true && ((ops[i]?).map (·.after.all fun e => !Region.binds .any e || listed.getD e.on false)).getD false) = rs
    have hmem : ∀ i, i ∈ rs ↔ i < ops.size ∧ listed[i]? = some false ∧ ∀ j, dep ops i j → listed[j]? = some true := by
      intro i
      rw [← hrs, List.mem_filter, List.mem_range]
      constructor
      · rintro ⟨hi, h⟩
        rw [Bool.and_eq_true] at h
        obtain ⟨h1, h2⟩ := h
        have hi' : i < listed.size := by omega
        refine ⟨hi, ?_, ?_⟩
        · rw [Array.getElem?_eq_getElem hi']
          simp [Array.getD, hi'] at h1; simpa using h1
        · rintro j ⟨o, ho, e, he, hbd, rfl⟩
          rw [ho] at h2
          simp only [Option.map_some, Option.getD_some] at h2
          rw [Array.all_eq_true_iff_forall_mem] at h2
          have := h2 e (by simpa using he)
          rw [hbd] at this
          simp only [Bool.not_true, Bool.false_or] at this
          by_cases hj : e.on < listed.size
          · rw [Array.getElem?_eq_getElem hj]; simp [Array.getD, hj] at this; simpa using this
          · simp [Array.getD, hj] at this
      · rintro ⟨hi, h1, h2⟩
        have hi' : i < listed.size := by omega
        refine ⟨hi, ?_⟩
        rw [Bool.and_eq_true]
        refine ⟨?_, ?_⟩
        · rw [Array.getElem?_eq_getElem hi'] at h1; simp [Array.getD, hi']; simpa using h1
        · have ho : ops[i]? = some ops[i] := by simp [hi]
          rw [ho]
          simp only [Option.map_some, Option.getD_some]
          rw [Array.all_eq_true_iff_forall_mem]
          intro e he
          cases hbd : Region.binds .any e with
          | false => rfl
          | true =>
            have := h2 e.on ⟨_, ho, e, by simpa using he, hbd, rfl⟩
            simp only [Bool.not_true, Bool.false_or]
            rw [Array.getD_eq_getD_getElem?, this]; rfl
    cases hpick : rs[t % rs.length]? with
    | none =>
      refine ⟨[], by simp, .nil fun i hi => ?_⟩
      have hempty : rs = [] := by
        rcases Nat.eq_zero_or_pos rs.length with h | h
        · exact List.eq_nil_of_length_eq_zero h
        · have := Nat.mod_lt t h
          rw [List.getElem?_eq_getElem this] at hpick; cases hpick
      have hi' : i < listed.size := by omega
      rw [Array.getElem?_eq_getElem hi']
      cases hli : listed[i] with
      | true => rfl
      | false =>
        obtain ⟨j, h1, h2, h3⟩ := ready_exists ops hb listed hs i hi (by rw [Array.getElem?_eq_getElem hi', hli])
        have := (hmem j).2 ⟨h1, h2, h3⟩
        rw [hempty] at this; cases this
    | some i =>
      have hi := (hmem i).1 (List.mem_of_getElem? hpick)
      obtain ⟨hi1, hi2, hi3⟩ := hi
      have hi' : i < listed.size := by omega
      have hcount : ((listed.setIfInBounds i true).toList.filter (! ·)).length ≤ fuel := by
        have := count_set listed.toList i (by simpa using hi2)
        simp only [Array.toList_setIfInBounds]
        omega
      obtain ⟨l, h1, h2⟩ := linear_ok ops hb fuel (t / rs.length) (listed.setIfInBounds i true) (i :: acc) (by simpa using hs) hcount
      refine ⟨i :: l, by simp only [h1]; simp, .cons hi1 (by rw [hi2]; simp) hi3 ?_⟩
      have : (fun x => (listed.setIfInBounds i true)[x]? = some true) = fun x => x = i ∨ listed[x]? = some true := by
        funext x
        rw [Array.getElem?_setIfInBounds]
        by_cases e : i = x
        · subst e; simp [hi']
        · rw [if_neg e]; simp [Ne.symm e]
      rw [← this]; exact h2
section
variable {β : Type} {P : Program} {r : β} {N : Nat}
/-! ### what is known of some slots alone -/
def TRelP (μ : Inj) (N : Nat) (t : Tm) (a : Act) (D : P3 → Prop) : Prop := a.tmps.size = N ∧ ∀ p : P3, ¬ D p → VRel μ (t.get p) (a.tmps.getD p.toNat undef)
theorem TRelP.mono {μ ν : Inj} {t : Tm} {a : Act} {D : P3 → Prop} (hl : Le μ ν) (ht : TRelP μ N t a D) : TRelP ν N t a D := ⟨ht.1, fun p hp => (ht.2 p hp).mono hl⟩
theorem compOpds_okP {μ : Inj} {t : Tm} {a : Act} {D : P3 → Prop} (ht : TRelP μ N t a D) : ∀ {os : List Operand} {cs : List COpd}, compOpds os = some cs → (∀ p ∈ opdP cs, ¬ D p) → ∀ {k' : List AV → Option β}, evL cs t k' = some r → ∃ vs, k' vs = some r ∧ VRels μ vs (os.map a.eval)
  | [], cs, hc, hd, k', hk => by
    simp only [compOpds, Option.some.injEq] at hc; subst hc
    exact ⟨[], hk, by simp [VRels]⟩
  | o :: os, cs, hc, hd, k', hk => by
    simp only [compOpds] at hc
    split at hc
    · rename_i c1 c2 h1 h2
      injection hc with hc; subst hc
      simp only [evL] at hk
      have key : ∃ v, (evL c2 t fun vs => k' (v :: vs)) = some r ∧ VRel μ v (a.eval o) := by
        cases o with
        | tmp n =>
          simp only [compOpd] at h1
          split at h1
          · rename_i hn
            injection h1 with h1; subst h1
            simp only [evK, avK_eq] at hk
            have := ht.2 (.ofNat n) (hd _ (by simp [opdP]))
            rw [P3.toNat_ofNat n hn] at this
            exact ⟨_, hk, this⟩
          · cases h1
        | const v =>
          simp only [compOpd, Option.map_eq_some_iff] at h1
          obtain ⟨v', hv, rfl⟩ := h1
          exact ⟨v', hk, toAV_ok hv μ⟩
        | func f =>
          simp only [compOpd, Option.some.injEq] at h1; subst h1
          refine ⟨_, hk, ?_⟩
          simp only [VRel, Act.eval]
          exact ⟨#[], #[], rfl, by simp [VRels], by simp [VRels]⟩
        | global g => cases h1
      obtain ⟨v, hk, hv⟩ := key
      obtain ⟨vs, hk, hvs⟩ := compOpds_okP ht h2 (fun p hp => hd p (by cases c1 <;> simp [opdP, hp])) hk
      exact ⟨_, hk, by simp only [List.map_cons, VRels]; exact ⟨_, _, rfl, hv, hvs⟩⟩
    · cases hc
theorem guard_okP {μ : Inj} {t : Tm} {a : Act} {D : P3 → Prop} (hN : N ≤ 512) (ht : TRelP μ N t a D) {ops : Array Oper} {o : Oper} {g : Option (P3 × Bool)} (hg : compGuard ops N o.guard = some g) (hd : ∀ p b, g = some (p, b) → ¬ D p) {yes no : Option β} (hk : guardK g t yes no = some r) :
    (Region.wanted o (yielded ops a.tmps) = true ∧ yes = some r) ∨ (Region.wanted o (yielded ops a.tmps) = false ∧ no = some r) := by
  cases hgo : o.guard with
  | none =>
    rw [hgo] at hg
    simp only [compGuard, Option.some.injEq] at hg; subst hg
    exact .inl ⟨by simp [Region.wanted, hgo], hk⟩
  | some jb =>
    obtain ⟨j, b⟩ := jb
    rw [hgo] at hg
    simp only [compGuard] at hg
    split at hg
    · rename_i o' ho'
      split at hg
      · rename_i d hd'
        split at hg
        · rename_i hlt
          injection hg with hg; subst hg
          have hv := ht.2 (.ofNat d) (hd _ _ rfl)
          rw [P3.toNat_ofNat d (Nat.lt_of_lt_of_le hlt hN), Array.getD_eq_getD_getElem?] at hv
          have hsome : ∃ y, a.tmps[d]? = some y := ⟨a.tmps[d]'(by rw [ht.1]; exact hlt), by simp [ht.1, hlt]⟩
          obtain ⟨y, hy⟩ := hsome
          rw [hy] at hv
          simp only [Option.getD_some] at hv
          have hyl : yielded ops a.tmps j = match y with | .bool b => some b | _ => none := by
            simp only [yielded, ho', Option.bind_some, hd', hy]
            cases y <;> rfl
          simp only [guardK] at hk
          split at hk
          · rename_i bb hbb
            rw [hbb] at hv
            simp only [VRel] at hv; subst hv
            split at hk
            · rename_i e
              left; refine ⟨?_, hk⟩
              simp only [Region.wanted, hgo, hyl]; simpa using e
            · rename_i e
              right; refine ⟨?_, hk⟩
              simp only [Region.wanted, hgo, hyl]; simpa using e
          · rename_i bb gg hbb
            rw [hbb] at hv
            simp only [VRel] at hv; subst hv
            split at hk
            · rcases symFork_ok hk with ⟨e, hk⟩ | ⟨e, hk⟩
              · left; refine ⟨?_, hk⟩
                simp only [Region.wanted, hgo, hyl]; simpa using e
              · right; refine ⟨?_, hk⟩
                simp only [Region.wanted, hgo, hyl]; simpa using e
            · rcases symFork_ok hk with ⟨e, hk⟩ | ⟨e, hk⟩
              · right; refine ⟨?_, hk⟩
                simp only [Region.wanted, hgo, hyl]; simpa using e
              · left; refine ⟨?_, hk⟩
                simp only [Region.wanted, hgo, hyl]; simpa using e
          · rename_i l hl
            rw [hl] at hv
            simp only [VRel] at hv; obtain ⟨cs, rfl, _⟩ := hv
            right; refine ⟨?_, hk⟩
            simp only [Region.wanted, hgo, hyl]; rfl
          · cases hk
        · cases hg
      · cases hg
    · cases hg
end
end Go.Proofs.Ytkejnhmhbmbhcaa.Eng
namespace Go.Proofs.Ytkejnhmhbmbhcaa.Eng
open Go
/-! ### sameness -/
theorem AObj.sameK_ok {β : Type} {r : β} {a b : AObj} {c : Option β} (h : AObj.sameK a b c = some r) : a = b ∧ c = some r := by
  unfold AObj.sameK at h
  split at h
  · obtain ⟨e, h⟩ := AV.samesK_ok _ _ _ h; exact ⟨by rw [e], h⟩
  · split at h
    · rename_i e; rw [Nat.beq_eq] at e
      obtain ⟨e', h⟩ := AV.samesK_ok _ _ _ h; exact ⟨by rw [e, e'], h⟩
    · cases h
  · split at h
    · rename_i e; rw [Nat.beq_eq] at e; exact ⟨by rw [e], h⟩
    · cases h
  · cases h
theorem obSame_ok {β : Type} {r : β} {a b : Option AObj} {c : Option β} (h : obSame a b c = some r) : a = b ∧ c = some r := by
  unfold obSame at h
  split at h
  · exact ⟨rfl, h⟩
  · obtain ⟨e, h⟩ := AObj.sameK_ok h; exact ⟨by rw [e], h⟩
  · cases h
theorem sameAs_ok {β : Type} {r : β} {h : Hp} {p : Pend} {v : AV} {ob : Option AObj} {c : Option β} (e : sameAs h p v ob c = some r) : c = some r ∧ v = p.v ∧ ob = p.ob ∧ ∀ o, p.ob = some o → h.get p.id = o := by
  unfold sameAs at e
  obtain ⟨h1, e⟩ := AV.sameK_ok _ _ _ e
  obtain ⟨h2, e⟩ := obSame_ok e
  cases ho : p.ob with
  | none => rw [ho] at e h2; exact ⟨e, h1, h2, fun o ho' => by cases ho'⟩
  | some ob' =>
    rw [ho] at e h2
    obtain ⟨h3, e⟩ := AObj.sameK_ok e
    exact ⟨e, h1, h2, fun o ho' => by injection ho' with ho'; rw [← ho']; exact h3⟩
theorem P3.same_iff (p q : P3) : P3.same p q = true ↔ p = q := by
  obtain ⟨x, y, z⟩ := p; obtain ⟨x', y', z'⟩ := q
  simp only [P3.same, Bool.and_eq_true, D8.beq_iff, P3.mk.injEq]
  exact ⟨fun ⟨h1, h2, h3⟩ => ⟨h3, h2, h1⟩, fun ⟨h1, h2, h3⟩ => ⟨h3, h2, h1⟩⟩
section
variable {β : Type} {P : Program} {r : β} {N : Nat}
theorem checkAll_ok {st : Nat} {t : Tm} {h : Hp} : ∀ {ps : List Pend} {k : Option β}, checkAll st t h ps k = some r → k = some r ∧ ∀ p ∈ ps, st ≤ p.last → neR p.o p.op t h p.id = some (p.v, p.ob) ∧ ∀ o, p.ob = some o → h.get p.id = o
  | [], k, hk => ⟨hk, fun p hp => by cases hp⟩
  | q :: ps, k, hk => by
    simp only [checkAll] at hk
    unfold checkOne at hk
    split at hk
    · rename_i hf
      obtain ⟨h1, h2⟩ := checkAll_ok hk
      refine ⟨h1, fun p hp hle => ?_⟩
      rcases List.mem_cons.1 hp with rfl | hp
      · rw [← Nat.ble_eq] at hle; rw [hle] at hf; cases hf
      · exact h2 p hp hle
    · split at hk
      · rename_i v ob hv
        obtain ⟨hk, s1, s2, s3⟩ := sameAs_ok hk
        obtain ⟨h1, h2⟩ := checkAll_ok hk
        refine ⟨h1, fun p hp hle => ?_⟩
        rcases List.mem_cons.1 hp with rfl | hp
        · rw [hv, s1, s2]; exact ⟨rfl, fun o ho => s3 o ho⟩
        · exact h2 p hp hle
      · cases hk
theorem HR.push' {μ : Inj} {h : Hp} {w : World} {x : Bid} (hr : HR μ h.get w) (hx : μ x = none) {o : AObj} (hg : h.get x = o) (ho : live o = true) {w' : World} {hob : Obj} (hw : w'.heap = w.heap.push hob) (h1 : w'.os = w.os) (h2 : w'.tape = w.tape) (h3 : w'.output = w.output) (c : Nat)
    (hrel : ObjRel (upd μ x ⟨w.heap.size, 0, c⟩) w' ⟨w.heap.size, 0, c⟩ o) {μ0 : Inj} {g0 : Bid → AObj} {w0 : World} (hf : Fr μ0 g0 w0 μ h.get w) (h0 : g0 x = .no) :
    HR (upd μ x ⟨w.heap.size, 0, c⟩) h.get w' ∧ Fr μ0 g0 w0 (upd μ x ⟨w.heap.size, 0, c⟩) h.get w' := by
  have hne : ∀ b l, μ b = some l → b ≠ x := fun b l hb e => by rw [e, hx] at hb; cases hb
  have hr1 : HR μ (h.put x .no).get w := by
    refine ⟨fun b l hb => ?_, fun b b' l l' hb hb' e1 e2 e3 => ?_, hr.gl.sub fun c hu => ?_⟩
    rotate_left 2
    · obtain ⟨b, l, hb, hl, e⟩ := hu
      rw [Hp.get_put_ne _ _ (hne b l hb)] at hl
      exact ⟨b, l, hb, hl, e⟩
    · rw [Hp.get_put_ne _ _ (hne b l hb)]; exact hr.ok b l hb
    · rw [Hp.get_put_ne _ _ (hne b l hb)] at e1
      rw [Hp.get_put_ne _ _ (hne b' l' hb')] at e2
      exact hr.inj b b' l l' hb hb' e1 e2 e3
  have hf1 : Fr μ0 g0 w0 μ (h.put x .no).get w := by
    refine ⟨hf.le, hf.new, hf.os, hf.tape, hf.output, hf.size, hf.same, fun i hu => ?_, fun b hb => ?_⟩
    · obtain ⟨b, l, hb, hl, e⟩ := hu
      rw [Hp.get_put_ne _ _ (hne b l hb)] at hl
      exact hf.used i ⟨b, l, hb, hl, e⟩
    · have : b ≠ x := fun e => by rw [e] at hb; exact hb h0
      rw [Hp.get_put_ne _ _ this]; exact hf.pres b hb
  obtain ⟨q1, q2⟩ := hr1.push (by rw [Hp.get_put_self]) ho hw h1 h2 h3 c hrel
  have he : ((h.put x .no).put x o).get = h.get := by
    funext b
    rw [Hp.get_put, Hp.get_put]
    split
    · rename_i e; rw [e, hg]
    · rfl
  rw [he] at q1 q2
  exact ⟨q1, hf1.trans q2⟩
theorem ne_step {μ : Inj} {t : Tm} {h : Hp} {x : Bid} {a : Act} {w : World} {D : P3 → Prop} (hN : N ≤ 512) {ops : Array Oper} {o : Oper} {co : COper} {op : NOp} (hc : compOper P N ops o = some co) (hop : co.op = .ne op)
    (ht : TRelP μ N t a D) (hr : HR μ h.get w) (hd : ∀ p ∈ readsP co, ¬ D p) {v : AV} {ob : Option AObj} (hx : ob ≠ none → μ x = none) (hk : neR co op t h x = some (v, ob))
    (next : Act → World → Prop) (Q : Exit → Act → World → Prop) (hn : ∀ cv w', NRes μ w x ob v cv w' → next (a.put o.dst cv) w') : Step P ops o a w next Q := by
  have hn0 : ∀ {b : Bool}, Region.wanted o (yielded ops a.tmps) = false → (some (AV.tup [], (none : Option AObj))) = some (v, ob) → Step P ops o a w next Q := by
    intro _ hw hk
    injection hk with hk; injection hk with h1 h2; subst h1 h2
    unfold Step
    rw [hw]
    simp only [Bool.false_eq_true, if_false]
    exact hn undef w ⟨rfl, rfl, rfl, rfl, by simp only [VRel]; exact ⟨#[], rfl, by simp [VRels]⟩⟩
  unfold compOper at hc
  split at hc
  · rename_i d g hdst hg
    split at hc
    · rename_i e xs he
      split at hc
      · injection hc with hc; rw [← hc] at hop; cases hop
      · injection hc with hc
        rw [← hc] at hop hk hd
        injection hop with hop
        subst hop
        simp only [neR] at hk
        rcases guard_okP (r := (v, ob)) hN ht hg (fun p b hgb => hd p (by rw [hgb]; simp [readsP])) hk with ⟨hw, hk⟩ | ⟨hw, hk⟩
        · simp [evL, nrun, badF] at hk
        · exact hn0 (b := true) hw hk
    · split at hc
      · rename_i he as has
        injection hc with hc
        rw [← hc] at hop hk hd
        injection hop with hop
        subst hop
        simp only [neR] at hk
        rcases guard_okP (r := (v, ob)) hN ht hg (fun p b hgb => hd p (by rw [hgb]; simp [readsP])) hk with ⟨hw, hk⟩ | ⟨hw, hk⟩
        · unfold Step
          rw [if_pos hw]; left
          obtain ⟨vs, hk, hvs⟩ := compOpds_okP ht has (fun p hp => hd p (by simp only [readsP]; cases g <;> simp [hp])) hk
          obtain ⟨v', ob', h1, cv, w', h2, h3⟩ := nrun_ok (P := P) (x := x) hr (fun v' o' hvo => hx (by injection hvo with e; injection e with _ e; rw [← e]; simp)) (fun _ => rfl) (fun _ => rfl) hvs hk
          injection h1 with h1; injection h1 with e1 e2; subst e1 e2
          unfold Oper.wp
          rw [h2]
          exact hn cv w' h3
        · exact hn0 (b := true) hw hk
      · rename_i he as has
        injection hc with hc
        rw [← hc] at hop hk hd
        injection hop with hop
        subst hop
        simp only [neR] at hk
        rcases guard_okP (r := (v, ob)) hN ht hg (fun p b hgb => hd p (by rw [hgb]; simp [readsP])) hk with ⟨hw, hk⟩ | ⟨hw, hk⟩
        · simp [evL, nrun, badF] at hk
        · exact hn0 (b := true) hw hk
  · cases hc
theorem dst_okP {μ : Inj} {t : Tm} {a : Act} {D : P3 → Prop} (hN : N ≤ 512) (ht : TRelP μ N t a D) {d : Option Nat} {p : Option P3} (hd : compDst N d = some p) {v : AV} {cv : Value} (hv : VRel μ v cv) {k' : Tm → Option β} (hk : dstK p v t k' = some r) :
    ∃ t', k' t' = some r ∧ TRelP μ N t' (a.put d cv) D ∧ (a.put d cv).defers = a.defers ∧ ∀ q, p ≠ some q → t'.get q = t.get q := by
  cases d with
  | none =>
    simp only [compDst, Option.some.injEq] at hd; subst hd
    exact ⟨t, hk, ht, rfl, fun _ _ => rfl⟩
  | some d =>
    simp only [compDst] at hd
    split at hd
    · rename_i hlt
      injection hd with hd; subst hd
      simp only [dstK, Tm.putK_eq] at hk
      have hdn := P3.toNat_ofNat d (by omega)
      refine ⟨_, hk, ⟨by simp [Act.put, ht.1], fun p hp => ?_⟩, rfl, fun q hq => by rw [Tm.get_put, if_neg (fun e => hq (by rw [e]))]⟩
      rw [Tm.get_put]
      simp only [Act.put]
      split
      · rename_i e; subst e; rw [hdn]
        simp [Array.getD_eq_getD_getElem?, ht.1, hlt]; exact hv
      · rename_i e
        have hne : d ≠ p.toNat := fun e' => e (P3.toNat_inj (by rw [hdn]; exact e'.symm))
        have := ht.2 p hp
        rw [Array.getD_eq_getD_getElem?] at this ⊢
        rw [Array.getElem?_setIfInBounds, if_neg hne]; exact this
    · cases hd
theorem dst_known {μ : Inj} {t : Tm} {a : Act} {D D' : P3 → Prop} (hN : N ≤ 512) (ht : TRelP μ N t a D) {d : Option Nat} {p : Option P3} (hd : compDst N d = some p) {cv : Value} (hv : ∀ q, p = some q → VRel μ (t.get q) cv) (hD : ∀ q, p ≠ some q → ¬ D' q → ¬ D q) :
    TRelP μ N t (a.put d cv) D' ∧ (a.put d cv).defers = a.defers := by
  cases d with
  | none =>
    simp only [compDst, Option.some.injEq] at hd; subst hd
    exact ⟨⟨ht.1, fun q hq => ht.2 q (hD q (by simp) hq)⟩, rfl⟩
  | some d =>
    simp only [compDst] at hd
    split at hd
    · rename_i hlt
      injection hd with hd; subst hd
      have hdn := P3.toNat_ofNat d (by omega)
      refine ⟨⟨by simp [Act.put, ht.1], fun q hq => ?_⟩, rfl⟩
      simp only [Act.put]
      by_cases e : P3.ofNat d = q
      · subst e
        rw [hdn]
        simp [Array.getD_eq_getD_getElem?, ht.1, hlt]; exact hv _ rfl
      · have hne : d ≠ q.toNat := fun e' => e (P3.toNat_inj (by rw [hdn]; exact e'))
        have := ht.2 q (hD q (fun e' => e (by injection e')) hq)
        rw [Array.getD_eq_getD_getElem?] at this ⊢
        rw [Array.getElem?_setIfInBounds, if_neg hne]; exact this
    · cases hd
theorem operK_okP (hN : N ≤ 512) {call : CALL β} (hcall : CallOK P call) {ops : Array Oper} {o : Oper} {co : COper} (hc : compOper P N ops o = some co) {μ : Inj} {t : Tm} {h : Hp} {x : Bid} {a : Act} {w : World} {D : P3 → Prop}
    (ht : TRelP μ N t a D) (hr : HR μ h.get w) (hdf : a.defers = []) (hd : ∀ p ∈ readsP co, ¬ D p) {k : KT β} (hk : operK P call co t h x k = some r)
    (next : Act → World → Prop) (Q : Exit → Act → World → Prop) (hn : ∀ t' h' x' a' w' μ', k t' h' x' = some r → TRelP μ' N t' a' D → HR μ' h'.get w' → a'.defers = [] → Fr μ h.get w μ' h'.get w' → (∀ q, co.dst ≠ some q → t'.get q = t.get q) → next a' w') : Step P ops o a w next Q := by
  unfold compOper at hc
  split at hc
  · rename_i d g hdst hg
    have key : ∀ (op : COp) (xs : List Operand) (as : List COpd), compOpds xs = some as → ((∃ e, compEF P o.op = some (e, xs) ∧ op = .eff e) ∨ (op = .ne (compNE P o.op).1 ∧ xs = (compNE P o.op).2) ∨ (op = .ne .bad)) → co = ⟨d, g, op, as⟩ → Step P ops o a w next Q := by
      intro op xs as has hop hco
      subst hco
      unfold operK at hk
      unfold Step
      rcases guard_okP hN ht hg (fun p b hgb => hd p (by rw [hgb]; simp [readsP])) hk with ⟨hw, hk⟩ | ⟨hw, hk⟩
      · rw [if_pos hw]; left
        obtain ⟨vs, hk, hvs⟩ := compOpds_okP ht has (fun p hp => hd p (by simp only [readsP]; cases g <;> simp [hp])) hk
        have hsim : OSim P μ h w o a (fun v h x => dstK d v t fun t => k t h x) r := by
          rcases hop with hop | hop | rfl
          · exact opRun_ok hcall hr (.inl hop) hvs hk
          · exact opRun_ok hcall hr (.inr hop) hvs hk
          · simp [opRun, nrun, badF] at hk
        refine hsim next Q fun v h' x' cv w' μ' hkv hv hr' hf => ?_
        obtain ⟨t', hk', ht', hdf', hg'⟩ := dst_okP hN (ht.mono hf.le) hdst hv hkv
        exact hn _ _ _ _ _ _ hk' ht' hr' (by rw [hdf']; exact hdf) hf hg'
      · rw [hw]
        simp only [Bool.false_eq_true, if_false]
        obtain ⟨t', hk', ht', hdf', hg'⟩ := dst_okP hN ht hdst (v := .tup []) (cv := undef) (by simp only [VRel]; exact ⟨#[], rfl, by simp [VRels]⟩) hk
        exact hn _ _ _ _ _ _ hk' ht' hr (by rw [hdf']; exact hdf) (Fr.refl _ _ _) hg'
    split at hc
    · rename_i e xs he
      split at hc
      · rename_i as has
        injection hc with hc
        exact key _ xs as has (.inl ⟨e, he, rfl⟩) hc.symm
      · injection hc with hc
        exact key _ [] [] rfl (.inr (.inr rfl)) hc.symm
    · rename_i he
      split at hc
      · rename_i as has
        injection hc with hc
        exact key _ _ as has (.inr (.inl ⟨rfl, rfl⟩)) hc.symm
      · injection hc with hc
        exact key _ [] [] rfl (.inr (.inr rfl)) hc.symm
  · cases hc
end
end Go.Proofs.Ytkejnhmhbmbhcaa.Eng
namespace Go.Proofs.Ytkejnhmhbmbhcaa.Eng
open Go
section
variable {P : Program} {N : Nat} {ops : Array Oper}
theorem compOpers_get : ∀ {l : List Oper} {cs : List COper}, compOpers P N ops l = some cs → cs.length = l.length ∧ ∀ (i : Nat) (co : COper), cs[i]? = some co → ∃ o, l[i]? = some o ∧ compOper P N ops o = some co
  | [], cs, h => by
    simp only [compOpers, Option.some.injEq] at h; subst h
    exact ⟨rfl, fun i co hc => by simp at hc⟩
  | o :: l, cs, h => by
    simp only [compOpers] at h
    split at h
    · rename_i c1 c2 h1 h2
      injection h with h; subst h
      obtain ⟨q1, q2⟩ := compOpers_get h2
      refine ⟨by simp [q1], fun i co hc => ?_⟩
      cases i with
      | zero => simp only [List.getElem?_cons_zero, Option.some.injEq] at hc; subst hc; exact ⟨o, rfl, h1⟩
      | succ i => simpa using q2 i co (by simpa using hc)
    · cases h
def GoodIt (cs : List COper) : DIt → Prop
  | .ne i o op _ => cs[i]? = some o ∧ o.op = .ne op
  | .eff i o op => cs[i]? = some o ∧ o.op = .eff op
theorem itOk_good (cs : List COper) : ∀ (l : List DIt), itOk cs (withOps cs l) = true → ∀ it ∈ withOps cs l, GoodIt cs it
  | [], h, it, hi => by simp [withOps] at hi
  | .ne i o op last :: l, h, it, hi => by
    simp only [withOps] at h hi
    cases hc : cs[i]? with
    | none =>
      simp only [hc, itOk] at h
      simp at h
    | some c =>
      cases hop : c.op with
      | ne op' =>
        simp only [hc, hop, itOk, Bool.true_and] at h hi
        rcases List.mem_cons.1 hi with rfl | hi
        · exact ⟨hc, hop⟩
        · exact itOk_good cs l h it hi
      | eff op' =>
        simp only [hc, hop, itOk] at h
        simp at h
  | .eff i o op :: l, h, it, hi => by
    simp only [withOps] at h hi
    cases hc : cs[i]? with
    | none =>
      simp only [hc, itOk] at h
      simp at h
    | some c =>
      cases hop : c.op with
      | eff op' =>
        simp only [hc, hop, itOk, Bool.true_and] at h hi
        rcases List.mem_cons.1 hi with rfl | hi
        · exact ⟨hc, hop⟩
        · exact itOk_good cs l h it hi
      | ne op' =>
        simp only [hc, hop, itOk] at h
        simp at h
theorem idxIn_ok {i : Nat} : ∀ {l : List DIt}, idxIn i l = false → ∀ it ∈ l, it.idx ≠ i
  | [], h, it, hi => by simp at hi
  | a :: l, h, it, hi => by
    simp only [idxIn, Bool.or_eq_false_iff] at h
    rcases List.mem_cons.1 hi with rfl | hi
    · intro e
      have : Nat.beq it.idx i = true := by rw [Nat.beq_eq]; exact e
      rw [this] at h; exact absurd h.1 (by simp)
    · exact idxIn_ok h.2 it hi
theorem idxIn_some {i : Nat} : ∀ {l : List DIt}, idxIn i l = true → ∃ it ∈ l, it.idx = i
  | [], h => by simp [idxIn] at h
  | a :: l, h => by
    simp only [idxIn, Bool.or_eq_true, Nat.beq_eq] at h
    rcases h with h | h
    · exact ⟨a, by simp, h⟩
    · obtain ⟨it, h1, h2⟩ := idxIn_some h
      exact ⟨it, by simp [h1], h2⟩
theorem idxNodup_ok : ∀ {pre rest : List DIt}, idxNodup (pre ++ rest) = true → (∀ a ∈ pre, ∀ b ∈ rest, a.idx ≠ b.idx) ∧ idxNodup rest = true
  | [], rest, h => ⟨fun a ha => by simp at ha, h⟩
  | x :: pre, rest, h => by
    simp only [List.cons_append, idxNodup, Bool.and_eq_true, Bool.not_eq_true'] at h
    obtain ⟨h1, h2⟩ := h
    obtain ⟨q1, q2⟩ := idxNodup_ok h2
    refine ⟨fun a ha b hb => ?_, q2⟩
    rcases List.mem_cons.1 ha with rfl | ha
    · exact fun e => idxIn_ok h1 b (by simp [hb]) e.symm
    · exact q1 a ha b hb
theorem allIn_ok {its : List DIt} : ∀ {n : Nat}, allIn its n = true → ∀ i, i < n → ∃ it ∈ its, it.idx = i
  | 0, h, i, hi => by omega
  | n + 1, h, i, hi => by
    simp only [allIn, Bool.and_eq_true] at h
    by_cases e : i = n
    · subst e; exact idxIn_some h.1
    · exact allIn_ok h.2 i (by omega)
theorem effsOf_mem {e : Nat} : ∀ {l : List DIt}, e ∈ effsOf l → ∃ o op, .eff e o op ∈ l
  | [], h => by simp [effsOf] at h
  | .ne _ _ _ _ :: l, h => by
    simp only [effsOf] at h
    obtain ⟨o, op, h1⟩ := effsOf_mem h
    exact ⟨o, op, by simp [h1]⟩
  | .eff i o op :: l, h => by
    simp only [effsOf, List.mem_cons] at h
    rcases h with rfl | h
    · exact ⟨o, op, by simp⟩
    · obtain ⟨o, op, h1⟩ := effsOf_mem h
      exact ⟨o, op, by simp [h1]⟩
theorem mem_effsOf {e : Nat} {o : COper} {op : EOp} : ∀ {l : List DIt}, .eff e o op ∈ l → e ∈ effsOf l
  | [], h => by simp at h
  | .ne _ _ _ _ :: l, h => by
    simp only [effsOf]
    rcases List.mem_cons.1 h with h | h
    · cases h
    · exact mem_effsOf h
  | .eff i o op :: l, h => by
    simp only [effsOf, List.mem_cons]
    rcases List.mem_cons.1 h with h | h
    · injection h with h; exact .inl h
    · exact .inr (mem_effsOf h)
theorem effsOf_app : ∀ (a b : List DIt), effsOf (a ++ b) = effsOf a ++ effsOf b
  | [], b => rfl
  | .ne _ _ _ _ :: l, b => by simp only [List.cons_append, effsOf, effsOf_app l b]
  | .eff _ _ _ :: l, b => by simp only [List.cons_append, effsOf, effsOf_app l b]
theorem chain_behind {an : List Nat} : ∀ {l : List DIt} {e : Nat}, chainOk an l (some e) = true → ∀ it ∈ l, ∃ e', (e' = e ∨ e' ∈ effsOf l) ∧ (an.getD it.idx 0).testBit e' = true
  | [], e, h, it, hi => by simp at hi
  | .ne i o op last :: l, e, h, it, hi => by
    simp only [chainOk, behind, Bool.and_eq_true] at h
    rcases List.mem_cons.1 hi with rfl | hi
    · exact ⟨e, .inl rfl, h.1⟩
    · exact chain_behind h.2 it hi
  | .eff i o op :: l, e, h, it, hi => by
    simp only [chainOk, behind, Bool.and_eq_true] at h
    rcases List.mem_cons.1 hi with rfl | hi
    · exact ⟨e, .inl rfl, h.1⟩
    · obtain ⟨e', h1, h2⟩ := chain_behind h.2 it hi
      refine ⟨e', .inr ?_, h2⟩
      simp only [effsOf, List.mem_cons]; exact h1
theorem chain_app {an : List Nat} : ∀ {pre rest : List DIt} {e : Option Nat}, chainOk an (pre ++ rest) e = true → ∃ e', chainOk an rest e' = true
  | [], rest, e, h => ⟨e, h⟩
  | .ne _ _ _ _ :: pre, rest, e, h => by
    simp only [List.cons_append, chainOk, Bool.and_eq_true] at h
    exact chain_app h.2
  | .eff _ _ _ :: pre, rest, e, h => by
    simp only [List.cons_append, chainOk, Bool.and_eq_true] at h
    exact chain_app h.2
theorem lastOk_ok {an effs : List Nat} : ∀ {l : List DIt}, lastOk an effs l = true → ∀ i o op last, .ne i o op last ∈ l → ∀ e, effs[last]? = some e → (an.getD e 0).testBit i = true
  | [], h, i, o, op, last, hi, e, he => by simp at hi
  | .ne i' o' op' last' :: l, h, i, o, op, last, hi, e, he => by
    simp only [lastOk, Bool.and_eq_true] at h
    rcases List.mem_cons.1 hi with hi | hi
    · injection hi with h1 h2 h3 h4; subst h1 h4
      have := h.1
      rw [he] at this; exact this
    · exact lastOk_ok h.2 i o op last hi e he
  | .eff i' o' op' :: l, h, i, o, op, last, hi, e, he => by
    simp only [lastOk] at h
    rcases List.mem_cons.1 hi with hi | hi
    · cases hi
    · exact lastOk_ok h i o op last hi e he
theorem readOk1_ok {a : Nat} {ps : List P3} : ∀ {l : List DIt}, readOk1 a ps l = true → ∀ j o op last, .ne j o op last ∈ l → ∀ p, o.dst = some p → p ∈ ps → a.testBit j = true
  | [], h, j, o, op, last, hi, p, hp, hm => by simp at hi
  | .ne i' o' op' last' :: l, h, j, o, op, last, hi, p, hp, hm => by
    simp only [readOk1, Bool.and_eq_true] at h
    rcases List.mem_cons.1 hi with hi | hi
    · injection hi with h1 h2 h3 h4; subst h1 h2
      have := h.1
      rw [hp] at this
      simp only [Bool.or_eq_true, Bool.not_eq_true'] at this
      rcases this with h | h
      · exact h
      · rw [List.any_eq_false] at h
        exact absurd ((P3.same_iff p p).2 rfl) (h p hm)
    · exact readOk1_ok h.2 j o op last hi p hp hm
  | .eff i' o' op' :: l, h, j, o, op, last, hi, p, hp, hm => by
    simp only [readOk1] at h
    rcases List.mem_cons.1 hi with hi | hi
    · cases hi
    · exact readOk1_ok h j o op last hi p hp hm
theorem readOk_ok {an : List Nat} {all : List DIt} : ∀ {l : List DIt}, readOk an all l = true → ∀ it ∈ l, ∀ j o op last, .ne j o op last ∈ all → ∀ p, o.dst = some p → p ∈ readsP it.oper → (an.getD it.idx 0).testBit j = true
  | [], h, it, hi => by simp at hi
  | a :: l, h, it, hi => by
    simp only [readOk, Bool.and_eq_true] at h
    rcases List.mem_cons.1 hi with rfl | hi
    · exact fun j o op last hj p hp hm => readOk1_ok h.1 j o op last hj p hp hm
    · exact readOk_ok h.2 it hi
theorem dstFree_ok {p : P3} : ∀ {l : List DIt}, dstFree p l = true → ∀ it ∈ l, it.oper.dst ≠ some p
  | [], h, it, hi => by simp at hi
  | a :: l, h, it, hi => by
    simp only [dstFree, Bool.and_eq_true] at h
    rcases List.mem_cons.1 hi with rfl | hi
    · intro e
      have := h.1
      rw [e] at this
      simp only [Bool.not_eq_true'] at this
      rw [(P3.same_iff p p).2 rfl] at this; cases this
    · exact dstFree_ok h.2 it hi
theorem dstOk_ok : ∀ {pre rest : List DIt}, dstOk (pre ++ rest) = true → (∀ i o op last, .ne i o op last ∈ pre → ∀ p, o.dst = some p → ∀ it ∈ rest, it.oper.dst ≠ some p) ∧ dstOk rest = true
  | [], rest, h => ⟨fun i o op last hi => by simp at hi, h⟩
  | .ne i' o' op' last' :: pre, rest, h => by
    simp only [List.cons_append, dstOk, Bool.and_eq_true] at h
    obtain ⟨q1, q2⟩ := dstOk_ok h.2
    refine ⟨fun i o op last hi p hp it hit => ?_, q2⟩
    rcases List.mem_cons.1 hi with hi | hi
    · injection hi with h1 h2 h3 h4; subst h2
      have := h.1
      rw [hp] at this
      exact dstFree_ok this it (by simp [hit])
    · exact q1 i o op last hi p hp it hit
  | .eff i' o' op' :: pre, rest, h => by
    simp only [List.cons_append, dstOk, Bool.and_eq_true] at h
    obtain ⟨q1, q2⟩ := dstOk_ok h.2
    refine ⟨fun i o op last hi p hp it hit => ?_, q2⟩
    rcases List.mem_cons.1 hi with hi | hi
    · cases hi
    · exact q1 i o op last hi p hp it hit
theorem ancOk1_ok {an : List Nat} {es : List Edge} {a : Nat} : ∀ {n : Nat}, ancOk1 an es a n = true → ∀ j, j < n → a.testBit j = true → ancBit an es j = true
  | 0, h, j, hj, hb => by omega
  | n + 1, h, j, hj, hb => by
    simp only [ancOk1, Bool.and_eq_true, Bool.or_eq_true, Bool.not_eq_true'] at h
    by_cases e : j = n
    · subst e
      rcases h.1 with h1 | h1
      · rw [hb] at h1; cases h1
      · exact h1
    · exact ancOk1_ok h.2 j (by omega) hb
theorem ancOk_ok {an : List Nat} : ∀ {l : List Oper} {i : Nat}, ancOk an l i = true → ∀ n o, l[n]? = some o → (∀ e ∈ o.after.toList, Region.binds .any e = true → e.on < i + n) ∧ ∀ j, (an.getD (i + n) 0).testBit j = true → ancBit an o.after.toList j = true
  | [], i, h, n, o, ho => by simp at ho
  | a :: l, i, h, n, o, ho => by
    simp only [ancOk, Bool.and_eq_true] at h
    obtain ⟨h1, h2, h3, h4⟩ := h
    cases n with
    | zero =>
      simp only [List.getElem?_cons_zero, Option.some.injEq] at ho; subst ho
      refine ⟨fun e he hb => ?_, fun j hj => ?_⟩
      · rw [List.all_eq_true] at h1
        have := h1 e he
        rw [hb] at this
        simp only [Bool.not_true, Bool.false_or, Nat.ble_eq] at this
        omega
      · rw [Nat.ble_eq] at h2
        refine ancOk1_ok h3 j ?_ hj
        rcases Nat.lt_or_ge j i with hlt | hge
        · exact hlt
        · have hlt2 : an.getD i 0 < 2 ^ j := Nat.lt_of_lt_of_le h2 (Nat.pow_le_pow_right (by omega) hge)
          rw [Nat.add_zero, Nat.testBit_lt_two_pow hlt2] at hj; cases hj
    | succ n =>
      have := ancOk_ok h4 n o (by simpa using ho)
      rw [show i + (n + 1) = i + 1 + n by omega]; exact this
theorem ancBit_ok {an : List Nat} {es : List Edge} {j : Nat} (h : ancBit an es j = true) : ∃ e ∈ es, Region.binds .any e = true ∧ (e.on = j ∨ (an.getD e.on 0).testBit j = true) := by
  unfold ancBit at h
  rw [List.any_eq_true] at h
  obtain ⟨e, h1, h2⟩ := h
  simp only [Bool.and_eq_true, Bool.or_eq_true, Nat.beq_eq] at h2
  exact ⟨e, h1, h2.1, h2.2⟩
end
end Go.Proofs.Ytkejnhmhbmbhcaa.Eng
namespace Go.Proofs.Ytkejnhmhbmbhcaa.Eng
open Go
section
variable {β : Type} {P : Program} {r : β} {N : Nat} {ops : Array Oper} {cs : List COper} {an : List Nat} {all : List DIt}
def Dirty (S : Nat → Prop) (pend : List Pend) (p : P3) : Prop := ∃ q ∈ pend, q.o.dst = some p ∧ ¬ S q.i
structure Facts (P : Program) (N : Nat) (ops : Array Oper) (cs : List COper) (an : List Nat) (all : List DIt) : Prop where
  hN : N ≤ 512
  comp : compOpers P N ops ops.toList = some cs
  good : ∀ it ∈ all, GoodIt cs it
  nodup : idxNodup all = true
  allin : allIn all ops.toList.length = true
  chain : chainOk an all none = true
  last : lastOk an (effsOf all) all = true
  read : readOk an all all = true
  dst : dstOk all = true
  anc : ancOk an ops.toList 0 = true
theorem Facts.op (F : Facts P N ops cs an all) {i : Nat} {co : COper} (hc : cs[i]? = some co) : ∃ o, ops[i]? = some o ∧ compOper P N ops o = some co := by
  obtain ⟨o, h1, h2⟩ := (compOpers_get F.comp).2 i co hc
  exact ⟨o, by simpa using h1, h2⟩
theorem Facts.lt (F : Facts P N ops cs an all) {i : Nat} {co : COper} (hc : cs[i]? = some co) : i < ops.size := by
  obtain ⟨o, h1, h2⟩ := F.op hc
  rcases Nat.lt_or_ge i ops.size with h | h
  · exact h
  · simp [Array.getElem?_eq_none h] at h1
theorem Facts.idx (F : Facts P N ops cs an all) {it : DIt} (hi : it ∈ all) : cs[it.idx]? = some it.oper := by
  have := F.good it hi
  cases it with
  | ne i o op last => exact this.1
  | eff i o op => exact this.1
theorem Facts.deps (F : Facts P N ops cs an all) {i j : Nat} (hi : dep ops i j) : j < i := by
  obtain ⟨o, ho, e, he, hb, rfl⟩ := hi
  have := (ancOk_ok F.anc i o (by simpa using ho)).1 e he hb
  omega
theorem Facts.ancs (F : Facts P N ops cs an all) {i j : Nat} (hi : i < ops.size) (hj : (an.getD i 0).testBit j = true) : ∃ j', dep ops i j' ∧ (j' = j ∨ (an.getD j' 0).testBit j = true) := by
  have ho : ops[i]? = some ops[i] := by simp [hi]
  have := (ancOk_ok F.anc i ops[i] (by simp [hi])).2 j (by rw [Nat.zero_add]; exact hj)
  obtain ⟨e, h1, h2, h3⟩ := ancBit_ok this
  exact ⟨e.on, ⟨_, ho, e, h1, h2, rfl⟩, h3⟩
structure Inv (P : Program) (N : Nat) (ops : Array Oper) (cs : List COper) (an : List Nat) (all : List DIt) (μ0 : Inj) (g0 : Bid → AObj) (w0 : World) (S : Nat → Prop) (pre rest : List DIt) (k : Nat) (pend : List Pend) (t : Tm) (h : Hp) (a : Act) (w : World) (μ : Inj) : Prop where
  split : all = pre ++ rest
  effs : ∀ e ∈ effsOf pre, S e
  notyet : ∀ it ∈ rest, ¬ S it.idx
  st : k = (effsOf pre).length
  mem : ∀ q ∈ pend, .ne q.i q.o q.op q.last ∈ pre
  has : ∀ i o op last, .ne i o op last ∈ pre → ∃ q ∈ pend, q.i = i
  clo : ∀ i, S i → i < ops.size → ∀ j, (an.getD i 0).testBit j = true → S j
  tm : TRelP μ N t a (Dirty S pend)
  hp : HR μ h.get w
  df : a.defers = []
  fr : Fr μ0 g0 w0 μ h.get w
  pn : ∀ q ∈ pend, q.ob ≠ none → h.get q.id ≠ .no ∧ g0 q.id = .no ∧ (¬ S q.i → μ q.id = none)
  ids : ∀ q ∈ pend, ∀ q' ∈ pend, q.ob ≠ none → q'.ob ≠ none → q.id = q'.id → q.i = q'.i
  vals : ∀ q ∈ pend, ∀ p, q.o.dst = some p → t.get p = q.v
variable {μ0 : Inj} {g0 : Bid → AObj} {w0 : World} {S : Nat → Prop} {pre rest : List DIt} {k : Nat} {pend : List Pend} {t : Tm} {h : Hp} {a : Act} {w : World} {μ : Inj}
theorem HR.grow (hr : HR μ h.get w) {x : Bid} (hx : h.get x = .no) (o : AObj) : HR μ (h.put x o).get w := by
  have hf := hr.fresh hx
  have hne : ∀ b l, μ b = some l → b ≠ x := fun b l hb e => by rw [e, hf] at hb; cases hb
  refine ⟨fun b l hb => ?_, fun b b' l l' hb hb' e1 e2 e3 => ?_, hr.gl.sub fun c hu => ?_⟩
  rotate_left 2
  · obtain ⟨b, l, hb, hl, e⟩ := hu
    rw [Hp.get_put_ne _ _ (hne b l hb)] at hl
    exact ⟨b, l, hb, hl, e⟩
  · rw [Hp.get_put_ne _ _ (hne b l hb)]; exact hr.ok b l hb
  · rw [Hp.get_put_ne _ _ (hne b l hb)] at e1
    rw [Hp.get_put_ne _ _ (hne b' l' hb')] at e2
    exact hr.inj b b' l l' hb hb' e1 e2 e3
theorem Fr.grow (hf : Fr μ0 g0 w0 μ h.get w) (hr : HR μ h.get w) {x : Bid} (hx : h.get x = .no) {o : AObj} (ho : o ≠ .no) : Fr μ0 g0 w0 μ (h.put x o).get w := by
  have hfx := hr.fresh hx
  have hne : ∀ b l, μ b = some l → b ≠ x := fun b l hb e => by rw [e, hfx] at hb; cases hb
  refine ⟨hf.le, hf.new, hf.os, hf.tape, hf.output, hf.size, hf.same, fun i hu => ?_, fun b hb => ?_⟩
  · obtain ⟨b, l, hb, hl, e⟩ := hu
    rw [Hp.get_put_ne _ _ (hne b l hb)] at hl
    exact hf.used i ⟨b, l, hb, hl, e⟩
  · rw [Hp.get_put]
    split
    · exact ho
    · exact hf.pres b hb
theorem group_ok (F : Facts P N ops cs an all) {call : CALL β} {K : KT β} : ∀ (rest : List DIt) (pre : List DIt) (pend : List Pend) (t : Tm) (h : Hp) (x : Bid), Inv P N ops cs an all μ0 g0 w0 S pre rest k pend t h a w μ → runD P call rest k pend t h x K = some r →
    ∃ pre' rest' pend' t' h' x', Inv P N ops cs an all μ0 g0 w0 S pre' rest' k pend' t' h' a w μ ∧ (rest' = [] ∨ ∃ i o op l, rest' = .eff i o op :: l) ∧ runD P call rest' k pend' t' h' x' K = some r
  | [], pre, pend, t, h, x, I, hk => ⟨pre, [], pend, t, h, x, I, .inl rfl, hk⟩
  | .eff i o op :: l, pre, pend, t, h, x, I, hk => ⟨pre, _, pend, t, h, x, I, .inr ⟨i, o, op, l, rfl⟩, hk⟩
  | .ne i o op last :: l, pre, pend, t, h, x, I, hk => by
    simp only [runD] at hk
    split at hk
    · rename_i v ob hv
      split at hk
      · rename_i hob
        have hnS : ¬ S i := I.notyet (.ne i o op last) (by simp)
        have hsplit : all = (pre ++ [.ne i o op last]) ++ l := by rw [I.split]; simp
        have hdst := dstOk_ok (pre := pre) (rest := .ne i o op last :: l) (by rw [← I.split]; exact F.dst)
        -- the slot
        have step2 : ∀ (h' : Hp) (y : Bid) (t' : Tm), HR μ h'.get w → Fr μ0 g0 w0 μ h'.get w → (∀ b, h.get b ≠ .no → h'.get b ≠ .no) → (ob ≠ none → h.get x = .no ∧ h'.get x ≠ .no) →
            (∀ p, o.dst = some p → t'.get p = v) → (∀ p, o.dst ≠ some p → t'.get p = t.get p) → runD P call l k (⟨i, o, op, last, x, v, ob⟩ :: pend) t' h' y K = some r →
            ∃ pre' rest' pend' t' h' x', Inv P N ops cs an all μ0 g0 w0 S pre' rest' k pend' t' h' a w μ ∧ (rest' = [] ∨ ∃ i o op l, rest' = .eff i o op :: l) ∧ runD P call rest' k pend' t' h' x' K = some r := by
          intro h' y t' hr' hf' hpres hobx htv htn hk'
          refine group_ok F l (pre ++ [.ne i o op last]) (⟨i, o, op, last, x, v, ob⟩ :: pend) t' h' y ?_ hk'
          refine ⟨hsplit, fun e he => I.effs e ?_, fun it hit => I.notyet it (by simp [hit]), ?_, ?_, ?_, I.clo, ⟨I.tm.1, fun p hp => ?_⟩, hr', I.df, hf', ?_, ?_, ?_⟩
          · rw [effsOf_app] at he; simpa [effsOf] using he
          · rw [effsOf_app]; simp [effsOf, I.st]
          · intro q hq
            rcases List.mem_cons.1 hq with rfl | hq
            · simp
            · have := I.mem q hq; simp [this]
          · intro i' o' op' last' hi'
            rcases List.mem_append.1 hi' with hi' | hi'
            · obtain ⟨q, h1, h2⟩ := I.has i' o' op' last' hi'
              exact ⟨q, by simp [h1], h2⟩
            · simp only [List.mem_singleton, DIt.ne.injEq] at hi'
              exact ⟨⟨i, o, op, last, x, v, ob⟩, by simp, hi'.1.symm⟩
          · have hne : o.dst ≠ some p := fun e => hp ⟨⟨i, o, op, last, x, v, ob⟩, by simp, e, hnS⟩
            rw [htn p hne]
            exact I.tm.2 p fun ⟨q, h1, h2, h3⟩ => hp ⟨q, by simp [h1], h2, h3⟩
          · intro q hq hqo
            rcases List.mem_cons.1 hq with rfl | hq
            · obtain ⟨e1, e2⟩ := hobx hqo
              refine ⟨e2, ?_, fun _ => I.hp.fresh e1⟩
              by_cases e : g0 x = .no
              · exact e
              · exact absurd e1 (I.fr.pres x e)
            · obtain ⟨e1, e2, e3⟩ := I.pn q hq hqo
              exact ⟨hpres _ e1, e2, e3⟩
          · intro q hq q' hq' hqo hqo' e
            rcases List.mem_cons.1 hq with rfl | hq
            · rcases List.mem_cons.1 hq' with rfl | hq'
              · rfl
              · have := (I.pn q' hq' hqo').1
                rw [← e] at this
                exact absurd (hobx hqo).1 this
            · rcases List.mem_cons.1 hq' with rfl | hq'
              · have := (I.pn q hq hqo).1
                rw [e] at this
                exact absurd (hobx hqo').1 this
              · exact I.ids q hq q' hq' hqo hqo' e
          · intro q hq p hp
            rcases List.mem_cons.1 hq with rfl | hq
            · exact htv p hp
            · have := hdst.1 q.i q.o q.op q.last (I.mem q hq) p hp (.ne i o op last) (by simp)
              rw [htn p this]
              exact I.vals q hq p hp
        have slot : ∀ (h' : Hp) (y : Bid), HR μ h'.get w → Fr μ0 g0 w0 μ h'.get w → (∀ b, h.get b ≠ .no → h'.get b ≠ .no) → (ob ≠ none → h.get x = .no ∧ h'.get x ≠ .no) →
            (dstK o.dst v t fun t => runD P call l k (⟨i, o, op, last, x, v, ob⟩ :: pend) t h' y K) = some r →
            ∃ pre' rest' pend' t' h' x', Inv P N ops cs an all μ0 g0 w0 S pre' rest' k pend' t' h' a w μ ∧ (rest' = [] ∨ ∃ i o op l, rest' = .eff i o op :: l) ∧ runD P call rest' k pend' t' h' x' K = some r := by
          intro h' y hr' hf' hpres hobx hk'
          cases hd : o.dst with
          | none =>
            rw [hd] at hk'
            exact step2 h' y t hr' hf' hpres hobx (fun p hp => by rw [hd] at hp; cases hp) (fun p _ => rfl) hk'
          | some p0 =>
            rw [hd] at hk'
            simp only [dstK, Tm.putK_eq] at hk'
            refine step2 h' y _ hr' hf' hpres hobx (fun p hp => ?_) (fun p hp => ?_) hk'
            · rw [hd] at hp; injection hp with hp; subst hp
              rw [Tm.get_put, if_pos rfl]
            · rw [Tm.get_put, if_neg]
              intro e; exact hp (by rw [hd, e])
        cases ob with
        | none =>
          simp only [newK] at hk
          exact slot h x I.hp I.fr (fun _ hb => hb) (fun e => absurd rfl e) hk
        | some o' =>
          simp only [newK] at hk
          obtain ⟨hx, y, hk⟩ := freshK_ok hk
          rw [Hp.putK_eq] at hk
          have ho' : o' ≠ .no := fun e => by rw [e] at hob; simp [okOb] at hob
          refine slot _ y (I.hp.grow hx o') (I.fr.grow I.hp hx ho') (fun b hb => ?_) (fun _ => ⟨hx, ?_⟩) hk
          · rw [Hp.get_put]
            split
            · exact ho'
            · exact hb
          · rw [Hp.get_put, if_pos rfl]; exact ho'
      · cases hk
    · cases hk
theorem asked {call : CALL β} {K : KT β} {x : Bid} (hrest : rest = [] ∨ ∃ i o op l, rest = .eff i o op :: l) (hk : runD P call rest k pend t h x K = some r) : ∃ c, checkAll k t h pend c = some r := by
  rcases hrest with rfl | ⟨i, o, op, l, rfl⟩
  · exact ⟨_, hk⟩
  · exact ⟨_, hk⟩
theorem Inv.inS (F : Facts P N ops cs an all) (I : Inv P N ops cs an all μ0 g0 w0 S pre rest k pend t h a w μ) {i : Nat} (hi : i < ops.size) (hd : ∀ j, dep ops i j → S j) : ∀ j, (an.getD i 0).testBit j = true → S j := by
  intro j hj
  obtain ⟨j', h1, h2⟩ := F.ancs hi hj
  have hj' := hd j' h1
  rcases h2 with rfl | h2
  · exact hj'
  · exact I.clo j' hj' (Nat.lt_trans (F.deps h1) hi) j h2
theorem Inv.size (F : Facts P N ops cs an all) (I : Inv P N ops cs an all μ0 g0 w0 S pre rest k pend t h a w μ) {q : Pend} (hq : q ∈ pend) : q.i < ops.size ∧ cs[q.i]? = some q.o ∧ q.o.op = .ne q.op := by
  have hm : DIt.ne q.i q.o q.op q.last ∈ all := by rw [I.split]; simp [I.mem q hq]
  have := F.good _ hm
  exact ⟨F.lt this.1, this.1, this.2⟩
theorem Inv.asks (F : Facts P N ops cs an all) (I : Inv P N ops cs an all μ0 g0 w0 S pre rest k pend t h a w μ) {q : Pend} (hq : q ∈ pend) (hn : ¬ S q.i) : k ≤ q.last := by
  rcases Nat.lt_or_ge q.last k with hlt | hge
  · exfalso
    rw [I.st] at hlt
    have he : (effsOf all)[q.last]? = some (effsOf pre)[q.last] := by
      rw [I.split, effsOf_app, List.getElem?_append_left hlt]; simp [hlt]
    have hm : DIt.ne q.i q.o q.op q.last ∈ all := by rw [I.split]; simp [I.mem q hq]
    have hb := lastOk_ok F.last q.i q.o q.op q.last hm _ he
    have hes : (effsOf pre)[q.last] ∈ effsOf pre := List.getElem_mem hlt
    obtain ⟨o, op, hmem⟩ := effsOf_mem hes
    have hcs := F.idx (it := .eff _ o op) (by rw [I.split]; exact List.mem_append_left _ hmem)
    exact hn (I.clo _ (I.effs _ hes) (F.lt hcs) _ hb)
  · exact hge
theorem sched_ok (F : Facts P N ops cs an all) {call : CALL β} (hcall : CallOK P call) {K : KT β} {Q : Exit → Act → World → Prop}
    (hn : ∀ t' h' x' a' w' μ', K t' h' x' = some r → SRel μ' N t' h' a' w' → Fr μ0 g0 w0 μ' h'.get w' → Q .normal a' w') :
    ∀ (l : List Nat) (S : Nat → Prop), Sched ops S l → ∀ (pre rest : List DIt) (k : Nat) (pend : List Pend) (t : Tm) (h : Hp) (x : Bid) (a : Act) (w : World) (μ : Inj),
      Inv P N ops cs an all μ0 g0 w0 S pre rest k pend t h a w μ → (rest = [] ∨ ∃ i o op l, rest = .eff i o op :: l) → runD P call rest k pend t h x K = some r → wpOps P ops Q l a w := by
  intro l S hs
  induction hs with
  | nil hall =>
    intro pre rest k pend t h x a w μ I hrest hk
    rcases hrest with rfl | ⟨i, o, op, l, rfl⟩
    · simp only [runD] at hk
      obtain ⟨hk, _⟩ := checkAll_ok hk
      refine hn t h x a w μ hk ⟨⟨I.tm.1, fun p => I.tm.2 p ?_⟩, I.hp, I.df⟩ I.fr
      rintro ⟨q, hq, _, h3⟩
      exact h3 (hall _ (I.size F hq).1)
    · have hcs := F.idx (it := .eff i o op) (by rw [I.split]; simp)
      exact absurd (hall _ (F.lt hcs)) (I.notyet (.eff i o op) (by simp))
  | @cons S i l hi hnS hdep _ ih =>
    intro pre rest k pend t h x a w μ I hrest hk
    have hin := I.inS F hi hdep
    obtain ⟨it, hit, hidx⟩ := allIn_ok F.allin i (by simpa using hi)
    have hcs := F.idx hit
    rw [hidx] at hcs
    obtain ⟨o, ho, hco⟩ := F.op hcs
    -- what it reads is known
    have hread : ∀ p ∈ readsP it.oper, ¬ Dirty S pend p := by
      rintro p hp ⟨q, hq, h2, h3⟩
      have hm : DIt.ne q.i q.o q.op q.last ∈ all := by rw [I.split]; simp [I.mem q hq]
      have := readOk_ok F.read it hit q.i q.o q.op q.last hm p h2 hp
      rw [hidx] at this
      exact h3 (hin _ this)
    have hclo' : ∀ j, (j = i ∨ S j) → j < ops.size → ∀ j', (an.getD j 0).testBit j' = true → (j' = i ∨ S j') := by
      rintro j (rfl | hj) hlt j' hb
      · exact .inr (hin j' hb)
      · exact .inr (I.clo j hj hlt j' hb)
    have hmem : it ∈ pre ∨ it ∈ rest := by rw [I.split] at hit; exact List.mem_append.1 hit
    have hnd := idxNodup_ok (pre := pre) (rest := rest) (by rw [← I.split]; exact F.nodup)
    refine wpOps_cons ho ?_
    rcases hmem with hmem | hmem
    · cases it with
      | eff i' o' op' =>
        simp only [DIt.idx] at hidx; subst hidx
        exact absurd (I.effs _ (mem_effsOf hmem)) hnS
      | ne i' o' op' last' =>
        simp only [DIt.idx] at hidx; subst hidx
        obtain ⟨q, hq, hqi⟩ := I.has _ _ _ _ hmem
        obtain ⟨c, hc⟩ := asked hrest hk
        obtain ⟨_, hca⟩ := checkAll_ok hc
        subst hqi
        obtain ⟨s1, s2, s3⟩ := I.size F hq
        obtain ⟨hv, hob⟩ := hca q hq (I.asks F hq hnS)
        simp only [DIt.oper] at hcs hread
        rw [s2] at hcs
        injection hcs with hcs; subst hcs
        have hx : q.ob ≠ none → μ q.id = none := fun e => (I.pn q hq e).2.2 hnS
        have hdcomp : compDst N o.dst = some q.o.dst := by
          unfold compOper at hco
          split at hco
          · rename_i d g hd hg
            rw [hd]
            split at hco
            · split at hco <;> (injection hco with hco; have e9 := congrArg COper.dst hco; simp only [DIt.oper] at e9; rw [← e9])
            · split at hco <;> (injection hco with hco; have e9 := congrArg COper.dst hco; simp only [DIt.oper] at e9; rw [← e9])
          · cases hco
        refine ne_step F.hN hco s3 I.tm I.hp hread hx hv _ _ fun cv w' hres => ?_
        have fin : ∀ μ', Le μ μ' → (∀ q' ∈ pend, q'.ob ≠ none → ¬ (q'.i = q.i ∨ S q'.i) → μ' q'.id = none) → VRel μ' q.v cv → HR μ' h.get w' → Fr μ0 g0 w0 μ' h.get w' → wpOps P ops Q l (a.put o.dst cv) w' := by
          intro μ' hle hpn' hv' hr' hf'
          obtain ⟨t1, t2⟩ := dst_known (D' := Dirty (fun x => x = q.i ∨ S x) pend) F.hN (I.tm.mono hle) hdcomp (cv := cv) (fun p hp => by rw [I.vals q hq p hp]; exact hv') (fun p hp hnd hd => by
            obtain ⟨q', h1, h2, h3⟩ := hd
            refine hnd ⟨q', h1, h2, ?_⟩
            rintro (e | e)
            · have e2 := (I.size F h1).2.1
              rw [e, s2] at e2
              injection e2 with e2
              rw [e2] at hp; exact hp h2
            · exact h3 e)
          refine ih pre rest k pend t h x _ w' μ' ⟨I.split, fun e he => .inr (I.effs e he), fun it hit => ?_, I.st, I.mem, I.has, hclo', t1, hr', by rw [t2]; exact I.df, hf', fun q' hq' e => ?_, I.ids, I.vals⟩ hrest hk
          · rintro (e | e)
            · exact hnd.1 _ hmem it hit e.symm
            · exact I.notyet it hit e
          · obtain ⟨e1, e2, e3⟩ := I.pn q' hq' e
            exact ⟨e1, e2, hpn' q' hq' e⟩
        obtain ⟨n1, n2, n3, hres⟩ := hres
        cases hqo : q.ob with
        | none =>
          rw [hqo] at hres
          obtain ⟨n4, n5⟩ := hres
          have d : Drew w w' := ⟨n4, n1, n2, n3⟩
          exact fin μ (Le.refl _) (fun q' h1 h2 h3 => (I.pn q' h1 h2).2.2 fun e => h3 (.inr e)) n5 (I.hp.drew d) (I.fr.trans (Fr.drew d))
        | some ob =>
          have hne : q.ob ≠ none := by rw [hqo]; simp
          rw [hqo] at hres
          obtain ⟨hl, c', hob', n4, n5, n6⟩ := hres
          have hxx := hx hne
          obtain ⟨g1, g2⟩ := I.hp.push' hxx (hob ob hqo) hl n4 n1 n2 n3 c' n6 I.fr (I.pn q hq hne).2.1
          refine fin _ (le_upd _ hxx) (fun q' h1 h2 h3 => ?_) n5 g1 g2
          have hid : q'.id ≠ q.id := fun e => h3 (.inl (I.ids q' h1 q hq h2 hne e))
          unfold upd
          rw [if_neg hid]
          exact (I.pn q' h1 h2).2.2 fun e => h3 (.inr e)
    · rcases hrest with rfl | ⟨i0, o0, op0, l0, rfl⟩
      · simp at hmem
      · obtain ⟨e0, hch⟩ := chain_app (pre := pre) (rest := .eff i0 o0 op0 :: l0) (by rw [← I.split]; exact F.chain)
        simp only [chainOk, Bool.and_eq_true] at hch
        rcases List.mem_cons.1 hmem with rfl | hmem
        · simp only [DIt.idx] at hidx; subst hidx
          simp only [runD] at hk
          obtain ⟨hk, hca⟩ := checkAll_ok hk
          simp only [DIt.oper] at hcs hread
          have hdst := dstOk_ok (pre := pre) (rest := .eff i0 o0 op0 :: l0) (by rw [← I.split]; exact F.dst)
          refine operK_okP F.hN hcall hco I.tm I.hp I.df hread hk _ _ fun t' h' x' a' w' μ' hk' ht' hr' hdf' hf' htg => ?_
          rw [natK_eq] at hk'
          have hD : ∀ p, ¬ Dirty (fun x => x = i0 ∨ S x) pend p → ¬ Dirty S pend p := by
            rintro p hp ⟨q, h1, h2, h3⟩
            refine hp ⟨q, h1, h2, ?_⟩
            rintro (e | e)
            · exact hnd.1 _ (I.mem q h1) (.eff i0 o0 op0) (by simp) e
            · exact h3 e
          have I' : Inv P N ops cs an all μ0 g0 w0 (fun x => x = i0 ∨ S x) (pre ++ [.eff i0 o0 op0]) l0 (k + 1) pend t' h' a' w' μ' := by
            refine ⟨by rw [I.split]; simp, fun e he => ?_, fun it hit => ?_, ?_, fun q hq => by have := I.mem q hq; simp [this], fun i' o' op' last' hi' => ?_, hclo', ⟨ht'.1, fun p hp => ht'.2 p (hD p hp)⟩, hr', hdf', I.fr.trans hf', fun q hq hqo => ?_, I.ids, fun q hq p hp => ?_⟩
            · rw [effsOf_app] at he
              simp only [effsOf, List.mem_append, List.mem_singleton] at he
              rcases he with he | he
              · exact .inr (I.effs e he)
              · exact .inl he
            · rintro (e | e)
              · have := (idxNodup_ok (pre := [.eff i0 o0 op0]) (rest := l0) hnd.2).1 (.eff i0 o0 op0) (by simp) it hit
                exact this e.symm
              · exact I.notyet it (by simp [hit]) e
            · rw [effsOf_app]; simp [effsOf, I.st]
            · rcases List.mem_append.1 hi' with hi' | hi'
              · exact I.has i' o' op' last' hi'
              · simp at hi'
            · obtain ⟨e1, e2, e3⟩ := I.pn q hq hqo
              refine ⟨hf'.pres _ e1, e2, fun e => ?_⟩
              have hnone := e3 fun e' => e (.inr e')
              cases hμ : μ' q.id with
              | none => rfl
              | some lc => exact absurd (hf'.new q.id hnone (by rw [hμ]; simp)) e1
            · have := hdst.1 q.i q.o q.op q.last (I.mem q hq) p hp (.eff i0 o0 op0) (by simp)
              rw [htg p this]
              exact I.vals q hq p hp
          obtain ⟨pre', rest', pend', t2, h2, x2, I2, hr2, hk2⟩ := group_ok F l0 _ _ _ _ _ I' hk'
          exact ih pre' rest' (k + 1) pend' t2 h2 x2 a' w' μ' I2 hr2 hk2
        · obtain ⟨e', h1, h2⟩ := chain_behind hch.2 it hmem
          rw [hidx] at h2
          have hS := hin e' h2
          rcases h1 with rfl | h1
          · exact absurd hS (I.notyet (.eff e' o0 op0) (by simp))
          · obtain ⟨o1, op1, h3⟩ := effsOf_mem h1
            exact absurd hS (I.notyet (.eff e' o1 op1) (by simp [h3]))
theorem regD_ok : RegDOK β P := by
  intro call N ops hN hcall its hc μ t h x a w k r Q id hs hk hn
  unfold compD at hc
  split at hc
  · rename_i cs hcs
    split at hc
    · rename_i hb
      injection hc with hc
      rw [Bool.and_eq_true, hc] at hb
      obtain ⟨hmix, hb⟩ := hb
      simp only [okD, Bool.and_eq_true] at hb
      obtain ⟨b1, b2, b3, b4, b5, b6, b7, b8⟩ := hb
      have F : Facts P N ops cs (ancs ops.toList) its := ⟨hN, hcs, by rw [← hc] at b1 ⊢; exact itOk_good cs _ b1, b2, b3, b4, b5, b6, b7, b8⟩
      refine wp_region_draw fun tt => ?_
      rw [hmix]
      simp only [Region.schedule, Bool.true_or, if_true]
      obtain ⟨l, h1, h2⟩ := linear_ok ops (fun i j hd => F.deps hd) ops.size tt (Array.replicate ops.size false) [] (by simp) (by
        refine Nat.le_trans (List.length_filter_le _ _) (by simp))
      unfold Region.linearise
      rw [h1]
      simp only [List.reverse_nil, List.nil_append]
      have hS : (fun i : Nat => (Array.replicate ops.size false)[i]? = some true) = fun _ => False := by
        funext i
        rw [Array.getElem?_replicate]
        split <;> simp
      rw [hS] at h2
      have d : Drew w { w with drawn := w.drawn + 1 } := ⟨rfl, rfl, rfl, rfl⟩
      have I : Inv P N ops cs (ancs ops.toList) its μ h.get w (fun _ => False) [] its 0 [] t h a { w with drawn := w.drawn + 1 } μ := by
        refine ⟨rfl, fun e he => by simp [effsOf] at he, fun it hit hf => hf, rfl, fun q hq => by simp at hq, fun i o op last hi => by simp at hi, fun i hi => hi.elim, ⟨hs.tm.1, fun p _ => hs.tm.2 p⟩, hs.hp.drew d, hs.df, Fr.drew d, fun q hq => by simp at hq, fun q hq => by simp at hq, fun q hq => by simp at hq⟩
      obtain ⟨pre', rest', pend', t2, h2', x2, I2, hr2, hk2⟩ := group_ok F its _ _ _ _ _ I hk
      exact sched_ok F hcall hn l _ h2 pre' rest' 0 pend' t2 h2' x2 a _ μ I2 hr2 hk2
    · cases hc
  · cases hc
end
theorem closed {P : Program} (n f : Nat) (v : AV) (hrun : callOf P (exec P n) f [] f5 b0 (fun v _ _ => some v) = some v) (w : World) (hgl : GLW w := by exact fun n l h => Option.noConfusion (show (none : Option (List (List Nat))) = some l from h)) :
    Calls P f #[] w fun e w' => (∃ cv μ', e = .returned cv ∧ VRel μ' v cv) ∧ Go.RowKit.Below w.heap.size w w' := closed_call regD_ok n f v hrun w hgl
end Go.Proofs.Ytkejnhmhbmbhcaa.Eng
