/-
  THE ENGINE, PART R: one operation of a statement whose order is open.
-/
import Derived.Test.YtpcocfdgcihpdaaEngQ
namespace Go.Proofs.Ytpcocfdgcihpdaa.Eng
open Go
set_option linter.unusedVariables false
set_option linter.unusedSimpArgs false

/-! ### sameness -/
theorem AObj.sameK_ok {β : Type} {r : β} {a b : AObj} {c : Option β} (h : AObj.sameK a b c = some r) : a = b ∧ c = some r := by
  unfold AObj.sameK at h
  split at h
  · obtain ⟨e, h⟩ := AV.samesK_ok _ _ _ h; exact ⟨by rw [e], h⟩
  · split at h
    · rename_i e; rw [Nat.beq_eq] at e
      obtain ⟨e', h⟩ := AV.samesK_ok _ _ _ h; exact ⟨by rw [e, e'], h⟩
    · cases h
  · split at h
    · rename_i e; rw [Nat.beq_eq] at e; exact ⟨by rw [e], h⟩
    · cases h
  · cases h
theorem obSame_ok {β : Type} {r : β} {a b : Option AObj} {c : Option β} (h : obSame a b c = some r) : a = b ∧ c = some r := by
  unfold obSame at h
  split at h
  · exact ⟨rfl, h⟩
  · obtain ⟨e, h⟩ := AObj.sameK_ok h; exact ⟨by rw [e], h⟩
  · cases h
theorem sameAs_ok {β : Type} {r : β} {h : Hp} {p : Pend} {v : AV} {ob : Option AObj} {c : Option β} (e : sameAs h p v ob c = some r) : c = some r ∧ v = p.v ∧ ob = p.ob ∧ ∀ o, p.ob = some o → h.get p.id = o := by
  unfold sameAs at e
  obtain ⟨h1, e⟩ := AV.sameK_ok _ _ _ e
  obtain ⟨h2, e⟩ := obSame_ok e
  cases ho : p.ob with
  | none => rw [ho] at e h2; exact ⟨e, h1, h2, fun o ho' => by cases ho'⟩
  | some ob' =>
    rw [ho] at e h2
    obtain ⟨h3, e⟩ := AObj.sameK_ok e
    exact ⟨e, h1, h2, fun o ho' => by injection ho' with ho'; rw [← ho']; exact h3⟩
theorem P3.same_iff (p q : P3) : P3.same p q = true ↔ p = q := by
  obtain ⟨x, y, z⟩ := p; obtain ⟨x', y', z'⟩ := q
  simp only [P3.same, Bool.and_eq_true, D8.beq_iff, P3.mk.injEq]
  exact ⟨fun ⟨h1, h2, h3⟩ => ⟨h3, h2, h1⟩, fun ⟨h1, h2, h3⟩ => ⟨h3, h2, h1⟩⟩

section
variable {β : Type} {P : Program} {r : β} {N : Nat}

theorem checkAll_ok {st : Nat} {t : Tm} {h : Hp} : ∀ {ps : List Pend} {k : Option β}, checkAll st t h ps k = some r → k = some r ∧ ∀ p ∈ ps, st ≤ p.last → neR p.o p.op t h p.id = some (p.v, p.ob) ∧ ∀ o, p.ob = some o → h.get p.id = o
  | [], k, hk => ⟨hk, fun p hp => by cases hp⟩
  | q :: ps, k, hk => by
    simp only [checkAll] at hk
    unfold checkOne at hk
    split at hk
    · rename_i hf
      obtain ⟨h1, h2⟩ := checkAll_ok hk
      refine ⟨h1, fun p hp hle => ?_⟩
      rcases List.mem_cons.1 hp with rfl | hp
      · rw [← Nat.ble_eq] at hle; rw [hle] at hf; cases hf
      · exact h2 p hp hle
    · split at hk
      · rename_i v ob hv
        obtain ⟨hk, s1, s2, s3⟩ := sameAs_ok hk
        obtain ⟨h1, h2⟩ := checkAll_ok hk
        refine ⟨h1, fun p hp hle => ?_⟩
        rcases List.mem_cons.1 hp with rfl | hp
        · rw [hv, s1, s2]; exact ⟨rfl, fun o ho => s3 o ho⟩
        · exact h2 p hp hle
      · cases hk

/-- the object is there already -/
theorem HR.push' {μ : Inj} {h : Hp} {w : World} {x : Bid} (hr : HR μ h.get w) (hx : μ x = none) {o : AObj} (hg : h.get x = o) (ho : live o = true) {w' : World} {hob : Obj} (hw : w'.heap = w.heap.push hob) (h1 : w'.os = w.os) (h2 : w'.tape = w.tape) (h3 : w'.output = w.output) (c : Nat)
    (hrel : ObjRel (upd μ x ⟨w.heap.size, 0, c⟩) w' ⟨w.heap.size, 0, c⟩ o) {μ0 : Inj} {g0 : Bid → AObj} {w0 : World} (hf : Fr μ0 g0 w0 μ h.get w) (h0 : g0 x = .no) :
    HR (upd μ x ⟨w.heap.size, 0, c⟩) h.get w' ∧ Fr μ0 g0 w0 (upd μ x ⟨w.heap.size, 0, c⟩) h.get w' := by
  have hne : ∀ b l, μ b = some l → b ≠ x := fun b l hb e => by rw [e, hx] at hb; cases hb
  have hr1 : HR μ (h.put x .no).get w := by
    refine ⟨fun b l hb => ?_, fun b b' l l' hb hb' e1 e2 e3 => ?_⟩
    · rw [Hp.get_put_ne _ _ (hne b l hb)]; exact hr.ok b l hb
    · rw [Hp.get_put_ne _ _ (hne b l hb)] at e1
      rw [Hp.get_put_ne _ _ (hne b' l' hb')] at e2
      exact hr.inj b b' l l' hb hb' e1 e2 e3
  have hf1 : Fr μ0 g0 w0 μ (h.put x .no).get w := by
    refine ⟨hf.le, hf.new, hf.os, hf.tape, hf.output, hf.size, hf.same, fun i hu => ?_, fun b hb => ?_⟩
    · obtain ⟨b, l, hb, hl, e⟩ := hu
      rw [Hp.get_put_ne _ _ (hne b l hb)] at hl
      exact hf.used i ⟨b, l, hb, hl, e⟩
    · have : b ≠ x := fun e => by rw [e] at hb; exact hb h0
      rw [Hp.get_put_ne _ _ this]; exact hf.pres b hb
  obtain ⟨q1, q2⟩ := hr1.push (by rw [Hp.get_put_self]) ho hw h1 h2 h3 c hrel
  have he : ((h.put x .no).put x o).get = h.get := by
    funext b
    rw [Hp.get_put, Hp.get_put]
    split
    · rename_i e; rw [e, hg]
    · rfl
  rw [he] at q1 q2
  exact ⟨q1, hf1.trans q2⟩

/-- an operation that writes nothing, run when some slots are not known yet -/
theorem ne_step {μ : Inj} {t : Tm} {h : Hp} {x : Bid} {a : Act} {w : World} {D : P3 → Prop} (hN : N ≤ 512) {ops : Array Oper} {o : Oper} {co : COper} {op : NOp} (hc : compOper P N ops o = some co) (hop : co.op = .ne op)
    (ht : TRelP μ N t a D) (hr : HR μ h.get w) (hd : ∀ p ∈ readsP co, ¬ D p) {v : AV} {ob : Option AObj} (hx : ob ≠ none → μ x = none) (hk : neR co op t h x = some (v, ob))
    (next : Act → World → Prop) (Q : Exit → Act → World → Prop) (hn : ∀ cv w', NRes μ w x ob v cv w' → next (a.put o.dst cv) w') : Step P ops o a w next Q := by
  have hn0 : ∀ {b : Bool}, Region.wanted o (yielded ops a.tmps) = false → (some (AV.tup [], (none : Option AObj))) = some (v, ob) → Step P ops o a w next Q := by
    intro _ hw hk
    injection hk with hk; injection hk with h1 h2; subst h1 h2
    unfold Step
    rw [hw]
    simp only [Bool.false_eq_true, if_false]
    exact hn undef w ⟨rfl, rfl, rfl, rfl, by simp only [VRel]; exact ⟨#[], rfl, by simp [VRels]⟩⟩
  unfold compOper at hc
  split at hc
  · rename_i d g hdst hg
    split at hc
    · rename_i e xs he
      split at hc
      · injection hc with hc; rw [← hc] at hop; cases hop
      · injection hc with hc
        rw [← hc] at hop hk hd
        injection hop with hop
        subst hop
        simp only [neR] at hk
        rcases guard_okP (r := (v, ob)) hN ht hg (fun p b hgb => hd p (by rw [hgb]; simp [readsP])) hk with ⟨hw, hk⟩ | ⟨hw, hk⟩
        · simp [evL, nrun, badF] at hk
        · exact hn0 (b := true) hw hk
    · split at hc
      · rename_i he as has
        injection hc with hc
        rw [← hc] at hop hk hd
        injection hop with hop
        subst hop
        simp only [neR] at hk
        rcases guard_okP (r := (v, ob)) hN ht hg (fun p b hgb => hd p (by rw [hgb]; simp [readsP])) hk with ⟨hw, hk⟩ | ⟨hw, hk⟩
        · unfold Step
          rw [if_pos hw]; left
          obtain ⟨vs, hk, hvs⟩ := compOpds_okP ht has (fun p hp => hd p (by simp only [readsP]; cases g <;> simp [hp])) hk
          obtain ⟨v', ob', h1, cv, w', h2, h3⟩ := nrun_ok (P := P) (x := x) hr (fun v' o' hvo => hx (by injection hvo with e; injection e with _ e; rw [← e]; simp)) hvs hk
          injection h1 with h1; injection h1 with e1 e2; subst e1 e2
          unfold Oper.wp
          rw [h2]
          exact hn cv w' h3
        · exact hn0 (b := true) hw hk
      · rename_i he as has
        injection hc with hc
        rw [← hc] at hop hk hd
        injection hop with hop
        subst hop
        simp only [neR] at hk
        rcases guard_okP (r := (v, ob)) hN ht hg (fun p b hgb => hd p (by rw [hgb]; simp [readsP])) hk with ⟨hw, hk⟩ | ⟨hw, hk⟩
        · simp [evL, nrun, badF] at hk
        · exact hn0 (b := true) hw hk
  · cases hc

theorem dst_okP {μ : Inj} {t : Tm} {a : Act} {D : P3 → Prop} (hN : N ≤ 512) (ht : TRelP μ N t a D) {d : Option Nat} {p : Option P3} (hd : compDst N d = some p) {v : AV} {cv : Value} (hv : VRel μ v cv) {k' : Tm → Option β} (hk : dstK p v t k' = some r) :
    ∃ t', k' t' = some r ∧ TRelP μ N t' (a.put d cv) D ∧ (a.put d cv).defers = a.defers ∧ ∀ q, p ≠ some q → t'.get q = t.get q := by
  cases d with
  | none =>
    simp only [compDst, Option.some.injEq] at hd; subst hd
    exact ⟨t, hk, ht, rfl, fun _ _ => rfl⟩
  | some d =>
    simp only [compDst] at hd
    split at hd
    · rename_i hlt
      injection hd with hd; subst hd
      simp only [dstK, Tm.putK_eq] at hk
      have hdn := P3.toNat_ofNat d (by omega)
      refine ⟨_, hk, ⟨by simp [Act.put, ht.1], fun p hp => ?_⟩, rfl, fun q hq => by rw [Tm.get_put, if_neg (fun e => hq (by rw [e]))]⟩
      rw [Tm.get_put]
      simp only [Act.put]
      split
      · rename_i e; subst e; rw [hdn]
        simp [Array.getD_eq_getD_getElem?, ht.1, hlt]; exact hv
      · rename_i e
        have hne : d ≠ p.toNat := fun e' => e (P3.toNat_inj (by rw [hdn]; exact e'.symm))
        have := ht.2 p hp
        rw [Array.getD_eq_getD_getElem?] at this ⊢
        rw [Array.getElem?_setIfInBounds, if_neg hne]; exact this
    · cases hd
/-- a slot that the evaluator has written already -/
theorem dst_known {μ : Inj} {t : Tm} {a : Act} {D D' : P3 → Prop} (hN : N ≤ 512) (ht : TRelP μ N t a D) {d : Option Nat} {p : Option P3} (hd : compDst N d = some p) {cv : Value} (hv : ∀ q, p = some q → VRel μ (t.get q) cv) (hD : ∀ q, p ≠ some q → ¬ D' q → ¬ D q) :
    TRelP μ N t (a.put d cv) D' ∧ (a.put d cv).defers = a.defers := by
  cases d with
  | none =>
    simp only [compDst, Option.some.injEq] at hd; subst hd
    exact ⟨⟨ht.1, fun q hq => ht.2 q (hD q (by simp) hq)⟩, rfl⟩
  | some d =>
    simp only [compDst] at hd
    split at hd
    · rename_i hlt
      injection hd with hd; subst hd
      have hdn := P3.toNat_ofNat d (by omega)
      refine ⟨⟨by simp [Act.put, ht.1], fun q hq => ?_⟩, rfl⟩
      simp only [Act.put]
      by_cases e : P3.ofNat d = q
      · subst e
        rw [hdn]
        simp [Array.getD_eq_getD_getElem?, ht.1, hlt]; exact hv _ rfl
      · have hne : d ≠ q.toNat := fun e' => e (P3.toNat_inj (by rw [hdn]; exact e'))
        have := ht.2 q (hD q (fun e' => e (by injection e')) hq)
        rw [Array.getD_eq_getD_getElem?] at this ⊢
        rw [Array.getElem?_setIfInBounds, if_neg hne]; exact this
    · cases hd

theorem operK_okP (hN : N ≤ 512) {call : CALL β} (hcall : CallOK P call) {ops : Array Oper} {o : Oper} {co : COper} (hc : compOper P N ops o = some co) {μ : Inj} {t : Tm} {h : Hp} {x : Bid} {a : Act} {w : World} {D : P3 → Prop}
    (ht : TRelP μ N t a D) (hr : HR μ h.get w) (hdf : a.defers = []) (hd : ∀ p ∈ readsP co, ¬ D p) {k : KT β} (hk : operK P call co t h x k = some r)
    (next : Act → World → Prop) (Q : Exit → Act → World → Prop) (hn : ∀ t' h' x' a' w' μ', k t' h' x' = some r → TRelP μ' N t' a' D → HR μ' h'.get w' → a'.defers = [] → Fr μ h.get w μ' h'.get w' → (∀ q, co.dst ≠ some q → t'.get q = t.get q) → next a' w') : Step P ops o a w next Q := by
  unfold compOper at hc
  split at hc
  · rename_i d g hdst hg
    have key : ∀ (op : COp) (xs : List Operand) (as : List COpd), compOpds xs = some as → ((∃ e, compEF P o.op = some (e, xs) ∧ op = .eff e) ∨ (op = .ne (compNE P o.op).1 ∧ xs = (compNE P o.op).2) ∨ (op = .ne .bad)) → co = ⟨d, g, op, as⟩ → Step P ops o a w next Q := by
      intro op xs as has hop hco
      subst hco
      unfold operK at hk
      unfold Step
      rcases guard_okP hN ht hg (fun p b hgb => hd p (by rw [hgb]; simp [readsP])) hk with ⟨hw, hk⟩ | ⟨hw, hk⟩
      · rw [if_pos hw]; left
        obtain ⟨vs, hk, hvs⟩ := compOpds_okP ht has (fun p hp => hd p (by simp only [readsP]; cases g <;> simp [hp])) hk
        have hsim : OSim P μ h w o a (fun v h x => dstK d v t fun t => k t h x) r := by
          rcases hop with hop | hop | rfl
          · exact opRun_ok hcall hr (.inl hop) hvs hk
          · exact opRun_ok hcall hr (.inr hop) hvs hk
          · simp [opRun, nrun, badF] at hk
        refine hsim next Q fun v h' x' cv w' μ' hkv hv hr' hf => ?_
        obtain ⟨t', hk', ht', hdf', hg'⟩ := dst_okP hN (ht.mono hf.le) hdst hv hkv
        exact hn _ _ _ _ _ _ hk' ht' hr' (by rw [hdf']; exact hdf) hf hg'
      · rw [hw]
        simp only [Bool.false_eq_true, if_false]
        obtain ⟨t', hk', ht', hdf', hg'⟩ := dst_okP hN ht hdst (v := .tup []) (cv := undef) (by simp only [VRel]; exact ⟨#[], rfl, by simp [VRels]⟩) hk
        exact hn _ _ _ _ _ _ hk' ht' hr (by rw [hdf']; exact hdf) (Fr.refl _ _ _) hg'
    split at hc
    · rename_i e xs he
      split at hc
      · rename_i as has
        injection hc with hc
        exact key _ xs as has (.inl ⟨e, he, rfl⟩) hc.symm
      · injection hc with hc
        exact key _ [] [] rfl (.inr (.inr rfl)) hc.symm
    · rename_i he
      split at hc
      · rename_i as has
        injection hc with hc
        exact key _ _ as has (.inr (.inl ⟨rfl, rfl⟩)) hc.symm
      · injection hc with hc
        exact key _ [] [] rfl (.inr (.inr rfl)) hc.symm
  · cases hc
end
end Go.Proofs.Ytpcocfdgcihpdaa.Eng
