/-
  THE ENGINE, PART P: code and calls: what the evaluator answers, the call answers, in every world.
-/
import Derived.Test.YtpcocfdgcihpdaaEngO
namespace Go.Proofs.Ytpcocfdgcihpdaa.Eng
open Go
set_option linter.unusedVariables false
set_option linter.unusedSimpArgs false

def exOf : Ex → Exit
  | .nrm => .normal
  | .ext id => .exit id
  | .ret => .ret

/-- statements whose order is open -/
def RegDOK (β : Type) (P : Program) : Prop := ∀ (call : CALL β) (N : Nat) (ops : Array Oper), N ≤ 512 → CallOK P call → ∀ its, compD P N ops = .regD its → ∀ {μ : Inj} {t : Tm} {h : Hp} {x : Bid} {a : Act} {w : World} {k : KT β} {r : β} {Q : Exit → Act → World → Prop} {id : Nat},
  SRel μ N t h a w → runD P call its 0 [] t h x k = some r → (∀ t' h' x' a' w' μ', k t' h' x' = some r → SRel μ' N t' h' a' w' → Fr μ h.get w μ' h'.get w' → Q .normal a' w') → (Code.region id ops true).wp P Q a w

section
variable {β : Type} {P : Program} {r : β}

def LoopWp (P : Program) (c : Code) (Q : Exit → Act → World → Prop) (a : Act) (w : World) : Prop :=
  ∀ (b : Frame) (k : List Item) (cs : List Frame), ∃ e a' w', Q e a' w' ∧ Arrives P (lone (b.at a (.code c :: .inLoop c :: k)) cs w) b k cs e a' w'
theorem loop_of {c : Code} {Q : Exit → Act → World → Prop} {a : Act} {w : World} (h : LoopWp P c Q a w) : (Code.loop c).wp P Q a w :=
  fun b k cs => let ⟨e, a', w', q, s⟩ := h b k cs; ⟨e, a', w', q, .of_steps (.one step_loop) s⟩
theorem loop_round {c : Code} {Q : Exit → Act → World → Prop} {a : Act} {w : World} (h : c.wp P (Exit.then (LoopWp P c Q) Q) a w) : LoopWp P c Q a w := by
  intro b k cs
  obtain ⟨e, a₁, w₁, hq, harr⟩ := h b (.inLoop c :: k) cs
  cases e with
  | normal =>
    obtain ⟨e₂, a₂, w₂, hq₂, harr₂⟩ := hq b k cs
    exact ⟨e₂, a₂, w₂, hq₂, .of_steps (Steps.trans harr (.one step_inLoop)) harr₂⟩
  | exit id => exact ⟨_, a₁, w₁, hq, .pass (x := .inLoop c) rfl (fun _ _ => .inl (by simp)) harr⟩
  | goto l => exact ⟨_, a₁, w₁, hq, .pass (x := .inLoop c) rfl (fun _ _ => .inl (by simp)) harr⟩
  | ret => exact ⟨_, a₁, w₁, hq, .pass (x := .inLoop c) rfl (fun _ _ => .inl (by simp)) harr⟩
  | panic ch => exact ⟨_, a₁, w₁, hq, .pass (x := .inLoop c) rfl (fun _ _ => .inl (by simp)) harr⟩
  | outgrown => exact ⟨_, a₁, w₁, hq, .pass (x := .inLoop c) rfl (fun _ _ => .inl (by simp)) harr⟩

def ExecOK (β : Type) (P : Program) (T : CALL β → CALL β) (n : Nat) : Prop := ∀ N, N ≤ 512 → ∀ (code : Code) (μ : Inj) (t : Tm) (h : Hp) (x : Bid) (a : Act) (w : World) (k : KX β) (r : β) (Q : Exit → Act → World → Prop),
  SRel μ N t h a w → execT P T n (compC P N code) t h x k = some r → (∀ e t' h' x' a' w' μ', k e t' h' x' = some r → SRel μ' N t' h' a' w' → Fr μ h.get w μ' h'.get w' → Q (exOf e) a' w') → code.wp P Q a w
def LoopOK (β : Type) (P : Program) (T : CALL β → CALL β) (n : Nat) : Prop := ∀ N, N ≤ 512 → ∀ (code : Code) (μ : Inj) (t : Tm) (h : Hp) (x : Bid) (a : Act) (w : World) (k : KX β) (r : β) (Q : Exit → Act → World → Prop),
  SRel μ N t h a w → execT P T n (.loop (compC P N code)) t h x k = some r → (∀ e t' h' x' a' w' μ', k e t' h' x' = some r → SRel μ' N t' h' a' w' → Fr μ h.get w μ' h'.get w' → Q (exOf e) a' w') → LoopWp P code Q a w

theorem putAll_ok : ∀ (vs : List AV) (i : Nat) (t : Tm) (k' : Tm → Option β), putAll vs i t k' = some r → i + vs.length ≤ 512 → ∃ t', k' t' = some r ∧ ∀ p : P3, t'.get p = if i ≤ p.toNat ∧ p.toNat < i + vs.length then vs.getD (p.toNat - i) .un else t.get p
  | [], i, t, k', hk, hl => ⟨t, hk, fun p => by rw [if_neg (by simp)]⟩
  | v :: vs, i, t, k', hk, hl => by
    simp only [putAll, Tm.putK_eq, natK_eq] at hk
    simp only [List.length_cons] at hl
    obtain ⟨t', h1, h2⟩ := putAll_ok vs (i + 1) _ k' hk (by omega)
    refine ⟨t', h1, fun p => ?_⟩
    rw [h2 p, Tm.get_put]
    have hi := P3.toNat_ofNat i (by omega)
    simp only [List.length_cons]
    by_cases e : p = .ofNat i
    · subst e
      rw [hi, if_neg (by omega), if_pos rfl, if_pos (by omega)]; simp
    · have hne : p.toNat ≠ i := fun e' => e (P3.toNat_inj (by rw [hi]; exact e'))
      rw [if_neg e]
      by_cases e2 : i + 1 ≤ p.toNat ∧ p.toNat < i + 1 + vs.length
      · rw [if_pos e2, if_pos (by omega)]
        obtain ⟨j, hj⟩ : ∃ j, p.toNat = i + 1 + j := ⟨p.toNat - (i + 1), by omega⟩
        rw [hj, show i + 1 + j - (i + 1) = j by omega, show i + 1 + j - i = j + 1 by omega]; simp
      · rw [if_neg e2, if_neg (by omega)]

def resVar (tmps : Array Value) : ResultVar → Sem Value
  | .tmp t => pure (tmps.getD t undef)
  | .cell p ty => do loadVar ty (← asAddr (tmps.getD p undef))
def oneV (vs : Array Value) : Value := if h : vs.size = 1 then vs[0] else .tuple vs
theorem resK_ok {N : Nat} (hN : N ≤ 512) {μ : Inj} {t : Tm} {h : Hp} {a : Act} {w : World} (hs : SRel μ N t h a w) : ∀ (rs : List ResultVar) (cs : List RV), compRes P N rs = some cs → ∀ (k' : List AV → Option β), resK cs t h k' = some r →
    ∃ vs vals, k' vs = some r ∧ VRels μ vs vals ∧ (rs.mapM (resVar a.tmps)).run P w = .ok vals w
  | [], cs, hc, k', hk => by
    simp only [compRes, Option.some.injEq] at hc; subst hc
    exact ⟨[], [], hk, by simp [VRels], by simp⟩
  | .tmp n :: rs, cs, hc, k', hk => by
    simp only [compRes] at hc
    split at hc
    · rename_i cr hcr
      split at hc
      · rename_i hn
        injection hc with hc; subst hc
        simp only [resK, avK_eq] at hk
        obtain ⟨vs, vals, h1, h2, h3⟩ := resK_ok hN hs rs cr hcr _ hk
        have hv := hs.tm.2 (.ofNat n)
        rw [P3.toNat_ofNat n (Nat.lt_of_lt_of_le hn hN)] at hv
        refine ⟨_, a.tmps.getD n undef :: vals, h1, by simp only [VRels]; exact ⟨_, _, rfl, hv, h2⟩, ?_⟩
        simp only [List.mapM_cons, resVar, Sem.run_bind, Sem.run_pure, Result.andThen_ok, h3]
      · cases hc
    · cases hc
  | .cell n ty :: rs, cs, hc, k', hk => by
    simp only [compRes] at hc
    split at hc
    · rename_i cr g hcr hg
      split at hc
      · rename_i hn
        injection hc with hc; subst hc
        simp only [resK] at hk
        split at hk
        · rename_i b o hp
          have hv := hs.tm.2 (.ofNat n)
          rw [P3.toNat_ofNat n (Nat.lt_of_lt_of_le hn hN), hp] at hv
          simp only [VRel] at hv
          obtain ⟨l, hl, hv⟩ := hv
          obtain ⟨c, hkn, hk⟩ := knownK_ok hk
          have hat := (hs.hp.ok b l hl).at hkn
          obtain ⟨v, cv, hk, hrun, hrel⟩ := run_loadVar_at hg hat hk
          obtain ⟨vs, vals, h1, h2, h3⟩ := resK_ok hN hs rs cr hcr _ hk
          refine ⟨_, cv :: vals, h1, by simp only [VRels]; exact ⟨_, _, rfl, hrel, h2⟩, ?_⟩
          simp only [List.mapM_cons, resVar, Sem.run_bind, hv, asAddr, Sem.run_pure, Result.andThen_ok, hrun, h3]
        · cases hk
      · cases hc
    · cases hc
theorem oneK_ok {μ : Inj} {vs : List AV} {vals : List Value} (hv : VRels μ vs vals) {k' : AV → Option β} (hk : oneK vs k' = some r) : ∃ v, k' v = some r ∧ VRel μ v (oneV vals.toArray) := by
  have hl := hv.length
  unfold oneK at hk
  split at hk
  · simp only [VRels] at hv
    obtain ⟨v1, r1, rfl, hv, rfl⟩ := hv
    exact ⟨_, hk, by simpa [oneV] using hv⟩
  · rename_i hne
    refine ⟨_, hk, ?_⟩
    unfold oneV
    rw [dif_neg]
    · simp only [VRel]; exact ⟨_, rfl, hv⟩
    · intro h1
      have : vs.length = 1 := by simpa [hl] using h1
      obtain ⟨v, rfl⟩ := List.length_eq_one_iff.1 this
      exact hne v rfl
theorem run_results {fn : Func} {tmps : Array Value} {w : World} {vals : List Value} (h : (fn.results.toList.mapM (resVar tmps)).run P w = .ok vals w) :
    (results fn tmps).run P w = .ok (oneV vals.toArray) w := by
  have e : results fn tmps = (do let vs ← fn.results.mapM (resVar tmps); pure (oneV vs)) := by
    unfold results oneV
    congr 1
  rw [e, Array.mapM_eq_mapM_toList]
  simp [h]

/-- what is put over the calls says what is so -/
def TabOK (P : Program) (T : CALL β → CALL β) : Prop := ∀ call, CallOK P call → CallOK P (T call)
theorem callOf_ok {T : CALL β → CALL β} {n : Nat} (hex : ExecOK β P T n) : CallOK P (callOf P (execT (β := β) P T n)) := by
  intro f vs h x k r μ w args hr hv hk
  unfold callOf at hk
  split at hk
  · rename_i cf hcf
    unfold compFun at hcf
    split at hcf
    · cases hcf
    · rename_i fn hfn
      split at hcf
      · rename_i c rs hb hrs
        split at hcf
        · rename_i hc
          injection hcf with hcf; subst hcf
          obtain ⟨hN, hname⟩ := hc
          refine ⟨fn, hfn, hname, by rw [hb]; rfl, calls_of_wp hfn hb ?_⟩
          simp only [runFun] at hk
          split at hk
          · rename_i hle; rw [Nat.ble_eq] at hle
            obtain ⟨t', hk, ht'⟩ := putAll_ok vs 0 e3 _ hk (by omega)
            have hlen : vs.length = args.size := by simpa using hv.length
            have hs : SRel μ fn.ntmps t' h { tmps := args ++ Array.replicate (fn.ntmps - args.size) undef, defers := [] } w := by
              refine ⟨⟨by simp; omega, fun p => ?_⟩, hr, rfl⟩
              rw [ht' p, e3_get]
              by_cases hp : p.toNat < vs.length
              · rw [if_pos (by omega)]
                have hget : vs[p.toNat]? = some (vs.getD (p.toNat - 0) .un) := by simp [hp]
                obtain ⟨y, hy, hrel⟩ := hv.get hget
                rw [Array.getElem?_toList] at hy
                have : (args ++ Array.replicate (fn.ntmps - args.size) undef).getD p.toNat undef = y := by
                  rw [Array.getD_eq_getD_getElem?, Array.getElem?_append, if_pos (by omega), hy]; rfl
                simp only at this ⊢
                rw [this]; exact hrel
              · rw [if_neg (by omega)]; simp [VRel]
            refine hex fn.ntmps hN c μ t' h x _ w _ r _ hs hk fun e t2 h2 x2 a2 w2 μ2 hk2 hs2 hf2 => ?_
            have hfin : e ≠ .ext (match e with | .ext i => i | _ => 0) → ∃ (vs2 : List AV) (vals : List Value), (oneK vs2 fun v => k v h2 x2) = some r ∧ VRels μ2 vs2 vals ∧ (results fn a2.tmps).run P w2 = .ok (oneV vals.toArray) w2 := by
              intro hne
              cases e with
              | ext i => exact absurd rfl hne
              | nrm => obtain ⟨vs2, vals, q1, q2, q3⟩ := resK_ok hN hs2 _ _ hrs _ hk2; exact ⟨vs2, vals, q1, q2, run_results q3⟩
              | ret => obtain ⟨vs2, vals, q1, q2, q3⟩ := resK_ok hN hs2 _ _ hrs _ hk2; exact ⟨vs2, vals, q1, q2, run_results q3⟩
            cases e with
            | ext i => cases hk2
            | nrm =>
              obtain ⟨vs2, vals, q1, q2, q3⟩ := hfin (by simp)
              obtain ⟨v, q4, q5⟩ := oneK_ok q2 q1
              exact ⟨hs2.df, _, q3, v, h2, x2, _, μ2, q4, rfl, q5, hs2.hp, hf2⟩
            | ret =>
              obtain ⟨vs2, vals, q1, q2, q3⟩ := hfin (by simp)
              obtain ⟨v, q4, q5⟩ := oneK_ok q2 q1
              exact ⟨hs2.df, _, q3, v, h2, x2, _, μ2, q4, rfl, q5, hs2.hp, hf2⟩
          · cases hk
        · cases hcf
      · cases hcf
  · cases hk

theorem exec_step {T : CALL β → CALL β} {n : Nat} (hT : TabOK P T) (hD : RegDOK β P) (hex : ExecOK β P T n) (hlp : LoopOK β P T n) : ExecOK β P T (n + 1) := by
  intro N hN code μ t h x a w k r Q hs hk hn
  have hcall := hT _ (callOf_ok hex)
  cases code with
  | skip => exact wp_skip (hn .nrm _ _ _ _ _ _ hk hs (Fr.refl _ _ _))
  | label l => exact wp_label (hn .nrm _ _ _ _ _ _ hk hs (Fr.refl _ _ _))
  | region id ops d =>
    cases d with
    | false =>
      simp only [compC] at hk
      split at hk
      · rename_i l hl
        refine wp_region ?_
        rw [List.range_eq_range']
        have := regsK_ok hN hcall ops.toList l 0 (by simp) hl (Q := Q) hs hk fun t' h' x' a' w' μ' hk' hs' hf' => hn .nrm _ _ _ _ _ _ hk' hs' hf'
        simpa using this
      · cases hk
    | true =>
      simp only [compC] at hk
      cases hD' : compD P N ops with
      | regD its =>
        rw [hD'] at hk
        obtain ⟨t1, ht1, hk⟩ := normD_ok hs.tm hk
        have hs : SRel μ N t1 h a w := ⟨ht1, hs.hp, hs.df⟩
        exact hD _ N ops hN hcall its hD' hs hk fun t' h' x' a' w' μ' hk' hs' hf' => hn .nrm _ _ _ _ _ _ hk' hs' hf'
      | bad => rw [hD'] at hk; cases hk
      | _ =>
        unfold compD at hD'
        split at hD'
        · split at hD' <;> cases hD'
        · cases hD'
  | seq x1 y1 =>
    simp only [compC] at hk
    refine wp_seq (hex N hN x1 μ t h x a w _ r _ hs hk fun e t' h' x' a' w' μ' hk' hs' hf' => ?_)
    cases e with
    | nrm => exact hex N hN y1 μ' t' h' x' a' w' _ r _ hs' hk' fun e2 t2 h2 x2 a2 w2 μ2 hk2 hs2 hf2 => hn _ _ _ _ _ _ _ hk2 hs2 (hf'.trans hf2)
    | ext id => exact hn (.ext id) _ _ _ _ _ _ hk' hs' hf'
    | ret => exact hn .ret _ _ _ _ _ _ hk' hs' hf'
  | cond c x1 y1 =>
    simp only [compC] at hk
    split at hk
    · rename_i c' hc'
      obtain ⟨t1, ht1, hk⟩ := normC_ok hs.tm hk
      have hs : SRel μ N t1 h a w := ⟨ht1, hs.hp, hs.df⟩
      obtain ⟨v, hk, hv⟩ := compOpd_ok hs.tm hc' hk
      unfold condK at hk
      split at hk
      · simp only [VRel] at hv
        exact wp_cond_true hv (hex N hN x1 μ t1 h x a w _ r _ hs hk hn)
      · simp only [VRel] at hv
        exact wp_cond_false hv (hex N hN y1 μ t1 h x a w _ r _ hs hk hn)
      · simp only [VRel] at hv
        rcases symFork_ok hk with ⟨e, hk'⟩ | ⟨e, hk'⟩
        · rw [e] at hv; exact wp_cond_true hv (hex N hN x1 μ t1 h x a w _ r _ hs hk' hn)
        · rw [e] at hv; exact wp_cond_false hv (hex N hN y1 μ t1 h x a w _ r _ hs hk' hn)
      · cases hk
    · cases hk
  | block id c =>
    simp only [compC] at hk
    refine wp_block (hex N hN c μ t h x a w _ r _ hs hk fun e t' h' x' a' w' μ' hk' hs' hf' => ?_)
    cases e with
    | nrm => exact hn .nrm _ _ _ _ _ _ hk' hs' hf'
    | ext j =>
      simp only [blockK] at hk'
      cases hj : Nat.beq j id with
      | true =>
        rw [hj] at hk'
        rw [Nat.beq_eq] at hj; subst hj
        simp only [exOf, Exit.inBlock, if_true]
        exact hn .nrm _ _ _ _ _ _ hk' hs' hf'
      | false =>
        rw [hj] at hk'
        have hne : j ≠ id := fun e' => by rw [← Nat.beq_eq] at e'; rw [e'] at hj; cases hj
        simp only [exOf, Exit.inBlock, hne, if_false]
        exact hn (.ext j) _ _ _ _ _ _ hk' hs' hf'
    | ret => exact hn .ret _ _ _ _ _ _ hk' hs' hf'
  | loop c =>
    simp only [compC] at hk
    refine loop_of (loop_round (hex N hN c μ t h x a w _ r _ hs hk fun e t' h' x' a' w' μ' hk' hs' hf' => ?_))
    cases e with
    | nrm => exact hlp N hN c μ' t' h' x' a' w' _ r _ hs' hk' fun e2 t2 h2 x2 a2 w2 μ2 hk2 hs2 hf2 => hn _ _ _ _ _ _ _ hk2 hs2 (hf'.trans hf2)
    | ext id => exact hn (.ext id) _ _ _ _ _ _ hk' hs' hf'
    | ret => exact hn .ret _ _ _ _ _ _ hk' hs' hf'
  | exit id => exact wp_exit (hn (.ext id) _ _ _ _ _ _ hk hs (Fr.refl _ _ _))
  | ret => exact wp_ret (hn .ret _ _ _ _ _ _ hk hs (Fr.refl _ _ _))
  | scope c =>
    simp only [compC] at hk
    refine wp_scope_straight ?_
    have hk2 : execT P T n (compC P N c) t h x k = some r := by
      have h1 : execT P T n .skip t h x (seqK (execT P T n) (compC P N c) k) = some r := hk
      cases n with
      | zero => cases h1
      | succ n => exact h1
    refine hex N hN c μ t h x a w _ r _ hs hk2 fun e t' h' x' a' w' μ' hk' hs' hf' => ?_
    cases e with
    | nrm => exact hn .nrm _ _ _ _ _ _ hk' hs' hf'
    | ext j => exact hn (.ext j) _ _ _ _ _ _ hk' hs' hf'
    | ret => exact hn .ret _ _ _ _ _ _ hk' hs' hf'
  | rangeFunc f ps as bd => cases hk
  | goto l => cases hk
  | refuse s => cases hk
theorem loop_step {T : CALL β → CALL β} {n : Nat} (hex : ExecOK β P T n) (hlp : LoopOK β P T n) : LoopOK β P T (n + 1) := by
  intro N hN c μ t h x a w k r Q hs hk hn
  refine loop_round (hex N hN c μ t h x a w _ r _ hs hk fun e t' h' x' a' w' μ' hk' hs' hf' => ?_)
  cases e with
  | nrm => exact hlp N hN c μ' t' h' x' a' w' _ r _ hs' hk' fun e2 t2 h2 x2 a2 w2 μ2 hk2 hs2 hf2 => hn _ _ _ _ _ _ _ hk2 hs2 (hf'.trans hf2)
  | ext id => exact hn (.ext id) _ _ _ _ _ _ hk' hs' hf'
  | ret => exact hn .ret _ _ _ _ _ _ hk' hs' hf'
theorem exec_ok {T : CALL β → CALL β} (hT : TabOK P T) (hD : RegDOK β P) : ∀ n, ExecOK β P T n ∧ LoopOK β P T n
  | 0 => ⟨fun N hN code μ t h x a w k r Q hs hk hn => (by cases hk), fun N hN code μ t h x a w k r Q hs hk hn => (by cases hk)⟩
  | n + 1 => ⟨exec_step hT hD (exec_ok hT hD n).1 (exec_ok hT hD n).2, loop_step (exec_ok hT hD n).1 (exec_ok hT hD n).2⟩
end

/-- A CLOSED CALL: what the evaluator answers from empty memory, the call answers in every world -/
theorem closed_call {P : Program} (hD : RegDOK AV P) (n f : Nat) (v : AV) (hrun : callOf P (exec P n) f [] f5 b0 (fun v _ _ => some v) = some v) (w : World) :
    Calls P f #[] w fun e w' => (∃ cv μ', e = .returned cv ∧ VRel μ' v cv) ∧ Go.RowKit.Below w.heap.size w w' := by
  have hc := callOf_ok (exec_ok (T := keepC) (fun _ h => h) hD n).1
  have hr : HR (fun _ => none) f5.get w := ⟨fun b l hb => (by cases hb), fun b b' l l' hb => (by cases hb)⟩
  obtain ⟨fn, _, _, _, h⟩ := hc f [] f5 b0 _ v _ w #[] hr (by simp [VRels]) hrun
  refine h.mono fun e w' hh => ?_
  obtain ⟨v', h', x', cv, μ', q1, q2, q3, q4, q5⟩ := hh
  injection q1 with q1; subst q1
  exact ⟨⟨cv, μ', q2, q3⟩, ⟨q5.os, q5.tape, q5.output, q5.size, fun i hi => q5.same i hi fun hu => by obtain ⟨b, l, hb, _⟩ := hu; cases hb⟩⟩
end Go.Proofs.Ytpcocfdgcihpdaa.Eng
