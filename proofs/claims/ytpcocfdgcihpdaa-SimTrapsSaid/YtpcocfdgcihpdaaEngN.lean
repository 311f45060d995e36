/-
  THE ENGINE, PART N: one operation, in its frame.
-/
import Derived.Test.YtpcocfdgcihpdaaEngM
namespace Go.Proofs.Ytpcocfdgcihpdaa.Eng
open Go
set_option linter.unusedVariables false
set_option linter.unusedSimpArgs false

section
variable {β : Type} {P : Program} {μ : Inj} {w : World} {r : β} {h : Hp} {x : Bid} {vs : List AV} {k : EK β} {a : Act} {N : Nat} {t : Tm}

/-- the slots -/
def TRel (μ : Inj) (N : Nat) (t : Tm) (a : Act) : Prop := a.tmps.size = N ∧ ∀ p : P3, VRel μ (t.get p) (a.tmps.getD p.toNat undef)
theorem TRel.mono {ν : Inj} (hl : Le μ ν) (ht : TRel μ N t a) : TRel ν N t a := ⟨ht.1, fun p => (ht.2 p).mono hl⟩
theorem TRel.put (ht : TRel μ N t a) {d : Nat} (hd : d < N) (hN : N ≤ 512) {v : AV} {cv : Value} (hv : VRel μ v cv) : TRel μ N (t.put (.ofNat d) v) (a.put (some d) cv) := by
  refine ⟨by simp [Act.put, ht.1], fun p => ?_⟩
  rw [Tm.get_put]
  have hdn := P3.toNat_ofNat d (by omega)
  simp only [Act.put]
  split
  · rename_i e; subst e; rw [hdn]
    simp [Array.getD_eq_getD_getElem?, ht.1, hd]; exact hv
  · rename_i e
    have hne : d ≠ p.toNat := fun e' => e (P3.toNat_inj (by rw [hdn]; exact e'.symm))
    have := ht.2 p
    rw [Array.getD_eq_getD_getElem?] at this ⊢
    rw [Array.getElem?_setIfInBounds, if_neg hne]; exact this
theorem compOpd_ok (ht : TRel μ N t a) {o : Operand} {c : COpd} (hc : compOpd o = some c) {k' : AV → Option β} (hk : evK c t k' = some r) : ∃ v, k' v = some r ∧ VRel μ v (a.eval o) := by
  unfold compOpd at hc
  split at hc
  · rename_i n
    split at hc
    · rename_i hn
      injection hc with hc; subst hc
      simp only [evK, avK_eq] at hk
      refine ⟨_, hk, ?_⟩
      have := ht.2 (.ofNat n)
      rw [P3.toNat_ofNat n hn] at this
      exact this
    · cases hc
  · rw [Option.map_eq_some_iff] at hc
    obtain ⟨v, hv, rfl⟩ := hc
    exact ⟨v, hk, toAV_ok hv μ⟩
  · injection hc with hc; subst hc
    refine ⟨_, hk, ?_⟩
    simp only [VRel, Act.eval]
    exact ⟨#[], #[], rfl, by simp [VRels], by simp [VRels]⟩
  · cases hc
theorem compOpds_ok (ht : TRel μ N t a) : ∀ {os : List Operand} {cs : List COpd}, compOpds os = some cs → ∀ {k' : List AV → Option β}, evL cs t k' = some r → ∃ vs, k' vs = some r ∧ VRels μ vs (os.map a.eval)
  | [], cs, hc, k', hk => by
    simp only [compOpds, Option.some.injEq] at hc; subst hc
    exact ⟨[], hk, by simp [VRels]⟩
  | o :: os, cs, hc, k', hk => by
    simp only [compOpds] at hc
    split at hc
    · rename_i c1 c2 h1 h2
      injection hc with hc; subst hc
      simp only [evL] at hk
      obtain ⟨v, hk, hv⟩ := compOpd_ok ht h1 hk
      obtain ⟨vs, hk, hvs⟩ := compOpds_ok ht h2 hk
      exact ⟨_, hk, by simp only [List.map_cons, VRels]; exact ⟨_, _, rfl, hv, hvs⟩⟩
    · cases hc

/-- what an operation hands on -/
def OSim {β : Type} (P : Program) (μ : Inj) (h : Hp) (w : World) (o : Oper) (a : Act) (k : EK β) (r : β) : Prop :=
  ∀ next Q, (∀ v h' x' cv w' μ', k v h' x' = some r → VRel μ' v cv → HR μ' h'.get w' → Fr μ h.get w μ' h'.get w' → next (a.put o.dst cv) w') → o.wp P a w next Q

def CallOK {β : Type} (P : Program) (call : CALL β) : Prop :=
  ∀ f vs h x k r μ w (args : Array Value), HR μ h.get w → VRels μ vs args.toList → call f vs h x k = some r →
    ∃ fn, P.funcs[f]? = some fn ∧ fn.name ≠ "runtime.NumGoroutine" ∧ fn.body.isSome = true ∧
      Calls P f args w fun e w' => ∃ v h' x' cv μ', k v h' x' = some r ∧ e = .returned cv ∧ VRel μ' v cv ∧ HR μ' h'.get w' ∧ Fr μ h.get w μ' h'.get w'

theorem EGood.sim {o : Oper} (hg : EGood P μ h w (execOp a.eval o) k r) : OSim P μ h w o a k r := by
  obtain ⟨v, h', x', h1, nx, cv, w', μ', h2, h3, h4, h5, h6⟩ := hg
  intro next Q hn
  unfold Oper.wp
  rw [h2]
  rcases h3 with rfl | ⟨rfl, rfl⟩
  · exact hn _ _ _ _ _ _ h1 h4 h5 h6
  · exact hn _ _ _ _ _ _ h1 h4 h5 h6
theorem NRes.fr (hr : HR μ h.get w) {ob : Option AObj} {v : AV} {cv : Value} {w' : World} (hn : NRes μ w x ob v cv w') {k' : Hp → Bid → Option β} (hk : newK ob h x k' = some r) :
    ∃ h' x' μ', k' h' x' = some r ∧ VRel μ' v cv ∧ HR μ' h'.get w' ∧ Fr μ h.get w μ' h'.get w' := by
  obtain ⟨h1, h2, h3, hn⟩ := hn
  cases ob with
  | none =>
    obtain ⟨h4, h5⟩ := hn
    have d : Drew w w' := ⟨h4, h1, h2, h3⟩
    exact ⟨h, x, μ, hk, h5, hr.drew d, Fr.drew d⟩
  | some o =>
    obtain ⟨hl, c, ho, h4, h5, h6⟩ := hn
    simp only [newK] at hk
    obtain ⟨hx, y, hk⟩ := freshK_ok hk
    rw [Hp.putK_eq] at hk
    obtain ⟨g1, g2⟩ := hr.push hx hl h4 h1 h2 h3 c h6
    exact ⟨_, _, _, hk, h5, g1, g2⟩
theorem newK_fresh {ob : Option AObj} {k' : Hp → Bid → Option β} (hk : newK ob h x k' = some r) (ho : ob ≠ none) : h.get x = .no := by
  cases ob with
  | none => exact absurd rfl ho
  | some o => simp only [newK] at hk; exact (freshK_ok hk).1

theorem run_callFunc {f : FuncId} {fn : Func} (hf : P.funcs[f]? = some fn) (hn : fn.name ≠ "runtime.NumGoroutine") (hb : fn.body.isSome = true) (args : Array Value) (w : World) : (callFunc f args).run P w = .ok (.enter f args) w := by
  have hb' : fn.body.isNone = false := by cases hx : fn.body <;> simp_all
  simp [callFunc, hf, hn]
  intro e; rw [e] at hb; cases hb
theorem callSim {call : CALL β} (hcall : CallOK P call) (hr : HR μ h.get w) {o : Oper} {f : FuncId} {args : Array Value} (hv : VRels μ vs args.toList) (hk : call f vs h x k = some r)
    (he : ∀ fn, P.funcs[f]? = some fn → fn.name ≠ "runtime.NumGoroutine" → fn.body.isSome = true → (execOp a.eval o).run P w = .ok (.enter f args) w) : OSim P μ h w o a k r := by
  obtain ⟨fn, h1, h2, h3, h4⟩ := hcall f vs h x k r μ w args hr hv hk
  intro next Q hn
  unfold Oper.wp
  rw [he fn h1 h2 h3]
  refine h4.mono fun e w' hh => ?_
  obtain ⟨v, h', x', cv, μ', q1, rfl, q2, q3, q4⟩ := hh
  exact hn _ _ _ _ _ _ q1 q2 q3 q4

theorem resolveM_ok {t : Nat} {name : String} {f : Nat} (hf : resolveM P t name = some f) (v : Value) (w : World) (n : Nat) : (method (n + 1) t v name).run P w = .ok (f, v) w := by
  unfold resolveM at hf
  split at hf
  · cases hf
  · rename_i i hi
    split at hf
    · cases hf
    · rename_i m hm
      split at hf
      · rename_i f' pr hp hfn
        have hpe : m.path = #[] := by simpa using hp
        split at hf
        · rename_i e hu
          injection hf with hf; subst hf
          simp [method, run_typeInfo hi, hm, hpe, hfn, follow, receiverAt, run_underlying hu, Place.get]
        · cases hf
        · rename_i d hnp hu
          injection hf with hf; subst hf
          simp only [method, Sem.run_bind, run_typeInfo hi, Result.andThen_ok, hm, hpe, hfn, follow, receiverAt]
          cases d <;> first | (exact absurd rfl (hnp _)) | (simp [run_underlying hu, follow, Place.get]; done) | skip
          all_goals simp [run_underlying hu, follow, Place.get]
        · cases hf
      · cases hf

/-- ONE OPERATION -/
theorem oper_ok {call : CALL β} (hcall : CallOK P call) (hr : HR μ h.get w) {o : Oper} {e : EOp} {xs : List Operand} (he : compEF P o.op = some (e, xs)) (hv : VRels μ vs (xs.map a.eval)) (hk : erun P call e vs h x k = some r) : OSim P μ h w o a k r := by
  unfold compEF at he
  split at he
  · -- assign
    rename_i y ho
    injection he with he; injection he with h1 h2; subst h1 h2
    refine EGood.sim ?_
    have : execOp a.eval o = Pure.pure (.value (a.eval y)) := by unfold execOp; rw [ho]
    rw [this]; exact assignE_ok hr hv hk
  · rename_i t y z ho
    split at he
    · rename_i n hn
      injection he with he; injection he with h1 h2; subst h1 h2
      refine EGood.sim ?_
      have : execOp a.eval o = (do Instr.storeAt t (a.eval y) (a.eval z); Pure.pure .skip) := by unfold execOp; rw [ho]
      rw [this]; exact storeE_ok hr hn hv hk
    · cases he
  · rename_i t m ky v ho
    split at he
    · rename_i kt et hu
      split at he
      · cases he
      · rename_i hke
        injection he with he; injection he with h1 h2; subst h1 h2
        refine EGood.sim ?_
        have : execOp a.eval o = (do Instr.mapUpdate t (a.eval m) (a.eval ky) (a.eval v); Pure.pure .skip) := by unfold execOp; rw [ho]
        rw [this]
        have hne : keyET (etOf P kt) ≠ .no := hke
        simp only [erun, keyET_self hne] at hk
        exact mapUpdE_ok hr hu hne hv hk
    · cases he
  · rename_i t m ky v ho
    split at he
    · rename_i kt et hu
      split at he
      · cases he
      · rename_i hke
        injection he with he; injection he with h1 h2; subst h1 h2
        refine EGood.sim ?_
        have : execOp a.eval o = (do Instr.mapUpdate t (a.eval m) (a.eval ky) (a.eval v); Pure.pure .skip) := by unfold execOp; rw [ho]
        rw [this]
        have hne : keyET (etOf P kt) ≠ .no := hke
        simp only [erun, keyET_self hne] at hk
        exact mapUpdE_ok hr hu hne hv hk
    · cases he
  · rename_i b as ts ho
    have hex : execOp a.eval o = builtin b ts o.type (as.map fun | .const _ => true | _ => false) (as.map a.eval) := by unfold execOp; rw [ho]; rfl
    unfold compBuiltinE at he
    split at he
    · rename_i y z t has ht
      split at he
      · rename_i e' u hu hu1
        split at he
        · rename_i i zs hi hz hss
          split at he
          · rename_i hzl
            injection he with he; injection he with h1 h2; subst h1 h2
            refine EGood.sim ?_
            rw [hex]
            have hm : as.map a.eval = #[a.eval y, a.eval z] := by rw [← Array.toList_inj]; simp [has]
            rw [hm]
            exact (appendE_ok hr ht hu1 hu hss hi hz hzl hv hk).up
          · cases he
        · cases he
      · cases he
    · rename_i y z t has ht
      split at he
      · rename_i e' hu
        split at he
        · rename_i n hn
          injection he with he; injection he with h1 h2; subst h1 h2
          refine EGood.sim ?_
          rw [hex]
          have hm : as.map a.eval = #[a.eval y, a.eval z] := by rw [← Array.toList_inj]; simp [has]
          rw [hm]
          exact (copyE_ok hr ht hu hn hv hk).up
        · cases he
      · cases he
    · cases he
  · -- a function
    rename_i f as ts ho
    injection he with he; injection he with h1 h2; subst h1 h2
    refine callSim hcall hr (args := as.map a.eval) (by simpa using hv) hk fun fn hf hn hb => ?_
    have : execOp a.eval o = callFunc f (#[] ++ as.map a.eval ++ #[]) := by unfold execOp; rw [ho]; rfl
    rw [this, run_callFunc hf hn hb]; simp
  · -- a function's value
    rename_i f as ts hnf ho
    injection he with he; injection he with h1 h2; subst h1 h2
    simp only [erun] at hk
    unfold callVE at hk
    split at hk
    · rename_i g fa ca vs'
      rw [appK_eq, appK_eq] at hk
      simp only [List.map_cons, VRels, VRel, List.cons.injEq] at hv
      obtain ⟨v1, r1, ⟨e1, rfl⟩, ⟨fx, cx, rfl, hfx, hcx⟩, hv⟩ := hv
      refine callSim hcall hr (args := fx ++ as.map a.eval ++ cx) (by simpa using (hfx.app hv).app hcx) hk fun fn hf hn hb => ?_
      have : execOp a.eval o = (do let d ← resolve a.eval ⟨.value f, as, ts⟩ o.type; invoke d.target d.args) := by unfold execOp; rw [ho]
      rw [this]
      simp [resolve, e1, Deferred.ofValue, invoke, run_callFunc hf hn hb]
    · cases hk
  · -- a method behind an interface
    rename_i rc nm as ts ho
    injection he with he; injection he with h1 h2; subst h1 h2
    simp only [erun] at hk
    unfold invokeE at hk
    split at hk
    · rename_i t v vs'
      simp only [List.map_cons, VRels, VRel, List.cons.injEq] at hv
      obtain ⟨v1, r1, ⟨e1, rfl⟩, ⟨y, rfl, hy⟩, hv⟩ := hv
      split at hk
      · rename_i f hf0
        refine callSim hcall hr (args := #[y] ++ as.map a.eval) (by simp only [Array.toList_append, VRels]; exact ⟨y, _, by simp; rfl, hy, by simpa using hv⟩) hk fun fn hf hn hb => ?_
        have : execOp a.eval o = (do let d ← resolve a.eval ⟨.invoke rc nm, as, ts⟩ o.type; invoke d.target d.args) := by unfold execOp; rw [ho]
        rw [this]
        have hm := resolveM_ok hf0 y w (P.types.size + 99)
        have hm' : (method (P.types.size + Made.depth) t y nm).run P w = .ok (f, y) w := hm
        have hcm : (callMethod (.iface t y) nm (as.map a.eval)).run P w = .ok (.enter f (#[y] ++ as.map a.eval)) w := by
          simp only [callMethod, Sem.run_bind, run_program, Result.andThen_ok, hm', run_callFunc hf hn hb]
        simp only [resolve, e1, pure_bind, invoke]
        have h0 : (#[Value.iface t y] ++ as.map a.eval)[0]? = some (.iface t y) := by
          rw [← Array.getElem?_toList, Array.toList_append]; rfl
        have h1 : (#[Value.iface t y] ++ as.map a.eval).extract 1 (#[Value.iface t y] ++ as.map a.eval).size = as.map a.eval := by
          rw [← Array.toList_inj]; simp
          exact List.take_of_length_le (by simp)
        rw [h0, h1]
        exact hcm
      · cases hk
    · cases hk
  · cases he
end
end Go.Proofs.Ytpcocfdgcihpdaa.Eng
