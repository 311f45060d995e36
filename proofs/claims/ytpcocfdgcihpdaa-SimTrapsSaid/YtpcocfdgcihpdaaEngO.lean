/-
  THE ENGINE, PART O: regions in the order of the text; code; calls.
-/
import Derived.Test.YtpcocfdgcihpdaaEngN
namespace Go.Proofs.Ytpcocfdgcihpdaa.Eng
open Go
set_option linter.unusedVariables false
set_option linter.unusedSimpArgs false

section
variable {β : Type} {P : Program} {r : β} {N : Nat}

structure SRel (μ : Inj) (N : Nat) (t : Tm) (h : Hp) (a : Act) (w : World) : Prop where
  tm : TRel μ N t a
  hp : HR μ h.get w
  df : a.defers = []

/-- one operation, wanted or not -/
def Step (P : Program) (ops : Array Oper) (o : Oper) (a : Act) (w : World) (next : Act → World → Prop) (Q : Exit → Act → World → Prop) : Prop :=
  if Region.wanted o (yielded ops a.tmps) then o.wp P a w next Q ∨ (o.asks P a w ∧ LetsOut Q) else next (a.put o.dst undef) w

theorem dst_ok {μ : Inj} {t : Tm} {a : Act} (hN : N ≤ 512) (ht : TRel μ N t a) {d : Option Nat} {p : Option P3} (hd : compDst N d = some p) {v : AV} {cv : Value} (hv : VRel μ v cv) {k' : Tm → Option β} (hk : dstK p v t k' = some r) :
    ∃ t', k' t' = some r ∧ TRel μ N t' (a.put d cv) ∧ (a.put d cv).defers = a.defers := by
  cases d with
  | none =>
    simp only [compDst, Option.some.injEq] at hd; subst hd
    exact ⟨t, hk, ht, rfl⟩
  | some d =>
    simp only [compDst] at hd
    split at hd
    · rename_i hlt
      injection hd with hd; subst hd
      simp only [dstK, Tm.putK_eq] at hk
      exact ⟨_, hk, ht.put hlt hN hv, rfl⟩
    · cases hd

/-- is it wanted? -/
theorem guard_ok {μ : Inj} {t : Tm} {a : Act} (hN : N ≤ 512) (ht : TRel μ N t a) {ops : Array Oper} {o : Oper} {g : Option (P3 × Bool)} (hg : compGuard ops N o.guard = some g) {yes no : Option β} (hk : guardK g t yes no = some r) :
    (Region.wanted o (yielded ops a.tmps) = true ∧ yes = some r) ∨ (Region.wanted o (yielded ops a.tmps) = false ∧ no = some r) := by
  cases hgo : o.guard with
  | none =>
    rw [hgo] at hg
    simp only [compGuard, Option.some.injEq] at hg; subst hg
    exact .inl ⟨by simp [Region.wanted, hgo], hk⟩
  | some jb =>
    obtain ⟨j, b⟩ := jb
    rw [hgo] at hg
    simp only [compGuard] at hg
    split at hg
    · rename_i o' ho'
      split at hg
      · rename_i d hd
        split at hg
        · rename_i hlt
          injection hg with hg; subst hg
          have hv := ht.2 (.ofNat d)
          rw [P3.toNat_ofNat d (Nat.lt_of_lt_of_le hlt hN), Array.getD_eq_getD_getElem?] at hv
          have hsome : ∃ y, a.tmps[d]? = some y := ⟨a.tmps[d]'(by rw [ht.1]; exact hlt), by simp [ht.1, hlt]⟩
          obtain ⟨y, hy⟩ := hsome
          rw [hy] at hv
          simp only [Option.getD_some] at hv
          have hyl : yielded ops a.tmps j = match y with | .bool b => some b | _ => none := by
            simp only [yielded, ho', Option.bind_some, hd, hy]
            cases y <;> rfl
          simp only [guardK] at hk
          split at hk
          · rename_i bb hbb
            rw [hbb] at hv
            simp only [VRel] at hv; subst hv
            split at hk
            · rename_i e
              left; refine ⟨?_, hk⟩
              simp only [Region.wanted, hgo, hyl]; simpa using e
            · rename_i e
              right; refine ⟨?_, hk⟩
              simp only [Region.wanted, hgo, hyl]; simpa using e
          · rename_i bb gg hbb
            rw [hbb] at hv
            simp only [VRel] at hv; subst hv
            split at hk
            · rcases symFork_ok hk with ⟨e, hk⟩ | ⟨e, hk⟩
              · left; refine ⟨?_, hk⟩
                simp only [Region.wanted, hgo, hyl]; simpa using e
              · right; refine ⟨?_, hk⟩
                simp only [Region.wanted, hgo, hyl]; simpa using e
            · rcases symFork_ok hk with ⟨e, hk⟩ | ⟨e, hk⟩
              · right; refine ⟨?_, hk⟩
                simp only [Region.wanted, hgo, hyl]; simpa using e
              · left; refine ⟨?_, hk⟩
                simp only [Region.wanted, hgo, hyl]; simpa using e
          · rename_i l hl
            rw [hl] at hv
            simp only [VRel] at hv; obtain ⟨cs, rfl, _⟩ := hv
            right; refine ⟨?_, hk⟩
            simp only [Region.wanted, hgo, hyl]; rfl
          · cases hk
        · cases hg
      · cases hg
    · cases hg

theorem normP_ok {μ : Inj} {t : Tm} {a : Act} (ht : TRel μ N t a) {p : P3} {k : Tm → Option β} (hk : normP p t k = some r) : ∃ t', TRel μ N t' a ∧ k t' = some r := by
  unfold normP normV at hk
  split at hk
  · rename_i b g hb
    have hv := ht.2 p
    rw [hb] at hv
    simp only [VRel] at hv
    have key : ∀ v : AV, VRel μ v (.bool b) → TRel μ N (t.put p v) a := by
      intro v hvv
      refine ⟨ht.1, fun q => ?_⟩
      rw [Tm.get_put]
      split
      · rename_i e; subst e; rw [hv]; exact hvv
      · exact ht.2 q
    rcases symFork_ok hk with ⟨e, h1⟩ | ⟨e, h1⟩
    · rw [Tm.putK_eq] at h1; exact ⟨_, key (.bool true) (by simp only [VRel, e]), h1⟩
    · rw [Tm.putK_eq] at h1; exact ⟨_, key (.bool false) (by simp only [VRel, e]), h1⟩
  · exact ⟨t, ht, hk⟩
theorem normZ_ok {μ : Inj} {t : Tm} {a : Act} (ht : TRel μ N t a) {p : P3} {k : Tm → Option β} (hk : normZ p t k = some r) : ∃ t', TRel μ N t' a ∧ k t' = some r := by
  unfold normZ normZV at hk
  split at hk
  · rename_i kd n g hb
    have hv := ht.2 p
    rw [hb] at hv
    simp only [VRel] at hv
    rcases symFork_ok hk with ⟨e, h1⟩ | ⟨e, h1⟩
    · cases h1
    · rw [Tm.putK_eq] at h1
      refine ⟨_, ⟨ht.1, fun q => ?_⟩, h1⟩
      rw [Tm.get_put]
      split
      · rename_i e'; subst e'; rw [hv]; simp only [VRel]; exact ⟨trivial, of_decide_eq_false e⟩
      · exact ht.2 q
  · exact ⟨t, ht, hk⟩
theorem normS_ok {μ : Inj} {a : Act} {p : P3} : ∀ {l : List DIt} {t : Tm} {k : Tm → Option β}, TRel μ N t a → normS p l t k = some r → ∃ t', TRel μ N t' a ∧ k t' = some r
  | [], t, k, ht, hk => normZ_ok ht hk
  | .ne i o op last :: l, t, k, ht, hk => by
    simp only [normS] at hk
    split at hk
    · obtain ⟨t1, ht1, hk⟩ := normZ_ok ht hk
      exact normS_ok ht1 hk
    · exact normS_ok ht hk
  | .eff i o op :: l, t, k, ht, hk => by
    simp only [normS] at hk
    exact normS_ok ht hk
theorem normD_ok {μ : Inj} {a : Act} {all : List DIt} : ∀ {l : List DIt} {t : Tm} {k : Tm → Option β}, TRel μ N t a → normD all l t k = some r → ∃ t', TRel μ N t' a ∧ k t' = some r
  | [], t, k, ht, hk => ⟨t, ht, hk⟩
  | .ne i o op last :: l, t, k, ht, hk => by
    simp only [normD] at hk
    split at hk
    · obtain ⟨t1, ht1, hk⟩ := normS_ok ht hk
      exact normD_ok ht1 hk
    · exact normD_ok ht hk
  | .eff i o op :: l, t, k, ht, hk => by
    simp only [normD] at hk
    exact normD_ok ht hk
theorem normG_ok {μ : Inj} {t : Tm} {a : Act} (ht : TRel μ N t a) {g : Option (P3 × Bool)} {k : Tm → Option β} (hk : normG g t k = some r) : ∃ t', TRel μ N t' a ∧ k t' = some r := by
  cases g with
  | none => exact ⟨t, ht, hk⟩
  | some q => exact normP_ok ht hk
theorem normC_ok {μ : Inj} {t : Tm} {a : Act} (ht : TRel μ N t a) {c : COpd} {k : Tm → Option β} (hk : normC c t k = some r) : ∃ t', TRel μ N t' a ∧ k t' = some r := by
  cases c with
  | cst v => exact ⟨t, ht, hk⟩
  | tmp p => exact normP_ok ht hk

theorem opRun_ok {call : CALL β} (hcall : CallOK P call) {μ : Inj} {h : Hp} {w : World} {x : Bid} {vs : List AV} {k : EK β} {a : Act} (hr : HR μ h.get w) {o : Oper} {co : COp} {xs : List Operand}
    (hc : (∃ e, compEF P o.op = some (e, xs) ∧ co = .eff e) ∨ (co = .ne (compNE P o.op).1 ∧ xs = (compNE P o.op).2)) (hv : VRels μ vs (xs.map a.eval)) (hk : opRun P call co vs h x k = some r) : OSim P μ h w o a k r := by
  rcases hc with ⟨e, he, rfl⟩ | ⟨rfl, rfl⟩
  · exact oper_ok hcall hr he hv hk
  · simp only [opRun] at hk
    obtain ⟨v, ob, h1, cv, w', h2, h3⟩ := nrun_ok (P := P) (x := x) hr (fun v o hvo => hr.fresh (newK_fresh hvo (by simp))) hv hk
    obtain ⟨h', x', μ', q1, q2, q3, q4⟩ := h3.fr hr h1
    intro next Q hn
    unfold Oper.wp
    rw [h2]
    exact hn _ _ _ _ _ _ q1 q2 q3 q4

theorem operK_ok (hN : N ≤ 512) {call : CALL β} (hcall : CallOK P call) {ops : Array Oper} {o : Oper} {co : COper} (hc : compOper P N ops o = some co) {μ : Inj} {t : Tm} {h : Hp} {x : Bid} {a : Act} {w : World} (hs : SRel μ N t h a w) {k : KT β} (hk : operK P call co t h x k = some r)
    (next : Act → World → Prop) (Q : Exit → Act → World → Prop) (hn : ∀ t' h' x' a' w' μ', k t' h' x' = some r → SRel μ' N t' h' a' w' → Fr μ h.get w μ' h'.get w' → next a' w') : Step P ops o a w next Q := by
  unfold compOper at hc
  split at hc
  · rename_i d g hd hg
    have key : ∀ (op : COp) (xs : List Operand) (as : List COpd), compOpds xs = some as → ((∃ e, compEF P o.op = some (e, xs) ∧ op = .eff e) ∨ (op = .ne (compNE P o.op).1 ∧ xs = (compNE P o.op).2) ∨ (op = .ne .bad)) → co = ⟨d, g, op, as⟩ → Step P ops o a w next Q := by
      intro op xs as has hop hco
      subst hco
      unfold operK at hk
      unfold Step
      rcases guard_ok hN hs.tm hg hk with ⟨hw, hk⟩ | ⟨hw, hk⟩
      · rw [if_pos hw]; left
        obtain ⟨vs, hk, hvs⟩ := compOpds_ok hs.tm has hk
        have hsim : OSim P μ h w o a (fun v h x => dstK d v t fun t => k t h x) r := by
          rcases hop with hop | hop | rfl
          · exact opRun_ok hcall hs.hp (.inl hop) hvs hk
          · exact opRun_ok hcall hs.hp (.inr hop) hvs hk
          · simp [opRun, nrun, badF] at hk
        refine hsim next Q fun v h' x' cv w' μ' hkv hv hr' hf => ?_
        obtain ⟨t', hk', ht', hdf⟩ := dst_ok hN (hs.tm.mono hf.le) hd hv hkv
        exact hn _ _ _ _ _ _ hk' ⟨ht', hr', by rw [hdf]; exact hs.df⟩ hf
      · rw [hw]
        simp only [Bool.false_eq_true, if_false]
        obtain ⟨t', hk', ht', hdf⟩ := dst_ok hN hs.tm hd (v := .tup []) (cv := undef) (by simp only [VRel]; exact ⟨#[], rfl, by simp [VRels]⟩) hk
        exact hn _ _ _ _ _ _ hk' ⟨ht', hs.hp, by rw [hdf]; exact hs.df⟩ (Fr.refl _ _ _)
    split at hc
    · rename_i e xs he
      split at hc
      · rename_i as has
        injection hc with hc
        exact key _ xs as has (.inl ⟨e, he, rfl⟩) hc.symm
      · injection hc with hc
        exact key _ [] [] rfl (.inr (.inr rfl)) hc.symm
    · rename_i he
      split at hc
      · rename_i as has
        injection hc with hc
        exact key _ _ as has (.inr (.inl ⟨rfl, rfl⟩)) hc.symm
      · injection hc with hc
        exact key _ [] [] rfl (.inr (.inr rfl)) hc.symm
  · cases hc

theorem wpOps_cons {ops : Array Oper} {i : Nat} {o : Oper} (ho : ops[i]? = some o) {rest : List Nat} {a : Act} {w : World} {Q : Exit → Act → World → Prop} (hs : Step P ops o a w (wpOps P ops Q rest) Q) : wpOps P ops Q (i :: rest) a w := by
  simp only [wpOps, ho]; exact hs

theorem regsK_ok (hN : N ≤ 512) {call : CALL β} (hcall : CallOK P call) {ops : Array Oper} {Q : Exit → Act → World → Prop} : ∀ (l : List Oper) (cs : List COper) (i : Nat), ops.toList.drop i = l → compOpers P N ops l = some cs → ∀ {μ : Inj} {t : Tm} {h : Hp} {x : Bid} {a : Act} {w : World} {k : KT β},
    SRel μ N t h a w → regsK P call cs t h x k = some r → (∀ t' h' x' a' w' μ', k t' h' x' = some r → SRel μ' N t' h' a' w' → Fr μ h.get w μ' h'.get w' → Q .normal a' w') → wpOps P ops Q (List.range' i l.length) a w
  | [], cs, i, hl, hc, μ, t, h, x, a, w, k, hs, hk, hn => by
    simp only [compOpers, Option.some.injEq] at hc; subst hc
    exact hn _ _ _ _ _ _ hk hs (Fr.refl _ _ _)
  | o :: l, cs, i, hl, hc, μ, t, h, x, a, w, k, hs, hk, hn => by
    simp only [compOpers] at hc
    split at hc
    · rename_i c1 c2 h1 h2
      injection hc with hc; subst hc
      have ho : ops[i]? = some o := by
        have := congrArg (·[0]?) hl
        simp only [List.getElem?_drop, Nat.add_zero, List.getElem?_cons_zero, Array.getElem?_toList] at this
        exact this
      have hl' : ops.toList.drop (i + 1) = l := by
        have := congrArg (·.drop 1) hl
        simpa [List.drop_drop, Nat.add_comm] using this
      simp only [List.length_cons, List.range'_succ]
      simp only [regsK] at hk
      obtain ⟨t1, ht1, hk⟩ := normG_ok hs.tm hk
      have hs : SRel μ N t1 h a w := ⟨ht1, hs.hp, hs.df⟩
      refine wpOps_cons ho (operK_ok hN hcall h1 hs hk _ _ fun t' h' x' a' w' μ' hk' hs' hf => ?_)
      exact regsK_ok hN hcall l c2 (i + 1) hl' h2 hs' hk' fun t2 h2 x2 a2 w2 μ2 hk2 hs2 hf2 => hn _ _ _ _ _ _ hk2 hs2 (hf.trans hf2)
    · cases hc
end
end Go.Proofs.Ytpcocfdgcihpdaa.Eng
