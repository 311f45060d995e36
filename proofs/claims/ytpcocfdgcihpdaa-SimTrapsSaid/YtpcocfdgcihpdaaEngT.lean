/-
  THE ENGINE, PART T: statements whose order is open: every schedule leads to what the evaluator has found.
-/
import Derived.Test.YtpcocfdgcihpdaaEngS
namespace Go.Proofs.Ytpcocfdgcihpdaa.Eng
open Go
set_option linter.unusedVariables false
set_option linter.unusedSimpArgs false

section
variable {β : Type} {P : Program} {r : β} {N : Nat} {ops : Array Oper} {cs : List COper} {an : List Nat} {all : List DIt}

/-- slots of operations that are not done -/
def Dirty (S : Nat → Prop) (pend : List Pend) (p : P3) : Prop := ∃ q ∈ pend, q.o.dst = some p ∧ ¬ S q.i

/-- what the checker has seen of a statement -/
structure Facts (P : Program) (N : Nat) (ops : Array Oper) (cs : List COper) (an : List Nat) (all : List DIt) : Prop where
  hN : N ≤ 512
  comp : compOpers P N ops ops.toList = some cs
  good : ∀ it ∈ all, GoodIt cs it
  nodup : idxNodup all = true
  allin : allIn all ops.toList.length = true
  chain : chainOk an all none = true
  last : lastOk an (effsOf all) all = true
  read : readOk an all all = true
  dst : dstOk all = true
  anc : ancOk an ops.toList 0 = true

theorem Facts.op (F : Facts P N ops cs an all) {i : Nat} {co : COper} (hc : cs[i]? = some co) : ∃ o, ops[i]? = some o ∧ compOper P N ops o = some co := by
  obtain ⟨o, h1, h2⟩ := (compOpers_get F.comp).2 i co hc
  exact ⟨o, by simpa using h1, h2⟩
theorem Facts.lt (F : Facts P N ops cs an all) {i : Nat} {co : COper} (hc : cs[i]? = some co) : i < ops.size := by
  obtain ⟨o, h1, h2⟩ := F.op hc
  rcases Nat.lt_or_ge i ops.size with h | h
  · exact h
  · simp [Array.getElem?_eq_none h] at h1
theorem Facts.idx (F : Facts P N ops cs an all) {it : DIt} (hi : it ∈ all) : cs[it.idx]? = some it.oper := by
  have := F.good it hi
  cases it with
  | ne i o op last => exact this.1
  | eff i o op => exact this.1
theorem Facts.deps (F : Facts P N ops cs an all) {i j : Nat} (hi : dep ops i j) : j < i := by
  obtain ⟨o, ho, e, he, hb, rfl⟩ := hi
  have := (ancOk_ok F.anc i o (by simpa using ho)).1 e he hb
  omega
theorem Facts.ancs (F : Facts P N ops cs an all) {i j : Nat} (hi : i < ops.size) (hj : (an.getD i 0).testBit j = true) : ∃ j', dep ops i j' ∧ (j' = j ∨ (an.getD j' 0).testBit j = true) := by
  have ho : ops[i]? = some ops[i] := by simp [hi]
  have := (ancOk_ok F.anc i ops[i] (by simp [hi])).2 j (by rw [Nat.zero_add]; exact hj)
  obtain ⟨e, h1, h2, h3⟩ := ancBit_ok this
  exact ⟨e.on, ⟨_, ho, e, h1, h2, rfl⟩, h3⟩

structure Inv (P : Program) (N : Nat) (ops : Array Oper) (cs : List COper) (an : List Nat) (all : List DIt) (μ0 : Inj) (g0 : Bid → AObj) (w0 : World) (S : Nat → Prop) (pre rest : List DIt) (k : Nat) (pend : List Pend) (t : Tm) (h : Hp) (a : Act) (w : World) (μ : Inj) : Prop where
  split : all = pre ++ rest
  effs : ∀ e ∈ effsOf pre, S e
  notyet : ∀ it ∈ rest, ¬ S it.idx
  st : k = (effsOf pre).length
  mem : ∀ q ∈ pend, .ne q.i q.o q.op q.last ∈ pre
  has : ∀ i o op last, .ne i o op last ∈ pre → ∃ q ∈ pend, q.i = i
  clo : ∀ i, S i → i < ops.size → ∀ j, (an.getD i 0).testBit j = true → S j
  tm : TRelP μ N t a (Dirty S pend)
  hp : HR μ h.get w
  df : a.defers = []
  fr : Fr μ0 g0 w0 μ h.get w
  pn : ∀ q ∈ pend, q.ob ≠ none → h.get q.id ≠ .no ∧ g0 q.id = .no ∧ (¬ S q.i → μ q.id = none)
  ids : ∀ q ∈ pend, ∀ q' ∈ pend, q.ob ≠ none → q'.ob ≠ none → q.id = q'.id → q.i = q'.i
  vals : ∀ q ∈ pend, ∀ p, q.o.dst = some p → t.get p = q.v

variable {μ0 : Inj} {g0 : Bid → AObj} {w0 : World} {S : Nat → Prop} {pre rest : List DIt} {k : Nat} {pend : List Pend} {t : Tm} {h : Hp} {a : Act} {w : World} {μ : Inj}

theorem HR.grow (hr : HR μ h.get w) {x : Bid} (hx : h.get x = .no) (o : AObj) : HR μ (h.put x o).get w := by
  have hf := hr.fresh hx
  have hne : ∀ b l, μ b = some l → b ≠ x := fun b l hb e => by rw [e, hf] at hb; cases hb
  refine ⟨fun b l hb => ?_, fun b b' l l' hb hb' e1 e2 e3 => ?_⟩
  · rw [Hp.get_put_ne _ _ (hne b l hb)]; exact hr.ok b l hb
  · rw [Hp.get_put_ne _ _ (hne b l hb)] at e1
    rw [Hp.get_put_ne _ _ (hne b' l' hb')] at e2
    exact hr.inj b b' l l' hb hb' e1 e2 e3
theorem Fr.grow (hf : Fr μ0 g0 w0 μ h.get w) (hr : HR μ h.get w) {x : Bid} (hx : h.get x = .no) {o : AObj} (ho : o ≠ .no) : Fr μ0 g0 w0 μ (h.put x o).get w := by
  have hfx := hr.fresh hx
  have hne : ∀ b l, μ b = some l → b ≠ x := fun b l hb e => by rw [e, hfx] at hb; cases hb
  refine ⟨hf.le, hf.new, hf.os, hf.tape, hf.output, hf.size, hf.same, fun i hu => ?_, fun b hb => ?_⟩
  · obtain ⟨b, l, hb, hl, e⟩ := hu
    rw [Hp.get_put_ne _ _ (hne b l hb)] at hl
    exact hf.used i ⟨b, l, hb, hl, e⟩
  · rw [Hp.get_put]
    split
    · exact ho
    · exact hf.pres b hb

/-- those that write nothing, up to the next one that writes -/
theorem group_ok (F : Facts P N ops cs an all) {call : CALL β} {K : KT β} : ∀ (rest : List DIt) (pre : List DIt) (pend : List Pend) (t : Tm) (h : Hp) (x : Bid), Inv P N ops cs an all μ0 g0 w0 S pre rest k pend t h a w μ → runD P call rest k pend t h x K = some r →
    ∃ pre' rest' pend' t' h' x', Inv P N ops cs an all μ0 g0 w0 S pre' rest' k pend' t' h' a w μ ∧ (rest' = [] ∨ ∃ i o op l, rest' = .eff i o op :: l) ∧ runD P call rest' k pend' t' h' x' K = some r
  | [], pre, pend, t, h, x, I, hk => ⟨pre, [], pend, t, h, x, I, .inl rfl, hk⟩
  | .eff i o op :: l, pre, pend, t, h, x, I, hk => ⟨pre, _, pend, t, h, x, I, .inr ⟨i, o, op, l, rfl⟩, hk⟩
  | .ne i o op last :: l, pre, pend, t, h, x, I, hk => by
    simp only [runD] at hk
    split at hk
    · rename_i v ob hv
      split at hk
      · rename_i hob
        have hnS : ¬ S i := I.notyet (.ne i o op last) (by simp)
        have hsplit : all = (pre ++ [.ne i o op last]) ++ l := by rw [I.split]; simp
        have hdst := dstOk_ok (pre := pre) (rest := .ne i o op last :: l) (by rw [← I.split]; exact F.dst)
        -- the slot
        have step2 : ∀ (h' : Hp) (y : Bid) (t' : Tm), HR μ h'.get w → Fr μ0 g0 w0 μ h'.get w → (∀ b, h.get b ≠ .no → h'.get b ≠ .no) → (ob ≠ none → h.get x = .no ∧ h'.get x ≠ .no) →
            (∀ p, o.dst = some p → t'.get p = v) → (∀ p, o.dst ≠ some p → t'.get p = t.get p) → runD P call l k (⟨i, o, op, last, x, v, ob⟩ :: pend) t' h' y K = some r →
            ∃ pre' rest' pend' t' h' x', Inv P N ops cs an all μ0 g0 w0 S pre' rest' k pend' t' h' a w μ ∧ (rest' = [] ∨ ∃ i o op l, rest' = .eff i o op :: l) ∧ runD P call rest' k pend' t' h' x' K = some r := by
          intro h' y t' hr' hf' hpres hobx htv htn hk'
          refine group_ok F l (pre ++ [.ne i o op last]) (⟨i, o, op, last, x, v, ob⟩ :: pend) t' h' y ?_ hk'
          refine ⟨hsplit, fun e he => I.effs e ?_, fun it hit => I.notyet it (by simp [hit]), ?_, ?_, ?_, I.clo, ⟨I.tm.1, fun p hp => ?_⟩, hr', I.df, hf', ?_, ?_, ?_⟩
          · rw [effsOf_app] at he; simpa [effsOf] using he
          · rw [effsOf_app]; simp [effsOf, I.st]
          · intro q hq
            rcases List.mem_cons.1 hq with rfl | hq
            · simp
            · have := I.mem q hq; simp [this]
          · intro i' o' op' last' hi'
            rcases List.mem_append.1 hi' with hi' | hi'
            · obtain ⟨q, h1, h2⟩ := I.has i' o' op' last' hi'
              exact ⟨q, by simp [h1], h2⟩
            · simp only [List.mem_singleton, DIt.ne.injEq] at hi'
              exact ⟨⟨i, o, op, last, x, v, ob⟩, by simp, hi'.1.symm⟩
          · have hne : o.dst ≠ some p := fun e => hp ⟨⟨i, o, op, last, x, v, ob⟩, by simp, e, hnS⟩
            rw [htn p hne]
            exact I.tm.2 p fun ⟨q, h1, h2, h3⟩ => hp ⟨q, by simp [h1], h2, h3⟩
          · intro q hq hqo
            rcases List.mem_cons.1 hq with rfl | hq
            · obtain ⟨e1, e2⟩ := hobx hqo
              refine ⟨e2, ?_, fun _ => I.hp.fresh e1⟩
              by_cases e : g0 x = .no
              · exact e
              · exact absurd e1 (I.fr.pres x e)
            · obtain ⟨e1, e2, e3⟩ := I.pn q hq hqo
              exact ⟨hpres _ e1, e2, e3⟩
          · intro q hq q' hq' hqo hqo' e
            rcases List.mem_cons.1 hq with rfl | hq
            · rcases List.mem_cons.1 hq' with rfl | hq'
              · rfl
              · have := (I.pn q' hq' hqo').1
                rw [← e] at this
                exact absurd (hobx hqo).1 this
            · rcases List.mem_cons.1 hq' with rfl | hq'
              · have := (I.pn q hq hqo).1
                rw [e] at this
                exact absurd (hobx hqo').1 this
              · exact I.ids q hq q' hq' hqo hqo' e
          · intro q hq p hp
            rcases List.mem_cons.1 hq with rfl | hq
            · exact htv p hp
            · have := hdst.1 q.i q.o q.op q.last (I.mem q hq) p hp (.ne i o op last) (by simp)
              rw [htn p this]
              exact I.vals q hq p hp
        have slot : ∀ (h' : Hp) (y : Bid), HR μ h'.get w → Fr μ0 g0 w0 μ h'.get w → (∀ b, h.get b ≠ .no → h'.get b ≠ .no) → (ob ≠ none → h.get x = .no ∧ h'.get x ≠ .no) →
            (dstK o.dst v t fun t => runD P call l k (⟨i, o, op, last, x, v, ob⟩ :: pend) t h' y K) = some r →
            ∃ pre' rest' pend' t' h' x', Inv P N ops cs an all μ0 g0 w0 S pre' rest' k pend' t' h' a w μ ∧ (rest' = [] ∨ ∃ i o op l, rest' = .eff i o op :: l) ∧ runD P call rest' k pend' t' h' x' K = some r := by
          intro h' y hr' hf' hpres hobx hk'
          cases hd : o.dst with
          | none =>
            rw [hd] at hk'
            exact step2 h' y t hr' hf' hpres hobx (fun p hp => by rw [hd] at hp; cases hp) (fun p _ => rfl) hk'
          | some p0 =>
            rw [hd] at hk'
            simp only [dstK, Tm.putK_eq] at hk'
            refine step2 h' y _ hr' hf' hpres hobx (fun p hp => ?_) (fun p hp => ?_) hk'
            · rw [hd] at hp; injection hp with hp; subst hp
              rw [Tm.get_put, if_pos rfl]
            · rw [Tm.get_put, if_neg]
              intro e; exact hp (by rw [hd, e])
        cases ob with
        | none =>
          simp only [newK] at hk
          exact slot h x I.hp I.fr (fun _ hb => hb) (fun e => absurd rfl e) hk
        | some o' =>
          simp only [newK] at hk
          obtain ⟨hx, y, hk⟩ := freshK_ok hk
          rw [Hp.putK_eq] at hk
          have ho' : o' ≠ .no := fun e => by rw [e] at hob; simp [okOb] at hob
          refine slot _ y (I.hp.grow hx o') (I.fr.grow I.hp hx ho') (fun b hb => ?_) (fun _ => ⟨hx, ?_⟩) hk
          · rw [Hp.get_put]
            split
            · exact ho'
            · exact hb
          · rw [Hp.get_put, if_pos rfl]; exact ho'
      · cases hk
    · cases hk

/-- what has been asked ahead of the next one that writes, or of the end -/
theorem asked {call : CALL β} {K : KT β} {x : Bid} (hrest : rest = [] ∨ ∃ i o op l, rest = .eff i o op :: l) (hk : runD P call rest k pend t h x K = some r) : ∃ c, checkAll k t h pend c = some r := by
  rcases hrest with rfl | ⟨i, o, op, l, rfl⟩
  · exact ⟨_, hk⟩
  · exact ⟨_, hk⟩

theorem Inv.inS (F : Facts P N ops cs an all) (I : Inv P N ops cs an all μ0 g0 w0 S pre rest k pend t h a w μ) {i : Nat} (hi : i < ops.size) (hd : ∀ j, dep ops i j → S j) : ∀ j, (an.getD i 0).testBit j = true → S j := by
  intro j hj
  obtain ⟨j', h1, h2⟩ := F.ancs hi hj
  have hj' := hd j' h1
  rcases h2 with rfl | h2
  · exact hj'
  · exact I.clo j' hj' (Nat.lt_trans (F.deps h1) hi) j h2
theorem Inv.size (F : Facts P N ops cs an all) (I : Inv P N ops cs an all μ0 g0 w0 S pre rest k pend t h a w μ) {q : Pend} (hq : q ∈ pend) : q.i < ops.size ∧ cs[q.i]? = some q.o ∧ q.o.op = .ne q.op := by
  have hm : DIt.ne q.i q.o q.op q.last ∈ all := by rw [I.split]; simp [I.mem q hq]
  have := F.good _ hm
  exact ⟨F.lt this.1, this.1, this.2⟩
/-- one that is not done is asked still -/
theorem Inv.asks (F : Facts P N ops cs an all) (I : Inv P N ops cs an all μ0 g0 w0 S pre rest k pend t h a w μ) {q : Pend} (hq : q ∈ pend) (hn : ¬ S q.i) : k ≤ q.last := by
  rcases Nat.lt_or_ge q.last k with hlt | hge
  · exfalso
    rw [I.st] at hlt
    have he : (effsOf all)[q.last]? = some (effsOf pre)[q.last] := by
      rw [I.split, effsOf_app, List.getElem?_append_left hlt]; simp [hlt]
    have hm : DIt.ne q.i q.o q.op q.last ∈ all := by rw [I.split]; simp [I.mem q hq]
    have hb := lastOk_ok F.last q.i q.o q.op q.last hm _ he
    have hes : (effsOf pre)[q.last] ∈ effsOf pre := List.getElem_mem hlt
    obtain ⟨o, op, hmem⟩ := effsOf_mem hes
    have hcs := F.idx (it := .eff _ o op) (by rw [I.split]; exact List.mem_append_left _ hmem)
    exact hn (I.clo _ (I.effs _ hes) (F.lt hcs) _ hb)
  · exact hge

theorem sched_ok (F : Facts P N ops cs an all) {call : CALL β} (hcall : CallOK P call) {K : KT β} {Q : Exit → Act → World → Prop}
    (hn : ∀ t' h' x' a' w' μ', K t' h' x' = some r → SRel μ' N t' h' a' w' → Fr μ0 g0 w0 μ' h'.get w' → Q .normal a' w') :
    ∀ (l : List Nat) (S : Nat → Prop), Sched ops S l → ∀ (pre rest : List DIt) (k : Nat) (pend : List Pend) (t : Tm) (h : Hp) (x : Bid) (a : Act) (w : World) (μ : Inj),
      Inv P N ops cs an all μ0 g0 w0 S pre rest k pend t h a w μ → (rest = [] ∨ ∃ i o op l, rest = .eff i o op :: l) → runD P call rest k pend t h x K = some r → wpOps P ops Q l a w := by
  intro l S hs
  induction hs with
  | nil hall =>
    intro pre rest k pend t h x a w μ I hrest hk
    rcases hrest with rfl | ⟨i, o, op, l, rfl⟩
    · simp only [runD] at hk
      obtain ⟨hk, _⟩ := checkAll_ok hk
      refine hn t h x a w μ hk ⟨⟨I.tm.1, fun p => I.tm.2 p ?_⟩, I.hp, I.df⟩ I.fr
      rintro ⟨q, hq, _, h3⟩
      exact h3 (hall _ (I.size F hq).1)
    · have hcs := F.idx (it := .eff i o op) (by rw [I.split]; simp)
      exact absurd (hall _ (F.lt hcs)) (I.notyet (.eff i o op) (by simp))
  | @cons S i l hi hnS hdep _ ih =>
    intro pre rest k pend t h x a w μ I hrest hk
    have hin := I.inS F hi hdep
    obtain ⟨it, hit, hidx⟩ := allIn_ok F.allin i (by simpa using hi)
    have hcs := F.idx hit
    rw [hidx] at hcs
    obtain ⟨o, ho, hco⟩ := F.op hcs
    -- what it reads is known
    have hread : ∀ p ∈ readsP it.oper, ¬ Dirty S pend p := by
      rintro p hp ⟨q, hq, h2, h3⟩
      have hm : DIt.ne q.i q.o q.op q.last ∈ all := by rw [I.split]; simp [I.mem q hq]
      have := readOk_ok F.read it hit q.i q.o q.op q.last hm p h2 hp
      rw [hidx] at this
      exact h3 (hin _ this)
    have hclo' : ∀ j, (j = i ∨ S j) → j < ops.size → ∀ j', (an.getD j 0).testBit j' = true → (j' = i ∨ S j') := by
      rintro j (rfl | hj) hlt j' hb
      · exact .inr (hin j' hb)
      · exact .inr (I.clo j hj hlt j' hb)
    have hmem : it ∈ pre ∨ it ∈ rest := by rw [I.split] at hit; exact List.mem_append.1 hit
    have hnd := idxNodup_ok (pre := pre) (rest := rest) (by rw [← I.split]; exact F.nodup)
    refine wpOps_cons ho ?_
    rcases hmem with hmem | hmem
    · cases it with
      | eff i' o' op' =>
        simp only [DIt.idx] at hidx; subst hidx
        exact absurd (I.effs _ (mem_effsOf hmem)) hnS
      | ne i' o' op' last' =>
        simp only [DIt.idx] at hidx; subst hidx
        obtain ⟨q, hq, hqi⟩ := I.has _ _ _ _ hmem
        obtain ⟨c, hc⟩ := asked hrest hk
        obtain ⟨_, hca⟩ := checkAll_ok hc
        subst hqi
        obtain ⟨s1, s2, s3⟩ := I.size F hq
        obtain ⟨hv, hob⟩ := hca q hq (I.asks F hq hnS)
        simp only [DIt.oper] at hcs hread
        rw [s2] at hcs
        injection hcs with hcs; subst hcs
        have hx : q.ob ≠ none → μ q.id = none := fun e => (I.pn q hq e).2.2 hnS
        have hdcomp : compDst N o.dst = some q.o.dst := by
          unfold compOper at hco
          split at hco
          · rename_i d g hd hg
            rw [hd]
            split at hco
            · split at hco <;> (injection hco with hco; have e9 := congrArg COper.dst hco; simp only [DIt.oper] at e9; rw [← e9])
            · split at hco <;> (injection hco with hco; have e9 := congrArg COper.dst hco; simp only [DIt.oper] at e9; rw [← e9])
          · cases hco
        refine ne_step F.hN hco s3 I.tm I.hp hread hx hv _ _ fun cv w' hres => ?_
        have fin : ∀ μ', Le μ μ' → (∀ q' ∈ pend, q'.ob ≠ none → ¬ (q'.i = q.i ∨ S q'.i) → μ' q'.id = none) → VRel μ' q.v cv → HR μ' h.get w' → Fr μ0 g0 w0 μ' h.get w' → wpOps P ops Q l (a.put o.dst cv) w' := by
          intro μ' hle hpn' hv' hr' hf'
          obtain ⟨t1, t2⟩ := dst_known (D' := Dirty (fun x => x = q.i ∨ S x) pend) F.hN (I.tm.mono hle) hdcomp (cv := cv) (fun p hp => by rw [I.vals q hq p hp]; exact hv') (fun p hp hnd hd => by
            obtain ⟨q', h1, h2, h3⟩ := hd
            refine hnd ⟨q', h1, h2, ?_⟩
            rintro (e | e)
            · have e2 := (I.size F h1).2.1
              rw [e, s2] at e2
              injection e2 with e2
              rw [e2] at hp; exact hp h2
            · exact h3 e)
          refine ih pre rest k pend t h x _ w' μ' ⟨I.split, fun e he => .inr (I.effs e he), fun it hit => ?_, I.st, I.mem, I.has, hclo', t1, hr', by rw [t2]; exact I.df, hf', fun q' hq' e => ?_, I.ids, I.vals⟩ hrest hk
          · rintro (e | e)
            · exact hnd.1 _ hmem it hit e.symm
            · exact I.notyet it hit e
          · obtain ⟨e1, e2, e3⟩ := I.pn q' hq' e
            exact ⟨e1, e2, hpn' q' hq' e⟩
        obtain ⟨n1, n2, n3, hres⟩ := hres
        cases hqo : q.ob with
        | none =>
          rw [hqo] at hres
          obtain ⟨n4, n5⟩ := hres
          have d : Drew w w' := ⟨n4, n1, n2, n3⟩
          exact fin μ (Le.refl _) (fun q' h1 h2 h3 => (I.pn q' h1 h2).2.2 fun e => h3 (.inr e)) n5 (I.hp.drew d) (I.fr.trans (Fr.drew d))
        | some ob =>
          have hne : q.ob ≠ none := by rw [hqo]; simp
          rw [hqo] at hres
          obtain ⟨hl, c', hob', n4, n5, n6⟩ := hres
          have hxx := hx hne
          obtain ⟨g1, g2⟩ := I.hp.push' hxx (hob ob hqo) hl n4 n1 n2 n3 c' n6 I.fr (I.pn q hq hne).2.1
          refine fin _ (le_upd _ hxx) (fun q' h1 h2 h3 => ?_) n5 g1 g2
          have hid : q'.id ≠ q.id := fun e => h3 (.inl (I.ids q' h1 q hq h2 hne e))
          unfold upd
          rw [if_neg hid]
          exact (I.pn q' h1 h2).2.2 fun e => h3 (.inr e)
    · rcases hrest with rfl | ⟨i0, o0, op0, l0, rfl⟩
      · simp at hmem
      · obtain ⟨e0, hch⟩ := chain_app (pre := pre) (rest := .eff i0 o0 op0 :: l0) (by rw [← I.split]; exact F.chain)
        simp only [chainOk, Bool.and_eq_true] at hch
        rcases List.mem_cons.1 hmem with rfl | hmem
        · simp only [DIt.idx] at hidx; subst hidx
          simp only [runD] at hk
          obtain ⟨hk, hca⟩ := checkAll_ok hk
          simp only [DIt.oper] at hcs hread
          have hdst := dstOk_ok (pre := pre) (rest := .eff i0 o0 op0 :: l0) (by rw [← I.split]; exact F.dst)
          refine operK_okP F.hN hcall hco I.tm I.hp I.df hread hk _ _ fun t' h' x' a' w' μ' hk' ht' hr' hdf' hf' htg => ?_
          rw [natK_eq] at hk'
          have hD : ∀ p, ¬ Dirty (fun x => x = i0 ∨ S x) pend p → ¬ Dirty S pend p := by
            rintro p hp ⟨q, h1, h2, h3⟩
            refine hp ⟨q, h1, h2, ?_⟩
            rintro (e | e)
            · exact hnd.1 _ (I.mem q h1) (.eff i0 o0 op0) (by simp) e
            · exact h3 e
          have I' : Inv P N ops cs an all μ0 g0 w0 (fun x => x = i0 ∨ S x) (pre ++ [.eff i0 o0 op0]) l0 (k + 1) pend t' h' a' w' μ' := by
            refine ⟨by rw [I.split]; simp, fun e he => ?_, fun it hit => ?_, ?_, fun q hq => by have := I.mem q hq; simp [this], fun i' o' op' last' hi' => ?_, hclo', ⟨ht'.1, fun p hp => ht'.2 p (hD p hp)⟩, hr', hdf', I.fr.trans hf', fun q hq hqo => ?_, I.ids, fun q hq p hp => ?_⟩
            · rw [effsOf_app] at he
              simp only [effsOf, List.mem_append, List.mem_singleton] at he
              rcases he with he | he
              · exact .inr (I.effs e he)
              · exact .inl he
            · rintro (e | e)
              · have := (idxNodup_ok (pre := [.eff i0 o0 op0]) (rest := l0) hnd.2).1 (.eff i0 o0 op0) (by simp) it hit
                exact this e.symm
              · exact I.notyet it (by simp [hit]) e
            · rw [effsOf_app]; simp [effsOf, I.st]
            · rcases List.mem_append.1 hi' with hi' | hi'
              · exact I.has i' o' op' last' hi'
              · simp at hi'
            · obtain ⟨e1, e2, e3⟩ := I.pn q hq hqo
              refine ⟨hf'.pres _ e1, e2, fun e => ?_⟩
              have hnone := e3 fun e' => e (.inr e')
              cases hμ : μ' q.id with
              | none => rfl
              | some lc => exact absurd (hf'.new q.id hnone (by rw [hμ]; simp)) e1
            · have := hdst.1 q.i q.o q.op q.last (I.mem q hq) p hp (.eff i0 o0 op0) (by simp)
              rw [htg p this]
              exact I.vals q hq p hp
          obtain ⟨pre', rest', pend', t2, h2, x2, I2, hr2, hk2⟩ := group_ok F l0 _ _ _ _ _ I' hk'
          exact ih pre' rest' (k + 1) pend' t2 h2 x2 a' w' μ' I2 hr2 hk2
        · obtain ⟨e', h1, h2⟩ := chain_behind hch.2 it hmem
          rw [hidx] at h2
          have hS := hin e' h2
          rcases h1 with rfl | h1
          · exact absurd hS (I.notyet (.eff e' o0 op0) (by simp))
          · obtain ⟨o1, op1, h3⟩ := effsOf_mem h1
            exact absurd hS (I.notyet (.eff e' o1 op1) (by simp [h3]))

/-- STATEMENTS WHOSE ORDER IS OPEN -/
theorem regD_ok : RegDOK β P := by
  intro call N ops hN hcall its hc μ t h x a w k r Q id hs hk hn
  unfold compD at hc
  split at hc
  · rename_i cs hcs
    split at hc
    · rename_i hb
      injection hc with hc
      rw [Bool.and_eq_true, hc] at hb
      obtain ⟨hmix, hb⟩ := hb
      simp only [okD, Bool.and_eq_true] at hb
      obtain ⟨b1, b2, b3, b4, b5, b6, b7, b8⟩ := hb
      have F : Facts P N ops cs (ancs ops.toList) its := ⟨hN, hcs, by rw [← hc] at b1 ⊢; exact itOk_good cs _ b1, b2, b3, b4, b5, b6, b7, b8⟩
      refine wp_region_draw fun tt => ?_
      rw [hmix]
      simp only [Region.schedule, Bool.true_or, if_true]
      obtain ⟨l, h1, h2⟩ := linear_ok ops (fun i j hd => F.deps hd) ops.size tt (Array.replicate ops.size false) [] (by simp) (by
        refine Nat.le_trans (List.length_filter_le _ _) (by simp))
      unfold Region.linearise
      rw [h1]
      simp only [List.reverse_nil, List.nil_append]
      have hS : (fun i : Nat => (Array.replicate ops.size false)[i]? = some true) = fun _ => False := by
        funext i
        rw [Array.getElem?_replicate]
        split <;> simp
      rw [hS] at h2
      have d : Drew w { w with drawn := w.drawn + 1 } := ⟨rfl, rfl, rfl, rfl⟩
      have I : Inv P N ops cs (ancs ops.toList) its μ h.get w (fun _ => False) [] its 0 [] t h a { w with drawn := w.drawn + 1 } μ := by
        refine ⟨rfl, fun e he => by simp [effsOf] at he, fun it hit hf => hf, rfl, fun q hq => by simp at hq, fun i o op last hi => by simp at hi, fun i hi => hi.elim, ⟨hs.tm.1, fun p _ => hs.tm.2 p⟩, hs.hp.drew d, hs.df, Fr.drew d, fun q hq => by simp at hq, fun q hq => by simp at hq, fun q hq => by simp at hq⟩
      obtain ⟨pre', rest', pend', t2, h2', x2, I2, hr2, hk2⟩ := group_ok F its _ _ _ _ _ I hk
      exact sched_ok F hcall hn l _ h2 pre' rest' 0 pend' t2 h2' x2 a _ μ I2 hr2 hk2
    · cases hc
  · cases hc
end

/-- A CALL FROM EMPTY MEMORY: what the evaluator answers of numbers (or anything else without memory), the call answers in every world -/
theorem calledT {β : Type} {P : Program} {T : CALL β → CALL β} (hT : TabOK P T) (n f : Nat) (vs : List AV) (k : EK β) (r : β) (hrun : callOf P (execT P T n) f vs f5 b0 k = some r) (w : World) (args : Array Value) (hv : VRels (fun _ => none) vs args.toList) :
    Calls P f args w fun e w' => (∃ v h' x' cv μ', k v h' x' = some r ∧ e = .returned cv ∧ VRel μ' v cv ∧ HR μ' h'.get w' ∧ Fr (fun _ => none) f5.get w μ' h'.get w') ∧ Go.RowKit.Below w.heap.size w w' := by
  have hc := callOf_ok (exec_ok hT (regD_ok (β := β) (P := P)) n).1
  have hr : HR (fun _ => none) f5.get w := ⟨fun b l hb => (by cases hb), fun b b' l l' hb => (by cases hb)⟩
  obtain ⟨fn, _, _, _, h⟩ := hc f vs f5 b0 k r _ w args hr hv hrun
  refine h.mono fun e w' hh => ?_
  obtain ⟨v', h', x', cv, μ', q1, q2, q3, q4, q5⟩ := hh
  exact ⟨⟨v', h', x', cv, μ', q1, q2, q3, q4, q5⟩, ⟨q5.os, q5.tape, q5.output, q5.size, fun i hi => q5.same i hi fun hu => by obtain ⟨b, l, hb, _⟩ := hu; cases hb⟩⟩

theorem called {β : Type} {P : Program} (n f : Nat) (vs : List AV) (k : EK β) (r : β) (hrun : callOf P (exec P n) f vs f5 b0 k = some r) (w : World) (args : Array Value) (hv : VRels (fun _ => none) vs args.toList) :
    Calls P f args w fun e w' => (∃ v h' x' cv μ', k v h' x' = some r ∧ e = .returned cv ∧ VRel μ' v cv ∧ HR μ' h'.get w' ∧ Fr (fun _ => none) f5.get w μ' h'.get w') ∧ Go.RowKit.Below w.heap.size w w' :=
  calledT (T := keepC) (fun _ h => h) n f vs k r hrun w args hv

/-- A CLOSED CALL: what the evaluator answers from empty memory, the call answers in every world -/
theorem closed {P : Program} (n f : Nat) (v : AV) (hrun : callOf P (exec P n) f [] f5 b0 (fun v _ _ => some v) = some v) (w : World) :
    Calls P f #[] w fun e w' => (∃ cv μ', e = .returned cv ∧ VRel μ' v cv) ∧ Go.RowKit.Below w.heap.size w w' := closed_call regD_ok n f v hrun w
end Go.Proofs.Ytpcocfdgcihpdaa.Eng
