/-
  THE ENGINE, PART V: checkpoints: a run is cut where a state covers what is listed (slots and objects); all else is forgotten.
-/
import Derived.Test.YtjcjalmkjncoaaaEngY
namespace Go.Proofs.Ytjcjalmkjncoaaa.Eng
open Go
set_option linter.unusedVariables false
set_option linter.unusedSimpArgs false

/-! ### names -/
def inNames (ns : List Bid) (b : Bid) : Bool := ns.any fun c => Bid.beq c b
mutual
def namesIn (ns : List Bid) : AV → Bool
  | .ptr b _ => inNames ns b
  | .slice b _ _ _ => inNames ns b
  | .map b => inNames ns b
  | .func _ a b => namesInL ns a && namesInL ns b
  | .iface _ v => namesIn ns v
  | .agg l => namesInL ns l
  | .tup l => namesInL ns l
  | _ => true
def namesInL (ns : List Bid) : List AV → Bool
  | [] => true
  | a :: l => namesIn ns a && namesInL ns l
end
/-- the names alone that are listed -/
def res (ns : List Bid) (μ : Inj) : Inj := fun b => match inNames ns b with
  | true => μ b
  | false => none
theorem res_le (ns : List Bid) (μ : Inj) : Le (res ns μ) μ := by
  intro b l h
  unfold res at h
  split at h
  · exact h
  · cases h
theorem res_in {ns : List Bid} {μ : Inj} {b : Bid} (h : inNames ns b = true) : res ns μ b = μ b := by unfold res; rw [h]
mutual
theorem VRel.res {ns : List Bid} {μ : Inj} : ∀ (a : AV) (v : Value), namesIn ns a = true → VRel μ a v → VRel (res ns μ) a v
  | .un, _, _, _ => by simp [VRel]
  | .bool _, _, _, hv => by simpa only [VRel] using hv
  | .int _ _, _, _, hv => by simpa only [VRel] using hv
  | .sint _ _ _, _, _, hv => by simpa only [VRel] using hv
  | .nz _ _ _, _, _, hv => by simpa only [VRel] using hv
  | .sbool _ _, _, _, hv => by simpa only [VRel] using hv
  | .str _, _, _, hv => by simpa only [VRel] using hv
  | .ptr b o, v, hn, hv => by simp only [namesIn] at hn; simp only [VRel] at hv ⊢; rw [res_in hn]; exact hv
  | .nilp, _, _, hv => by simpa only [VRel] using hv
  | .slice b o n c, v, hn, hv => by simp only [namesIn] at hn; simp only [VRel] at hv ⊢; rw [res_in hn]; exact hv
  | .nils, _, _, hv => by simpa only [VRel] using hv
  | .map b, v, hn, hv => by simp only [namesIn] at hn; simp only [VRel] at hv ⊢; rw [res_in hn]; exact hv
  | .nilm, _, _, hv => by simpa only [VRel] using hv
  | .func fn a b, v, hn, hv => by
    simp only [namesIn, Bool.and_eq_true] at hn
    simp only [VRel] at hv ⊢; obtain ⟨x, y, h1, h2, h3⟩ := hv
    exact ⟨x, y, h1, VRels.res a _ hn.1 h2, VRels.res b _ hn.2 h3⟩
  | .nilf, _, _, hv => by simpa only [VRel] using hv
  | .iface t a, v, hn, hv => by simp only [namesIn] at hn; simp only [VRel] at hv ⊢; obtain ⟨x, h1, h2⟩ := hv; exact ⟨x, h1, VRel.res a _ hn h2⟩
  | .nili, _, _, hv => by simpa only [VRel] using hv
  | .agg l, v, hn, hv => by simp only [namesIn] at hn; simp only [VRel] at hv ⊢; obtain ⟨x, h1, h2⟩ := hv; exact ⟨x, h1, VRels.res l _ hn h2⟩
  | .tup l, v, hn, hv => by simp only [namesIn] at hn; simp only [VRel] at hv ⊢; obtain ⟨x, h1, h2⟩ := hv; exact ⟨x, h1, VRels.res l _ hn h2⟩
theorem VRels.res {ns : List Bid} {μ : Inj} : ∀ (a : List AV) (v : List Value), namesInL ns a = true → VRels μ a v → VRels (res ns μ) a v
  | [], _, _, hv => by simpa only [VRels] using hv
  | a :: l, v, hn, hv => by
    simp only [namesInL, Bool.and_eq_true] at hn
    simp only [VRels] at hv ⊢; obtain ⟨x, r, h1, h2, h3⟩ := hv
    exact ⟨x, r, h1, VRel.res a _ hn.1 h2, VRels.res l _ hn.2 h3⟩
end
/-- objects of cells alone -/
def objIn (ns : List Bid) : AObj → Bool
  | .cells l => namesInL ns l
  | .opn l _ => namesInL ns l
  | .dead => true
  | _ => false
theorem ObjRel.res {ns : List Bid} {μ : Inj} {w : World} {l : Loc} {o : AObj} (hn : objIn ns o = true) (h : ObjRel μ w l o) : ObjRel (res ns μ) w l o := by
  cases o with
  | no => cases hn
  | dead => trivial
  | cells c => obtain ⟨h1, arr, t, h2, h3⟩ := h; exact ⟨h1, arr, t, h2, VRels.res _ _ hn h3⟩
  | opn c sz => obtain ⟨arr, t, fr, h2, h3, h4, h5⟩ := h; exact ⟨arr, t, fr, h2, h3, h4, VRels.res _ _ hn h5⟩
  | map es c => cases hn

/-! ### checkpoints -/
structure Ck where
  (ts : List (P3 × AV))
  (hs : List (Bid × AObj))
def tmOf : List (P3 × AV) → Tm
  | [] => e3
  | (p, v) :: l => (tmOf l).put p v
def hpOf : List (Bid × AObj) → Hp
  | [] => f5
  | (b, o) :: l => (hpOf l).put b o
def Ck.names (c : Ck) : List Bid := c.hs.map (·.1)
theorem tmOf_get : ∀ (l : List (P3 × AV)) (p : P3), (tmOf l).get p = .un ∨ ∃ q ∈ l, q.1 = p ∧ q.2 = (tmOf l).get p
  | [], p => .inl (e3_get p)
  | (q, v) :: l, p => by
    simp only [tmOf, Tm.get_put]
    by_cases e : p = q
    · rw [if_pos e]; exact .inr ⟨(q, v), by simp, e.symm, rfl⟩
    · rw [if_neg e]
      rcases tmOf_get l p with h | ⟨x, h1, h2⟩
      · exact .inl h
      · exact .inr ⟨x, by simp [h1], h2⟩
theorem hpOf_get : ∀ (l : List (Bid × AObj)) (b : Bid), ((hpOf l).get b = .no ∧ inNames (l.map (·.1)) b = false) ∨ (inNames (l.map (·.1)) b = true ∧ ∃ q ∈ l, q.1 = b ∧ q.2 = (hpOf l).get b)
  | [], b => .inl ⟨f5_get b, rfl⟩
  | (c, o) :: l, b => by
    simp only [hpOf, Hp.get_put, List.map_cons, inNames, List.any_cons, Bool.or_eq_true, Bool.or_eq_false_iff]
    by_cases e : b = c
    · rw [if_pos e]; exact .inr ⟨.inl ((Bid.beq_iff _ _).2 e.symm), (c, o), by simp, e.symm, rfl⟩
    · rw [if_neg e]
      have hne : c.beq b = false := by
        cases h : c.beq b with
        | false => rfl
        | true => exact absurd ((Bid.beq_iff _ _).1 h).symm e
      rcases hpOf_get l b with ⟨h1, h2⟩ | ⟨h1, x, h2, h3⟩
      · exact .inl ⟨h1, hne, h2⟩
      · exact .inr ⟨.inr h1, x, by simp [h2], h3⟩
/-- does a state cover it? -/
def ckT {β : Type} : List (P3 × AV) → Tm → Option β → Option β
  | [], t, c => c
  | (p, v) :: l, t, c => AV.sameK v (t.get p) (ckT l t c)
def ckH {β : Type} : List (Bid × AObj) → Hp → Option β → Option β
  | [], h, c => c
  | (b, o) :: l, h, c => AObj.sameK o (h.get b) (ckH l h c)
theorem ckT_ok {β : Type} {r : β} {t : Tm} {c : Option β} : ∀ {l : List (P3 × AV)}, ckT l t c = some r → (∀ q ∈ l, t.get q.1 = q.2) ∧ c = some r
  | [], h => ⟨fun q hq => by simp at hq, h⟩
  | (p, v) :: l, h => by
    obtain ⟨e, h⟩ := AV.sameK_ok _ _ _ h
    obtain ⟨h1, h2⟩ := ckT_ok h
    refine ⟨fun q hq => ?_, h2⟩
    rcases List.mem_cons.1 hq with rfl | hq
    · exact e.symm
    · exact h1 q hq
theorem ckH_ok {β : Type} {r : β} {h : Hp} {c : Option β} : ∀ {l : List (Bid × AObj)}, ckH l h c = some r → (∀ q ∈ l, h.get q.1 = q.2) ∧ c = some r
  | [], hk => ⟨fun q hq => by simp at hq, hk⟩
  | (b, o) :: l, hk => by
    obtain ⟨e, hk⟩ := AObj.sameK_ok hk
    obtain ⟨h1, h2⟩ := ckH_ok hk
    refine ⟨fun q hq => ?_, h2⟩
    rcases List.mem_cons.1 hq with rfl | hq
    · exact e.symm
    · exact h1 q hq
/-- it names what it lists alone, and the names of the one ahead -/
def Ck.good (c0 c : Ck) : Bool := (c.ts.all fun q => namesIn c.names q.2) && ((c.hs.all fun q => objIn c.names q.2) && (c0.names.all fun b => inNames c.names b))
theorem objIn_ne {ns : List Bid} {o : AObj} (h : objIn ns o = true) : o ≠ .no := by intro e; rw [e] at h; cases h

section
variable {P : Program} {N : Nat}
/-- a state is weakened to the checkpoint that it covers -/
theorem ck_weak {c0 c : Ck} (hg : Ck.good c0 c = true) {μ μ' : Inj} {t' : Tm} {h' : Hp} {a' : Act} {w w' : World} (hs : SRel μ' N t' h' a' w') (hf : Fr μ (hpOf c0.hs).get w μ' h'.get w') (ht : ∀ q ∈ c.ts, t'.get q.1 = q.2) (hh : ∀ q ∈ c.hs, h'.get q.1 = q.2)
    (hμ : ∀ b, inNames c0.names b = false → μ b = none) : SRel (res c.names μ') N (tmOf c.ts) (hpOf c.hs) a' w' ∧ Fr μ (hpOf c0.hs).get w (res c.names μ') (hpOf c.hs).get w' := by
  simp only [Ck.good, Bool.and_eq_true, List.all_eq_true] at hg
  obtain ⟨g1, g2, g3⟩ := hg
  have hget : ∀ b, inNames c.names b = true → h'.get b = (hpOf c.hs).get b ∧ objIn c.names ((hpOf c.hs).get b) = true := by
    intro b hb
    rcases hpOf_get c.hs b with ⟨_, h2⟩ | ⟨_, q, hq, rfl, h3⟩
    · unfold Ck.names at hb; rw [h2] at hb; cases hb
    · rw [← h3]; exact ⟨hh q hq, g2 q hq⟩
  have hin : ∀ b l, res c.names μ' b = some l → inNames c.names b = true ∧ μ' b = some l := by
    intro b l hb
    unfold res at hb
    split at hb
    · rename_i e; exact ⟨e, hb⟩
    · cases hb
  refine ⟨⟨⟨hs.tm.1, fun p => ?_⟩, ⟨fun b l hb => ?_, fun b b' l l' hb hb' hl hl' he => ?_⟩, hs.df⟩, ⟨fun b l hb => ?_, fun b hb1 hb2 => ?_, hf.os, hf.tape, hf.output, hf.size, hf.same, fun k hk => ?_, fun b hb => ?_⟩⟩
  · rcases tmOf_get c.ts p with h | ⟨q, hq, rfl, h3⟩
    · rw [h]; simp [VRel]
    · rw [← h3]
      refine VRel.res _ _ (g1 q hq) ?_
      rw [← ht q hq]; exact hs.tm.2 q.1
  · obtain ⟨e, hb⟩ := hin b l hb
    obtain ⟨h1, h2⟩ := hget b e
    have := hs.hp.ok b l hb
    rw [h1] at this
    exact this.res h2
  · obtain ⟨e, hb⟩ := hin b l hb
    obtain ⟨e', hb'⟩ := hin b' l' hb'
    rw [← (hget b e).1] at hl; rw [← (hget b' e').1] at hl'
    exact hs.hp.inj b b' l l' hb hb' hl hl' he
  · have hb0 : inNames c0.names b = true := by
      cases e : inNames c0.names b with
      | true => rfl
      | false => rw [hμ b e] at hb; cases hb
    have hb1 : inNames c.names b = true := by
      unfold inNames at hb0
      rw [List.any_eq_true] at hb0
      obtain ⟨d, hd, e⟩ := hb0
      rw [Bid.beq_iff] at e; subst e
      exact g3 d hd
    rw [res_in hb1]; exact hf.le b l hb
  · cases e : inNames c.names b with
    | false => unfold res at hb2; rw [e] at hb2; exact absurd rfl hb2
    | true => rw [res_in e] at hb2; exact hf.new b hb1 hb2
  · obtain ⟨b, l, hb, hl, rfl⟩ := hk
    obtain ⟨e, hb⟩ := hin b l hb
    rw [← (hget b e).1] at hl
    exact hf.used l.blk ⟨b, l, hb, hl, rfl⟩
  · rcases hpOf_get c0.hs b with ⟨h1, _⟩ | ⟨h1, q, hq, rfl, h3⟩
    · exact absurd h1 hb
    · have := g3 q.1 (by unfold Ck.names; exact List.mem_map_of_mem hq)
      exact objIn_ne (hget q.1 this).2

theorem ck_names {c : Ck} {μ : Inj} {w : World} (hr : HR μ (hpOf c.hs).get w) : ∀ b, inNames c.names b = false → μ b = none := by
  intro b hb
  rcases hpOf_get c.hs b with ⟨h1, _⟩ | ⟨h1, _⟩
  · cases hm : μ b with
    | none => rfl
    | some l => have := hr.ok b l hm; rw [h1] at this; exact this.elim
  · unfold Ck.names at hb; rw [h1] at hb; cases hb
/-- how it must end, and what the end must cover -/
def ckK : Ex → Ck → KX Unit
  | .nrm, c => fun e t h x => match e with
    | .nrm => ckT c.ts t (ckH c.hs h (some ()))
    | _ => none
  | .ext i, c => fun e t h x => match e with
    | .ext j => match Nat.beq i j with
      | true => ckT c.ts t (ckH c.hs h (some ()))
      | false => none
    | _ => none
  | .ret, c => fun e t h x => match e with
    | .ret => ckT c.ts t (ckH c.hs h (some ()))
    | _ => none
theorem ckK_ok {e0 e : Ex} {c : Ck} {t : Tm} {h : Hp} {x : Bid} (hk : ckK e0 c e t h x = some ()) : e = e0 ∧ (∀ q ∈ c.ts, t.get q.1 = q.2) ∧ ∀ q ∈ c.hs, h.get q.1 = q.2 := by
  have fin : ckT c.ts t (ckH c.hs h (some ())) = some () → (∀ q ∈ c.ts, t.get q.1 = q.2) ∧ ∀ q ∈ c.hs, h.get q.1 = q.2 := fun hk => by
    obtain ⟨h1, hk⟩ := ckT_ok hk
    exact ⟨h1, (ckH_ok hk).1⟩
  cases e0 with
  | nrm =>
    cases e with
    | nrm => exact ⟨rfl, fin hk⟩
    | ext j => cases hk
    | ret => cases hk
  | ext i =>
    cases e with
    | nrm => cases hk
    | ext j =>
      simp only [ckK] at hk
      split at hk
      · rename_i hb; rw [Nat.beq_eq] at hb; subst hb; exact ⟨rfl, fin hk⟩
      · cases hk
    | ret => cases hk
  | ret =>
    cases e with
    | nrm => cases hk
    | ext j => cases hk
    | ret => exact ⟨rfl, fin hk⟩

/-- A PIECE OF CODE brings one checkpoint to another -/
def Piece (P : Program) (N : Nat) (code : Code) (c0 : Ck) (e : Ex) (c : Ck) : Prop :=
  ∀ (μ : Inj) (a : Act) (w : World) (Q : Exit → Act → World → Prop), SRel μ N (tmOf c0.ts) (hpOf c0.hs) a w →
    (∀ a' w' μ', SRel μ' N (tmOf c.ts) (hpOf c.hs) a' w' → Fr μ (hpOf c0.hs).get w μ' (hpOf c.hs).get w' → Q (exOf e) a' w') → code.wp P Q a w
/-- out of a run -/
theorem piece_run {T : CALL Unit → CALL Unit} (hT : TabOK P T) (n : Nat) (hN : N ≤ 512) {code : Code} {c0 c : Ck} {e : Ex} (x : Bid) (hg : Ck.good c0 c = true)
    (hrun : execT P T n (compC P N code) (tmOf c0.ts) (hpOf c0.hs) x (ckK e c) = some ()) : Piece P N code c0 e c := by
  intro μ a w Q hs hn
  refine (exec_ok hT regD_ok n).1 N hN code μ _ _ x a w _ () Q hs hrun fun e' t' h' x' a' w' μ' hk hs' hf => ?_
  obtain ⟨rfl, h1, h2⟩ := ckK_ok hk
  obtain ⟨h3, h4⟩ := ck_weak hg hs' hf h1 h2 (ck_names hs.hp)
  exact hn _ _ _ h3 h4
/-- the same by the quick evaluator -/
theorem piece_quick {T : CALL Unit → CALL Unit} (hT : TabOK P T) (n : Nat) (hN : N ≤ 512) {code : Code} {c0 c : Ck} {e : Ex} (x : Bid) (hg : Ck.good c0 c = true)
    (hrun : fexecT P T n (fcomp (compC P N code)) (tmOf c0.ts) (hpOf c0.hs) x (ckK e c) = some ()) : Piece P N code c0 e c :=
  piece_run hT n hN x hg (by rw [← fexec_eq]; exact hrun)
theorem piece_seq {x y : Code} {c0 c1 c2 : Ck} {e : Ex} (h1 : Piece P N x c0 .nrm c1) (h2 : Piece P N y c1 e c2) : Piece P N (.seq x y) c0 e c2 := by
  intro μ a w Q hs hn
  refine wp_seq (h1 μ a w _ hs fun a' w' μ' hs' hf => ?_)
  exact h2 μ' a' w' Q hs' fun a2 w2 μ2 hs2 hf2 => hn _ _ _ hs2 (hf.trans hf2)
theorem piece_block {id : Nat} {x : Code} {c0 c1 : Ck} (h1 : Piece P N x c0 (.ext id) c1) : Piece P N (.block id x) c0 .nrm c1 := by
  intro μ a w Q hs hn
  refine wp_block (h1 μ a w _ hs fun a' w' μ' hs' hf => ?_)
  simp only [exOf, Exit.inBlock, if_true]
  exact hn _ _ _ hs' hf
/-- A LOOP, round by round: each round brings one checkpoint to the next, the last one leaves -/
theorem piece_loop {x : Code} (S : Nat → Ck) (m : Nat) {id : Nat} {cE : Ck} (hr : ∀ i, i < m → Piece P N x (S i) .nrm (S (i + 1))) (he : Piece P N x (S m) (.ext id) cE) : Piece P N (.loop x) (S 0) (.ext id) cE := by
  have key : ∀ k i, i + k = m → ∀ (μ : Inj) (a : Act) (w : World) (Q : Exit → Act → World → Prop), SRel μ N (tmOf (S i).ts) (hpOf (S i).hs) a w →
      (∀ a' w' μ', SRel μ' N (tmOf cE.ts) (hpOf cE.hs) a' w' → Fr μ (hpOf (S i).hs).get w μ' (hpOf cE.hs).get w' → Q (.exit id) a' w') → LoopWp P x Q a w := by
    intro k
    induction k with
    | zero =>
      intro i hi μ a w Q hs hn
      have : i = m := by omega
      subst this
      exact loop_round (he μ a w _ hs fun a' w' μ' hs' hf => hn _ _ _ hs' hf)
    | succ k ih =>
      intro i hi μ a w Q hs hn
      refine loop_round (hr i (by omega) μ a w _ hs fun a' w' μ' hs' hf => ?_)
      exact ih (i + 1) (by omega) μ' a' w' Q hs' fun a2 w2 μ2 hs2 hf2 => hn _ _ _ hs2 (hf.trans hf2)
  intro μ a w Q hs hn
  exact loop_of (key m 0 (by omega) μ a w Q hs hn)
end
end Go.Proofs.Ytjcjalmkjncoaaa.Eng
