/-
  THE ENGINE, PART I: look-ups; all operations that write nothing, in one.
-/
import Derived.Test.YtpcocfdgcihpdaaEngH
namespace Go.Proofs.Ytpcocfdgcihpdaa.Eng
open Go
set_option linter.unusedVariables false
set_option linter.unusedSimpArgs false

section
variable {β : Type} {P : Program} {μ : Inj} {w : World} {x : Bid} {s : Sem Value} {k : AV → Option AObj → Option β} {r : β} {hp : Hp} {vs : List AV}

theorem keyFit1_ok {t : TypeId} {e : ET} (he : ETok P t e) {a : AV} {c : Value} (hc : VRel μ a c) (h : keyFit1 e a = true) (emp : Bool) (n : Nat) : (Instr.checkKey emp (n + 1) t c).run P w = .ok () w := by
  unfold keyFit1 at h
  split at h
  · simp only [VRel] at hc; subst hc; simp only [ETok] at he; simp [Instr.checkKey, run_underlying he]
  · simp only [VRel] at hc; subst hc; obtain ⟨k0, he⟩ := he; simp [Instr.checkKey, run_underlying he]
  · simp only [VRel] at hc; obtain ⟨_, rfl, _⟩ := hc; simp only [ETok] at he; simp [Instr.checkKey, run_underlying he]
  · cases h
theorem keyFitF_ok {cs : Array Value} {l : List AV} (hc : VRels μ l cs.toList) (emp : Bool) (n : Nat) : ∀ (fields : List Field) (fs : List (Nat × ET)), etFields P fields = some fs → keyFitF fs l = true →
    ∀ f ∈ fields, f.name ≠ "_" ∧ ∃ y, (part f.type cs f.offset).run P w = .ok y w ∧ (Instr.checkKey emp (n + 1) f.type y).run P w = .ok () w
  | [], fs, hf, h => by simp
  | f :: fields, fs, hf, h => by
    simp only [etFields] at hf
    split at hf
    · cases hf
    · rename_i l0 hname hagg hrest hne
      injection hf with hf; subst hf
      simp only [keyFitF, Bool.and_eq_true] at h
      obtain ⟨h1, h2⟩ := h
      have hname' : f.name ≠ "_" := by simpa using hname
      split at h1
      · rename_i v hv
        obtain ⟨y, hy, hr⟩ := hc.get hv
        rw [Array.getElem?_toList] at hy
        have hp : (part f.type cs f.offset).run P w = .ok y w := by simp [part, run_isAgg hagg, hy]
        have hk := keyFit1_ok (w := w) (etScalar_ok (P := P) f.type) hr h1 emp n
        intro g hg
        rcases List.mem_cons.1 hg with rfl | hg
        · exact ⟨hname', y, hp, hk⟩
        · exact keyFitF_ok hc emp n fields l0 hrest h2 g hg
      · cases h1
    · cases hf
theorem forIn_unit {α : Type} {g : α → PUnit → Sem (ForInStep PUnit)} : ∀ {fields : List α}, (∀ f ∈ fields, (g f ⟨⟩).run P w = .ok (.yield ⟨⟩) w) → (forIn fields PUnit.unit g).run P w = .ok PUnit.unit w
  | [], _ => by simp
  | f :: fields, h => by
    simp only [List.forIn_cons, Sem.run_bind, h f (by simp), Result.andThen_ok]
    exact forIn_unit fun f hf => h f (by simp [hf])
theorem keyFits_ok {t : TypeId} {e : ET} (he : ETok P t e) {a : AV} {c : Value} (hc : VRel μ a c) (h : keyFits e a = true) (emp : Bool) (n : Nat) : (Instr.checkKey emp (n + 2) t c).run P w = .ok () w := by
  unfold keyFits at h
  split at h
  · simp only [VRel] at hc
    obtain ⟨cs, rfl, hc⟩ := hc
    obtain ⟨fields, hu, _, hf⟩ := he
    have hall := keyFitF_ok (w := w) hc emp n fields.toList _ hf h
    rw [Instr.checkKey]
    simp only [Sem.run_bind, run_underlying hu, Result.andThen_ok]
    rw [← Array.forIn_toList, forIn_unit]
    · rfl
    · intro f hf
      obtain ⟨h1, y, h2, h3⟩ := hall f hf
      simp [h1, h2, h3]
  · exact keyFit1_ok he hc h emp (n + 1)

def FRel (μ : Inj) : Option (Nat × AV) → Option (Nat × Value) → Prop
  | none, r => r = none
  | some (i, v), r => ∃ cv, r = some (i, cv) ∧ VRel μ v cv

theorem findNow_ok (hr : HR μ hp.get w) {e : ET} {d : TypeDesc} (he : (e = .bool ∧ d = .bool) ∨ (∃ k0 k1, e = .int k0 ∧ d = .int k1) ∨ (e = .str ∧ d = .string)) {key : AV} {kc : Value} (hk : VRel μ key kc) :
    ∀ (es : List (AV × AV × Nat)) (ents : List MapEntry) (i : Nat), ERels μ es ents → ∀ res, findA hp e key es i = some res → ∃ res', Instr.findNow d kc ents i = some res' ∧ FRel μ res res'
  | [], ents, i, hE, res, h => by
    simp only [ERels] at hE; subst hE
    simp only [findA, Option.some.injEq] at h; subst h
    exact ⟨none, rfl, rfl⟩
  | (a, v, n) :: es, ents, i, hE, res, h => by
    simp only [ERels] at hE
    obtain ⟨e0, r0, rfl, ha, hv, hn, hE⟩ := hE
    simp only [findA] at h
    have key2 : ∀ q, eqV hp e key a = some q → Instr.sameNow d kc e0.key = some q := by
      intro q hq
      rcases he with ⟨rfl, rfl⟩ | ⟨k0, k1, rfl, rfl⟩ | ⟨rfl, rfl⟩
      · simp only [eqV] at hq
        unfold eqA at hq
        split at hq <;> first | (cases hq; done) | (rename_i e1 _ _; cases e1; done) | (rename_i e1; cases e1; done) | skip
        all_goals (simp only [VRel] at hk ha; first | (subst hk; rw [ha]; simpa [Instr.sameNow] using hq) | skip)
      · simp only [eqV] at hq
        unfold eqA at hq
        split at hq <;> first | (cases hq; done) | skip
        all_goals first | (rename_i e1; cases e1; done) | skip
        split at hq
        · rename_i hkk; rw [kindEq_iff] at hkk; subst hkk
          simp only [VRel] at hk ha; subst hk; rw [ha]
          rw [intEq_eq] at hq
          simpa [Instr.sameNow] using hq
        · cases hq
      · simp only [eqV] at hq
        unfold eqA at hq
        split at hq <;> first | (cases hq; done) | skip
        all_goals first | (rename_i e1; cases e1; done) | skip
        simp only [VRel] at hk ha
        obtain ⟨t1, rfl, rfl⟩ := hk
        obtain ⟨t2, ha, rfl⟩ := ha
        rw [ha]
        rw [strEq_bytes] at hq
        simp only [Instr.sameNow, beq_toListBytes]; exact hq
    split at h
    · rename_i hq
      injection h with h; subst h
      exact ⟨some (i, e0.val), by simp [Instr.findNow, key2 _ hq], _, rfl, hv⟩
    · rename_i hq
      obtain ⟨res', h1, h2⟩ := findNow_ok hr he hk es r0 (i + 1) hE res h
      exact ⟨res', by simp [Instr.findNow, key2 _ hq, h1], h2⟩
    · cases h
theorem findAsking_ok (hr : HR μ hp.get w) {t : TypeId} {e : ET} (he : ETok P t e) {key : AV} {kc : Value} (hk : VRel μ key kc) :
    ∀ (es : List (AV × AV × Nat)) (ents : List MapEntry) (i : Nat), ERels μ es ents → ∀ res, findA hp e key es i = some res → ∃ res', (Instr.findAsking t kc ents i).run P w = .ok res' w ∧ FRel μ res res'
  | [], ents, i, hE, res, h => by
    simp only [ERels] at hE; subst hE
    simp only [findA, Option.some.injEq] at h; subst h
    exact ⟨none, rfl, rfl⟩
  | (a, v, n) :: es, ents, i, hE, res, h => by
    simp only [ERels] at hE
    obtain ⟨e0, r0, rfl, ha, hv, hn, hE⟩ := hE
    simp only [findA] at h
    have key2 : ∀ q, eqV hp e key a = some q → (Op.equal t kc e0.key).run P w = .ok q w := fun q hq => eqV_ok hr he hk ha hq 9998
    split at h
    · rename_i hq
      injection h with h; subst h
      exact ⟨some (i, e0.val), by simp [Instr.findAsking, key2 _ hq], _, rfl, hv⟩
    · rename_i hq
      obtain ⟨res', h1, h2⟩ := findAsking_ok hr he hk es r0 (i + 1) hE res h
      exact ⟨res', by simp [Instr.findAsking, key2 _ hq, h1], h2⟩
    · cases h
theorem findNow_struct {fs : Array Field} {kc : Value} : ∀ (ents : List MapEntry) (i : Nat), Instr.findNow (.struct fs) kc ents i = if ents = [] then some none else none
  | [], i => rfl
  | e :: es, i => by simp [Instr.findNow, Instr.sameNow]
theorem findA_ok (hr : HR μ hp.get w) {t : TypeId} {e : ET} (he : ETok P t e) (hs : keyET e = e) (hn : e ≠ .no) {key : AV} {kc : Value} (hk : VRel μ key kc) {es : List (AV × AV × Nat)} {ents : List MapEntry} (hE : ERels μ es ents) {res : Option (Nat × AV)}
    (h : findA hp e key es 0 = some res) : ∃ res', (Instr.findKey t kc ents).run P w = .ok res' w ∧ FRel μ res res' := by
  cases e <;> first | (exact absurd rfl hn) | (simp [keyET] at hs; done) | skip
  case bool =>
    simp only [ETok] at he
    obtain ⟨res', h1, h2⟩ := findNow_ok hr (.inl ⟨rfl, rfl⟩) hk es ents 0 hE res h
    exact ⟨res', by simp [Instr.findKey, run_underlying he, h1], h2⟩
  case int k0 =>
    obtain ⟨k1, he⟩ := he
    obtain ⟨res', h1, h2⟩ := findNow_ok hr (.inr (.inl ⟨k0, k1, rfl, rfl⟩)) hk es ents 0 hE res h
    exact ⟨res', by simp [Instr.findKey, run_underlying he, h1], h2⟩
  case str =>
    simp only [ETok] at he
    obtain ⟨res', h1, h2⟩ := findNow_ok hr (.inr (.inr ⟨rfl, rfl⟩)) hk es ents 0 hE res h
    exact ⟨res', by simp [Instr.findKey, run_underlying he, h1], h2⟩
  case struct fs =>
    obtain ⟨res', h1, h2⟩ := findAsking_ok hr he hk es ents 0 hE res h
    obtain ⟨fields, hu, _, _⟩ := he
    by_cases h0 : ents = []
    · subst h0
      refine ⟨res', ?_, h2⟩
      simp only [Instr.findAsking, Sem.run_pure, Result.ok.injEq, and_true] at h1
      subst h1
      simp [Instr.findKey, run_underlying hu, findNow_struct]
    · exact ⟨res', by simp [Instr.findKey, run_underlying hu, findNow_struct, h0, h1], h2⟩
theorem keyET_self {e : ET} (h : keyET e ≠ .no) : keyET e = e := by
  cases e <;> simp only [keyET] at h ⊢ <;> first | rfl | exact absurd rfl h | skip
  split at h
  · rename_i h'; rw [if_pos h']
  · exact absurd rfl h

theorem lookupF_ok (hr : HR μ hp.get w) {t kt et : TypeId} {z : AV} {ok : Bool} (hu : P.underlying t = some (.map kt et)) (hz : zeroV P et = some z) (hke : keyET (etOf P kt) ≠ .no) {c d : Value} (hv : VRels μ vs [c, d]) (h : lookupF (etOf P kt) z ok vs hp x k = some r) :
    NGood P μ w x (Instr.lookup t c d ok) k r := by
  obtain ⟨zv, hzr, hzv⟩ := zeroV_ok hz
  have hE := etOf_ok (P := P) kt
  have hself := keyET_self hke
  unfold lookupF at h
  split at h
  · simp only [VRels, VRel, List.cons.injEq] at hv
    obtain ⟨v1, r1, ⟨rfl, rfl⟩, rfl, v2, r2, ⟨rfl, _⟩, hd, _⟩ := hv
    split at h
    · rename_i hf
      have hck := keyFits_ok (w := w) hE hd hf true 9998
      obtain ⟨u, hk, hrel⟩ := lookK_ok (hzv μ) h
      refine .pure hk ?_ hrel
      have : (Instr.findKey kt d []).run P w = .ok none w := by
        obtain ⟨res', h1, h2⟩ := findA_ok (e := etOf P kt) hr hE hself (by rw [hself] at hke; exact hke) hd (es := []) (ents := []) rfl (res := none) rfl
        simp only [FRel] at h2; subst h2; exact h1
      simp [Instr.lookup, run_underlying hu, hck, this, hzr]
    · cases h
  · rename_i b key
    simp only [VRels, VRel, List.cons.injEq] at hv
    obtain ⟨v1, r1, ⟨rfl, rfl⟩, ⟨l, hl, rfl⟩, v2, r2, ⟨rfl, _⟩, hd, _⟩ := hv
    split at h
    · rename_i es cl hes hf
      have hob := hr.ok b l hl
      rw [hes] at hob
      obtain ⟨ents, hb, hEs⟩ := hob
      have hck := fun emp => keyFits_ok (w := w) hE hd hf emp 9998
      have hget : (getObj l.blk).run P w = .ok (.map ents cl) w := by simp [getObj, Sem.run, hb]
      split at h
      · rename_i i v hq
        rw [avK_eq] at h
        obtain ⟨res', h1, cv, rfl, hcv⟩ := findA_ok (e := etOf P kt) hr hE hself (by rw [hself] at hke; exact hke) hd hEs hq
        obtain ⟨u, hk, hrel⟩ := lookK_ok hcv h
        refine .pure hk ?_ hrel
        simp [Instr.lookup, run_underlying hu, hget, hck, h1]
      · rename_i hq
        obtain ⟨res', h1, h2⟩ := findA_ok (e := etOf P kt) hr hE hself (by rw [hself] at hke; exact hke) hd hEs hq
        simp only [FRel] at h2; subst h2
        obtain ⟨u, hk, hrel⟩ := lookK_ok (hzv μ) h
        refine .pure hk ?_ hrel
        simp [Instr.lookup, run_underlying hu, hget, hck, h1, hzr]
      · cases h
    · cases h
  · cases h

theorem compConv_ok (hr : HR μ hp.get w) (hx : ∀ v o, k v (some o) = some r → μ x = none) {src dst : TypeId} {x0 : Operand} {ρ : Operand → Value} (hv : VRels μ vs ((compConv P src dst x0).2.map ρ)) (h : nrun (compConv P src dst x0).1 vs hp x k = some r) :
    NGood P μ w x (convert src dst (ρ x0)) k r := by
  unfold compConv at hv h
  split at h
  · rename_i k0 k1 h1 h2
    simp only [h1, h2] at hv
    exact toIntF_ok h1 h2 hv h
  · rename_i h1 h2
    simp only [h1, h2] at hv
    simp only [nrun] at h
    unfold strIdF at h
    split at h
    · simp only [List.map_cons, List.map_nil, VRels, VRel, List.cons.injEq] at hv
      obtain ⟨v1, r1, ⟨e1, rfl⟩, ⟨t0, rfl, rfl⟩, _⟩ := hv
      refine .pure h (cv := .string t0) ?_ (by simp only [VRel]; exact ⟨_, rfl, rfl⟩)
      rw [e1]; simp [convert, run_underlying h1, run_underlying h2]
    · cases h
  · rename_i e h1 h2
    simp only [h1, h2] at hv
    split at h
    · rename_i h3
      simp only [h3] at hv
      exact s2bF_ok hx h1 h2 h3 hv h
    · simp [bad, nrun, badF] at h
  · rename_i e h1 h2
    simp only [h1, h2] at hv
    split at h
    · rename_i h3
      simp only [h3] at hv
      exact b2sF_ok hr h1 h2 h3 hv h
    · simp [bad, nrun, badF] at h
  · simp [bad, nrun, badF] at h

def XGood {β : Type} (P : Program) (μ : Inj) (w : World) (x : Bid) (s : Sem Next) (k : AV → Option AObj → Option β) (r : β) : Prop :=
  ∃ v ob, k v ob = some r ∧ ∃ cv w', s.run P w = .ok (.value cv) w' ∧ NRes μ w x ob v cv w'
theorem NGood.up {s : Sem Value} (h : NGood P μ w x s k r) : XGood P μ w x (do Pure.pure (Next.value (← s)) : Sem Next) k r := by
  obtain ⟨v, ob, h1, cv, w', h2, h3⟩ := h
  exact ⟨v, ob, h1, cv, w', by simp [h2], h3⟩
theorem XGood.congr {s s' : Sem Next} (e : s.run P w = s'.run P w) (h : XGood P μ w x s' k r) : XGood P μ w x s k r := by
  obtain ⟨v, ob, h1, cv, w', h2, h3⟩ := h
  exact ⟨v, ob, h1, cv, w', by rw [e]; exact h2, h3⟩
theorem bad_no {q : Prop} (h : nrun bad.1 vs hp x k = some r) : q := by simp [bad, nrun, badF] at h

theorem compBin_ok (hr : HR μ hp.get w) {op : BinOp} {t : TypeId} {x0 y0 : Operand} {ρ : Operand → Value} (hv : VRels μ vs ((compBin P op t x0 y0).2.map ρ)) (h : nrun (compBin P op t x0 y0).1 vs hp x k = some r) :
    NGood P μ w x (do eqGuard op t x0 y0 (ρ x0) (ρ y0); binOp op t (ρ x0) (ρ y0)) k r := by
  unfold compBin at hv h
  split at h
  · exact shF_ok hv h
  · exact shF_ok hv h
  · split at h
    · rename_i h1; simp only [h1, if_true] at hv; exact arF_ok hv h
    · rename_i h1
      split at h
      · rename_i h2
        simp only [h1, h2, if_true, Bool.false_eq_true, if_false] at hv
        simp only [Bool.or_eq_true, not_or, Bool.not_eq_true] at h1
        exact eqF_ok hr (.inl ⟨rfl, rfl⟩) h2 h1.1 h1.2 hv h
      · exact bad_no h
  · split at h
    · rename_i h1; simp only [h1, if_true] at hv; exact arF_ok hv h
    · rename_i h1
      split at h
      · rename_i h2
        simp only [h1, h2, if_true, Bool.false_eq_true, if_false] at hv
        simp only [Bool.or_eq_true, not_or, Bool.not_eq_true] at h1
        exact eqF_ok hr (.inr ⟨rfl, rfl⟩) h2 h1.1 h1.2 hv h
      · exact bad_no h
  · rename_i h1 h2 h3 h4
    cases op <;> first | exact arF_ok hv h | simp_all
theorem compSlice_ok {t : TypeId} {x0 : Operand} {lo hi mx : Option Operand} {ρ : Operand → Value} (hv : VRels μ vs ((compSlice P t x0 lo hi mx).2.map ρ)) (h : nrun (compSlice P t x0 lo hi mx).1 vs hp x k = some r) :
    NGood P μ w x (Instr.sliceAt t (ρ x0) (lo.map ρ) (hi.map ρ) (mx.map ρ)) k r := by
  have ho : ∀ o : Option Operand, (optL o).map ρ = (o.map ρ).toList := by intro o; cases o <;> rfl
  have hs : ∀ o : Option Operand, o.isSome = (o.map ρ).isSome := by intro o; cases o <;> rfl
  unfold compSlice at hv h
  split at h
  · rename_i h1
    simp only [h1] at hv
    split at h
    · simp only [nrun, List.map_cons, List.map_append, ho] at h hv
      rw [hs lo, hs hi] at h
      exact slStrF_ok h1 hv h
    · exact bad_no h
  · rename_i e h1
    simp only [h1] at hv
    split at h
    · rename_i n h2
      simp only [h2] at hv
      simp only [nrun, List.map_cons, List.map_append, ho] at h hv
      rw [hs lo, hs hi, hs mx] at h
      exact slSlF_ok h1 h2 hv h
    · exact bad_no h
  · rename_i n e h1
    simp only [h1] at hv
    split at h
    · rename_i s0 h2
      simp only [h2] at hv
      simp only [nrun, List.map_cons, List.map_append, ho] at h hv
      rw [hs lo, hs hi] at h
      exact slArrF_ok h1 h2 hv h
    · exact bad_no h
  · exact bad_no h

theorem compBuiltinN_ok (hr : HR μ hp.get w) {b : Builtin} {ts : Array TypeId} {ty : TypeId} {cs : Array Bool} {as : Array Operand} {ρ : Operand → Value} (hv : VRels μ vs ((compBuiltinN P b ts as.toList).2.map ρ)) (h : nrun (compBuiltinN P b ts as.toList).1 vs hp x k = some r) :
    XGood P μ w x (builtin b ts ty cs (as.map ρ)) k r := by
  unfold compBuiltinN at hv h
  split at h
  · rename_i x0 has
    have hm : as.map ρ = #[ρ x0] := by rw [← Array.toList_inj]; simp [has]
    rw [hm]
    split at h
    · rename_i t ht
      simp only [has, ht] at hv
      unfold compLen at hv h
      split at h
      · rename_i hu; simp only [hu] at hv; exact (lenStrF_ok ht hu hv h).up
      · rename_i e hu; simp only [hu] at hv; exact (lenSlF_ok ht hu hv h).up
      · rename_i hu; simp only [hu] at hv; exact (lenMapF_ok hr ht hu hv h).up
      · rename_i n e hu
        exact (lenCF_ok (P := P) (w := w) (μ := μ) (s := Builtin.len_ ts ty #[ρ x0]) (by simp [Builtin.len_, ht, run_underlying hu]) h).up
      · rename_i a hu
        split at h
        · rename_i n e hu2
          exact (lenCF_ok (P := P) (w := w) (μ := μ) (s := Builtin.len_ ts ty #[ρ x0]) (by simp [Builtin.len_, ht, run_underlying hu, run_underlying hu2]) h).up
        · exact bad_no h
      · exact bad_no h
    · exact bad_no h
  · rename_i x0 has
    have hm : as.map ρ = #[ρ x0] := by rw [← Array.toList_inj]; simp [has]
    rw [hm]
    split at h
    · rename_i t ht
      simp only [has, ht] at hv
      unfold compCap at hv h
      split at h
      · rename_i hu; simp only [hu] at hv; exact (capF_ok ht hu hv h).up
      · rename_i n e hu
        exact (lenCF_ok (P := P) (w := w) (μ := μ) (s := Builtin.cap_ ts ty #[ρ x0]) (by simp [Builtin.cap_, ht, run_underlying hu]) h).up
      · rename_i a hu
        split at h
        · rename_i n e hu2
          exact (lenCF_ok (P := P) (w := w) (μ := μ) (s := Builtin.cap_ ts ty #[ρ x0]) (by simp [Builtin.cap_, ht, run_underlying hu, run_underlying hu2]) h).up
        · exact bad_no h
      · exact bad_no h
    · exact bad_no h
  · rename_i x0 y0 has
    have hm : as.map ρ = #[ρ x0, ρ y0] := by rw [← Array.toList_inj]; simp [has]
    rw [hm]; simp only [has] at hv
    exact (minF_ok hv h).up
  · rename_i x0 y0 has
    have hm : as.map ρ = #[ρ x0, ρ y0] := by rw [← Array.toList_inj]; simp [has]
    rw [hm]; simp only [has] at hv
    exact (maxF_ok hv h).up
  · exact bad_no h

theorem nilChkF_ok {ρ : Operand → Value} {o : Oper} {x0 : Operand} (ho : o.op = .nilCheck x0) (hv : VRels μ vs [ρ x0]) (h : nilChkF vs hp x k = some r) : XGood P μ w x (execOp ρ o) k r := by
  unfold nilChkF at h
  split at h
  · simp only [VRels, VRel, List.cons.injEq] at hv
    obtain ⟨v1, r1, ⟨rfl, rfl⟩, ⟨l, hl, e1⟩, _⟩ := hv
    exact ⟨_, none, h, ρ x0, w, by simp [execOp, ho, e1], rfl, rfl, rfl, rfl, by simp only [VRel]; exact ⟨l, hl, e1⟩⟩
  · simp only [VRels, VRel, List.cons.injEq] at hv
    obtain ⟨v1, r1, ⟨rfl, rfl⟩, ⟨y, e1, hy⟩, _⟩ := hv
    exact ⟨_, none, h, ρ x0, w, by simp [execOp, ho, e1], rfl, rfl, rfl, rfl, by simp only [VRel]; exact ⟨y, e1, hy⟩⟩
  · simp only [VRels, VRel, List.cons.injEq] at hv
    obtain ⟨v1, r1, ⟨rfl, rfl⟩, ⟨y, z, e1, hy, hz⟩, _⟩ := hv
    exact ⟨_, none, h, ρ x0, w, by simp [execOp, ho, e1], rfl, rfl, rfl, rfl, by simp only [VRel]; exact ⟨y, z, e1, hy, hz⟩⟩
  · cases h

/-- EACH OPERATION THAT WRITES NOTHING -/
theorem nrun_ok (hr : HR μ hp.get w) (hx : ∀ v o, k v (some o) = some r → μ x = none) {ρ : Operand → Value} {o : Oper} (hv : VRels μ vs ((compNE P o.op).2.map ρ)) (h : nrun (compNE P o.op).1 vs hp x k = some r) : XGood P μ w x (execOp ρ o) k r := by
  unfold compNE at hv h
  unfold execOp
  cases ho : o.op <;> simp only [ho] at hv h ⊢
  case move y => obtain ⟨v, ob, h1, cv, w', h2, h3⟩ := mvF_ok (P := P) (w := w) hv h; exact ⟨v, ob, h1, cv, w', by simp at h2 ⊢; exact h2, h3⟩
  case pick c a b =>
    obtain ⟨v, ob, h1, cv, w', h2, h3⟩ := pickF_ok (P := P) (w := w) hv h
    simp only [Sem.run_bind] at h2
    cases hb : (asBool (ρ c)).run P w with
    | ok b0 w0 => rw [hb] at h2; simp at h2; exact ⟨v, ob, h1, cv, w', by simp [hb, h2], h3⟩
    | halt _ _ => rw [hb] at h2; simp at h2
  case alloc t =>
    split at h
    · rename_i z hz
      simp only [hz] at hv
      exact (allocF_ok hx hz hv h).up
    · exact bad_no h
  case box t y => exact (boxF_ok hx hv h).up
  case build t ps => exact (compBuild_ok hv h).up
  case buildSlice t n ps => exact (compBuildSlice_ok hx hv h).up
  case load t a =>
    split at h
    · rename_i g hg
      simp only [hg] at hv
      exact (loadF_ok hr hg hv h).up
    · exact bad_no h
  case nilCheck y =>
    have := nilChkF_ok (P := P) (w := w) (o := o) ho hv h
    unfold execOp at this
    simp only [ho] at this
    exact this
  case binOp op t a b ty => exact (compBin_ok hr hv h).up
  case unOp op t a =>
    unfold compUn at hv h
    cases op
    · exact (negF_ok hv h).up
    · exact (invF_ok hv h).up
    · exact (bnotF_ok hv h).up
    · exact bad_no h
  case convert a b y => exact (compConv_ok hr hx hv h).up
  case makeInterface t y =>
    unfold compIface at hv h
    split at h
    · exact bad_no h
    · rename_i d hn hd
      simp only [hd] at hv
      refine (mkIfaceF_ok hd (fun ms e => ?_) (by cases d <;> first | exact hv | exact absurd rfl (hn _)) h).up
      subst e; exact hn _ rfl
    · exact bad_no h
  case makeFunc fn a b =>
    have hv' : VRels μ vs ((a.map ρ).toList ++ (b.map ρ).toList) := by simpa [List.map_append] using hv
    have h' : mkFuncF fn (a.map ρ).size vs hp x k = some r := by rw [Array.size_map]; exact h
    exact (mkFuncF_ok hv' h').up
  case makeMap t y =>
    cases y with
    | none => exact (mkMapF_ok hx (c := none) (.inl rfl) hv h).up
    | some y =>
      unfold compMkMap at hv h
      simp only at hv h
      split at h
      · rename_i a b hu
        simp only [hu] at hv
        exact (mkMapF_ok hx (c := some (ρ y)) (.inr ⟨a, b, hu⟩) hv h).up
      · exact bad_no h
  case makeSlice t a b =>
    unfold compMkSlice at hv h
    split at h
    · rename_i e hu
      simp only [hu] at hv
      split at h
      · rename_i i z hi hz
        simp only [hi, hz] at hv
        split at h
        · rename_i hc
          simp only [hc, ne_eq, and_self, if_true] at hv
          exact (mkSliceF_ok hx hu hi hz hc.1 hc.2 (by simpa [hc] using hv) h).up
        · exact bad_no h
      · exact bad_no h
    · exact bad_no h
  case slice t y lo hi mx => exact (compSlice_ok hv h).up
  case fieldAddr t y f =>
    unfold compFieldAddr at hv h
    split at h
    · rename_i fs hu
      simp only [hu] at hv
      split at h
      · rename_i fd hf
        simp only [hf] at hv
        split at h
        · rename_i n hs
          simp only [hs] at hv
          exact (fieldAddrF_ok hu hf hs hv h).up
        · exact bad_no h
      · exact bad_no h
    · exact bad_no h
  case field t y f =>
    unfold compField at hv h
    split at h
    · rename_i fs hu
      simp only [hu] at hv
      split at h
      · rename_i fd hf
        simp only [hf] at hv
        split at h
        · rename_i g hs
          simp only [hs] at hv
          exact (fieldF_ok hu hf hs hv h).up
        · exact bad_no h
      · exact bad_no h
    · exact bad_no h
  case indexAddr t y i =>
    unfold compIndexAddr at hv h
    split at h
    · rename_i n e hu
      simp only [hu] at hv
      split at h
      · rename_i s0 hs
        simp only [hs] at hv
        exact (idxAddrArrF_ok hu hs hv h).up
      · exact bad_no h
    · rename_i e hu
      simp only [hu] at hv
      split at h
      · rename_i s0 hs
        simp only [hs] at hv
        exact (idxAddrSlF_ok hu hs hv h).up
      · exact bad_no h
    · exact bad_no h
  case index t y i =>
    unfold compIndex at hv h
    split at h
    · rename_i n e hu
      simp only [hu] at hv
      split at h
      · rename_i s0 g hs hg
        simp only [hs, hg] at hv
        exact (idxArrF_ok hu hs hg hv h).up
      · exact bad_no h
    · rename_i hu
      simp only [hu] at hv
      exact (idxStrF_ok hu hv h).up
    · exact bad_no h
  case lookup t y i ok =>
    unfold compLookup at hv h
    split at h
    · rename_i kt et hu
      simp only [hu] at hv
      split at h
      · exact bad_no h
      · rename_i et0 z hz hke
        have hne : keyET (etOf P kt) ≠ .no := hke
        have hself := keyET_self hne
        have hv' : VRels μ vs [ρ y, ρ i] := by
          split at hv
          · rename_i e; exact absurd e hne
          · exact hv
          · rename_i e; rw [hz] at e; exact absurd rfl (e _)
        rw [hself] at h
        exact (lookupF_ok hr hu hz hne hv' h).up
      · exact bad_no h
    · exact bad_no h
  case typeAssert y yt t ok =>
    unfold compAssert at hv h
    split at h
    · exact bad_no h
    · rename_i d z hn hd hz
      simp only [hd, hz] at hv
      refine (tassertF_ok hz hd (fun ms e => ?_) (by cases d <;> first | exact hv | exact absurd rfl (hn _)) h).up
      subst e; exact hn _ rfl
    · exact bad_no h
  case extract y i => exact (extractF_ok hv h).up
  case call c =>
    obtain ⟨callee, args, ts⟩ := c
    cases callee with
    | builtin b =>
      simp only at hv h
      exact XGood.congr rfl (compBuiltinN_ok (w := w) hr hv h)
    | value f => exact bad_no h
    | invoke rc nm => exact bad_no h
  all_goals exact bad_no h
end
end Go.Proofs.Ytpcocfdgcihpdaa.Eng
