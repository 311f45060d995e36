/-
  THE ENGINE, PART I: look-ups; all operations that write nothing, in one.
-/
import Derived.Test.YtkejnhmhbmbhcaaEngH
set_option maxHeartbeats 64000000
set_option maxRecDepth 1000000
set_option linter.unusedVariables false
set_option linter.unusedSimpArgs false
set_option maxHeartbeats 64000000
set_option maxHeartbeats 64000000
set_option maxHeartbeats 64000000
set_option maxHeartbeats 64000000
namespace Go.Proofs.Ytkejnhmhbmbhcaa.Eng
open Go
section
variable {β : Type} {P : Program} {μ : Inj} {w : World} {x : Bid} {s : Sem Value} {k : AV → Option AObj → Option β} {r : β} {hp : Hp} {vs : List AV}
theorem keyFit1_ok {t : TypeId} {e : ET} (he : ETok P t e) {a : AV} {c : Value} (hc : VRel μ a c) (h : keyFit1 e a = true) (emp : Bool) (n : Nat) : (Instr.checkKey emp (n + 1) t c).run P w = .ok () w := by
  unfold keyFit1 at h
  split at h
  · simp only [VRel] at hc; subst hc; simp only [ETok] at he; simp [Instr.checkKey, run_underlying he]
  · simp only [VRel] at hc; subst hc; obtain ⟨k0, he⟩ := he; simp [Instr.checkKey, run_underlying he]
  · simp only [VRel] at hc; obtain ⟨_, rfl, _⟩ := hc; simp only [ETok] at he; simp [Instr.checkKey, run_underlying he]
  · cases h
theorem keyFitF_ok {cs : Array Value} {l : List AV} (hc : VRels μ l cs.toList) (emp : Bool) (n : Nat) : ∀ (fields : List Field) (fs : List (Nat × ET)), etFields P fields = some fs → keyFitF fs l = true →
    ∀ f ∈ fields, f.name ≠ "_" ∧ ∃ y, (part f.type cs f.offset).run P w = .ok y w ∧ (Instr.checkKey emp (n + 1) f.type y).run P w = .ok () w
  | [], fs, hf, h => by simp
  | f :: fields, fs, hf, h => by
    simp only [etFields] at hf
    split at hf
    · cases hf
    · rename_i l0 hname hagg hrest hne
      injection hf with hf; subst hf
      simp only [keyFitF, Bool.and_eq_true] at h
      obtain ⟨h1, h2⟩ := h
      have hname' : f.name ≠ "_" := by simpa using hname
      split at h1
      · rename_i v hv
        obtain ⟨y, hy, hr⟩ := hc.get hv
        rw [Array.getElem?_toList] at hy
        have hp : (part f.type cs f.offset).run P w = .ok y w := by simp [part, run_isAgg hagg, hy]
        have hk := keyFit1_ok (w := w) (etScalar_ok (P := P) f.type) hr h1 emp n
        intro g hg
        rcases List.mem_cons.1 hg with rfl | hg
        · exact ⟨hname', y, hp, hk⟩
        · exact keyFitF_ok hc emp n fields l0 hrest h2 g hg
      · cases h1
    · cases hf
theorem forIn_unit {α : Type} {g : α → PUnit → Sem (ForInStep PUnit)} : ∀ {fields : List α}, (∀ f ∈ fields, (g f ⟨⟩).run P w = .ok (.yield ⟨⟩) w) → (forIn fields PUnit.unit g).run P w = .ok PUnit.unit w
  | [], _ => by simp
  | f :: fields, h => by
    simp only [List.forIn_cons, Sem.run_bind, h f (by simp), Result.andThen_ok]
    exact forIn_unit fun f hf => h f (by simp [hf])
theorem keyFits_ok {t : TypeId} {e : ET} (he : ETok P t e) {a : AV} {c : Value} (hc : VRel μ a c) (h : keyFits e a = true) (emp : Bool) (n : Nat) : (Instr.checkKey emp (n + 2) t c).run P w = .ok () w := by
  unfold keyFits at h
  split at h
  · simp only [VRel] at hc
    obtain ⟨cs, rfl, hc⟩ := hc
    obtain ⟨fields, hu, _, hf⟩ := he
    have hall := keyFitF_ok (w := w) hc emp n fields.toList _ hf h
    rw [Instr.checkKey]
    simp only [Sem.run_bind, run_underlying hu, Result.andThen_ok]
    rw [← Array.forIn_toList, forIn_unit]
    · rfl
    · intro f hf
      obtain ⟨h1, y, h2, h3⟩ := hall f hf
      simp [h1, h2, h3]
  · exact keyFit1_ok he hc h emp (n + 1)
def FRel (μ : Inj) : Option (Nat × AV) → Option (Nat × Value) → Prop
  | none, r => r = none
  | some (i, v), r => ∃ cv, r = some (i, cv) ∧ VRel μ v cv
theorem findNow_ok (hr : HR μ hp.get w) {e : ET} {d : TypeDesc} (he : (e = .bool ∧ d = .bool) ∨ (∃ k0 k1, e = .int k0 ∧ d = .int k1) ∨ (e = .str ∧ d = .string)) {key : AV} {kc : Value} (hk : VRel μ key kc) :
    ∀ (es : List (AV × AV × Nat)) (ents : List MapEntry) (i : Nat), ERels μ es ents → ∀ res, findA hp e key es i = some res → ∃ res', Instr.findNow d kc ents i = some res' ∧ FRel μ res res'
  | [], ents, i, hE, res, h => by
    simp only [ERels] at hE; subst hE
    simp only [findA, Option.some.injEq] at h; subst h
    exact ⟨none, rfl, rfl⟩
  | (a, v, n) :: es, ents, i, hE, res, h => by
    simp only [ERels] at hE
    obtain ⟨e0, r0, rfl, ha, hv, hn, hE⟩ := hE
    simp only [findA] at h
    have key2 : ∀ q, eqV hp e key a = some q → Instr.sameNow d kc e0.key = some q := by
      intro q hq
      rcases he with ⟨rfl, rfl⟩ | ⟨k0, k1, rfl, rfl⟩ | ⟨rfl, rfl⟩
      · simp only [eqV] at hq
        unfold eqA at hq
        split at hq <;> first | (cases hq; done) | (rename_i e1 _ _; cases e1; done) | (rename_i e1; cases e1; done) | skip
        all_goals (simp only [VRel] at hk ha; first | (subst hk; rw [ha]; simpa [Instr.sameNow] using hq) | skip)
      · simp only [eqV] at hq
        unfold eqA at hq
        split at hq <;> first | (cases hq; done) | skip
        all_goals first | (rename_i e1; cases e1; done) | skip
        split at hq
        · rename_i hkk; rw [kindEq_iff] at hkk; subst hkk
          simp only [VRel] at hk ha; subst hk; rw [ha]
          rw [intEq_eq] at hq
          simpa [Instr.sameNow] using hq
        · cases hq
      · simp only [eqV] at hq
        unfold eqA at hq
        split at hq <;> first | (cases hq; done) | skip
        all_goals first | (rename_i e1; cases e1; done) | skip
        simp only [VRel] at hk ha
        obtain ⟨t1, rfl, rfl⟩ := hk
        obtain ⟨t2, ha, rfl⟩ := ha
        rw [ha]
        rw [strEq_bytes] at hq
        simp only [Instr.sameNow, beq_toListBytes]; exact hq
    split at h
    · rename_i hq
      injection h with h; subst h
      exact ⟨some (i, e0.val), by simp [Instr.findNow, key2 _ hq], _, rfl, hv⟩
    · rename_i hq
      obtain ⟨res', h1, h2⟩ := findNow_ok hr he hk es r0 (i + 1) hE res h
      exact ⟨res', by simp [Instr.findNow, key2 _ hq, h1], h2⟩
    · cases h
theorem findAsking_ok (hr : HR μ hp.get w) {t : TypeId} {e : ET} (he : ETok P t e) {key : AV} {kc : Value} (hk : VRel μ key kc) :
    ∀ (es : List (AV × AV × Nat)) (ents : List MapEntry) (i : Nat), ERels μ es ents → ∀ res, findA hp e key es i = some res → ∃ res', (Instr.findAsking t kc ents i).run P w = .ok res' w ∧ FRel μ res res'
  | [], ents, i, hE, res, h => by
    simp only [ERels] at hE; subst hE
    simp only [findA, Option.some.injEq] at h; subst h
    exact ⟨none, rfl, rfl⟩
  | (a, v, n) :: es, ents, i, hE, res, h => by
    simp only [ERels] at hE
    obtain ⟨e0, r0, rfl, ha, hv, hn, hE⟩ := hE
    simp only [findA] at h
    have key2 : ∀ q, eqV hp e key a = some q → (Op.equal t kc e0.key).run P w = .ok q w := fun q hq => eqV_ok hr he hk ha hq 9998
    split at h
    · rename_i hq
      injection h with h; subst h
      exact ⟨some (i, e0.val), by simp [Instr.findAsking, key2 _ hq], _, rfl, hv⟩
    · rename_i hq
      obtain ⟨res', h1, h2⟩ := findAsking_ok hr he hk es r0 (i + 1) hE res h
      exact ⟨res', by simp [Instr.findAsking, key2 _ hq, h1], h2⟩
    · cases h
theorem findNow_struct {fs : Array Field} {kc : Value} : ∀ (ents : List MapEntry) (i : Nat), Instr.findNow (.struct fs) kc ents i = if ents = [] then some none else none
  | [], i => rfl
  | e :: es, i => by simp [Instr.findNow, Instr.sameNow]
theorem findA_ok (hr : HR μ hp.get w) {t : TypeId} {e : ET} (he : ETok P t e) (hs : keyET e = e) (hn : e ≠ .no) {key : AV} {kc : Value} (hk : VRel μ key kc) {es : List (AV × AV × Nat)} {ents : List MapEntry} (hE : ERels μ es ents) {res : Option (Nat × AV)}
    (h : findA hp e key es 0 = some res) : ∃ res', (Instr.findKey t kc ents).run P w = .ok res' w ∧ FRel μ res res' := by
  cases e <;> first | (exact absurd rfl hn) | (simp [keyET] at hs; done) | skip
  case bool =>
    simp only [ETok] at he
    obtain ⟨res', h1, h2⟩ := findNow_ok hr (.inl ⟨rfl, rfl⟩) hk es ents 0 hE res h
    exact ⟨res', by simp [Instr.findKey, run_underlying he, h1], h2⟩
  case int k0 =>
    obtain ⟨k1, he⟩ := he
    obtain ⟨res', h1, h2⟩ := findNow_ok hr (.inr (.inl ⟨k0, k1, rfl, rfl⟩)) hk es ents 0 hE res h
    exact ⟨res', by simp [Instr.findKey, run_underlying he, h1], h2⟩
  case str =>
    simp only [ETok] at he
    obtain ⟨res', h1, h2⟩ := findNow_ok hr (.inr (.inr ⟨rfl, rfl⟩)) hk es ents 0 hE res h
    exact ⟨res', by simp [Instr.findKey, run_underlying he, h1], h2⟩
  case struct fs =>
    obtain ⟨res', h1, h2⟩ := findAsking_ok hr he hk es ents 0 hE res h
    obtain ⟨fields, hu, _, _⟩ := he
    by_cases h0 : ents = []
    · subst h0
      refine ⟨res', ?_, h2⟩
      simp only [Instr.findAsking, Sem.run_pure, Result.ok.injEq, and_true] at h1
      subst h1
      simp [Instr.findKey, run_underlying hu, findNow_struct]
    · exact ⟨res', by simp [Instr.findKey, run_underlying hu, findNow_struct, h0, h1], h2⟩
theorem keyET_self {e : ET} (h : keyET e ≠ .no) : keyET e = e := by
  cases e <;> simp only [keyET] at h ⊢ <;> first | rfl | exact absurd rfl h | skip
  split at h
  · rename_i h'; rw [if_pos h']
  · exact absurd rfl h
theorem lookupF_ok (hr : HR μ hp.get w) {t kt et : TypeId} {z : AV} {ok : Bool} (hu : P.underlying t = some (.map kt et)) (hz : zeroV P et = some z) (hke : keyET (etOf P kt) ≠ .no) {c d : Value} (hv : VRels μ vs [c, d]) (h : lookupF (etOf P kt) z ok vs hp x k = some r) :
    NGood P μ w x (Instr.lookup t c d ok) k r := by
  obtain ⟨zv, hzr, hzv⟩ := zeroV_ok hz
  have hE := etOf_ok (P := P) kt
  have hself := keyET_self hke
  unfold lookupF at h
  split at h
  · simp only [VRels, VRel, List.cons.injEq] at hv
    obtain ⟨v1, r1, ⟨rfl, rfl⟩, rfl, v2, r2, ⟨rfl, _⟩, hd, _⟩ := hv
    split at h
    · rename_i hf
      have hck := keyFits_ok (w := w) hE hd hf true 9998
      obtain ⟨u, hk, hrel⟩ := lookK_ok (hzv μ) h
      refine .pure hk ?_ hrel
      have : (Instr.findKey kt d []).run P w = .ok none w := by
        obtain ⟨res', h1, h2⟩ := findA_ok (e := etOf P kt) hr hE hself (by rw [hself] at hke; exact hke) hd (es := []) (ents := []) rfl (res := none) rfl
        simp only [FRel] at h2; subst h2; exact h1
      simp [Instr.lookup, run_underlying hu, hck, this, hzr]
    · cases h
  · rename_i b key
    simp only [VRels, VRel, List.cons.injEq] at hv
    obtain ⟨v1, r1, ⟨rfl, rfl⟩, ⟨l, hl, rfl⟩, v2, r2, ⟨rfl, _⟩, hd, _⟩ := hv
    split at h
    · rename_i es cl hes hf
      have hob := hr.ok b l hl
      rw [hes] at hob
      obtain ⟨ents, hb, hEs⟩ := hob
      have hck := fun emp => keyFits_ok (w := w) hE hd hf emp 9998
      have hget : (getObj l.blk).run P w = .ok (.map ents cl) w := by simp [getObj, Sem.run, hb]
      split at h
      · rename_i i v hq
        rw [avK_eq] at h
        obtain ⟨res', h1, cv, rfl, hcv⟩ := findA_ok (e := etOf P kt) hr hE hself (by rw [hself] at hke; exact hke) hd hEs hq
        obtain ⟨u, hk, hrel⟩ := lookK_ok hcv h
        refine .pure hk ?_ hrel
        simp [Instr.lookup, run_underlying hu, hget, hck, h1]
      · rename_i hq
        obtain ⟨res', h1, h2⟩ := findA_ok (e := etOf P kt) hr hE hself (by rw [hself] at hke; exact hke) hd hEs hq
        simp only [FRel] at h2; subst h2
        obtain ⟨u, hk, hrel⟩ := lookK_ok (hzv μ) h
        refine .pure hk ?_ hrel
        simp [Instr.lookup, run_underlying hu, hget, hck, h1, hzr]
      · cases h
    · cases h
  · cases h
theorem compConv_ok (hr : HR μ hp.get w) (hx : ∀ v o, k v (some o) = some r → μ x = none) {src dst : TypeId} {x0 : Operand} {ρ : Operand → Value} (hv : VRels μ vs ((compConv P src dst x0).2.map ρ)) (h : nrun (compConv P src dst x0).1 vs hp x k = some r) :
    NGood P μ w x (convert src dst (ρ x0)) k r := by
  unfold compConv at hv h
  split at h
  · rename_i k0 k1 h1 h2
    simp only [h1, h2] at hv
    exact toIntF_ok h1 h2 hv h
  · rename_i h1 h2
    simp only [h1, h2] at hv
    simp only [nrun] at h
    unfold strIdF at h
    split at h
    · simp only [List.map_cons, List.map_nil, VRels, VRel, List.cons.injEq] at hv
      obtain ⟨v1, r1, ⟨e1, rfl⟩, ⟨t0, rfl, rfl⟩, _⟩ := hv
      refine .pure h (cv := .string t0) ?_ (by simp only [VRel]; exact ⟨_, rfl, rfl⟩)
      rw [e1]; simp [convert, run_underlying h1, run_underlying h2]
    · cases h
  · rename_i e h1 h2
    simp only [h1, h2] at hv
    split at h
    · rename_i h3
      simp only [h3] at hv
      exact s2bF_ok hx h1 h2 h3 hv h
    · simp [bad, nrun, badF] at h
  · rename_i e h1 h2
    simp only [h1, h2] at hv
    split at h
    · rename_i h3
      simp only [h3] at hv
      exact b2sF_ok hr h1 h2 h3 hv h
    · simp [bad, nrun, badF] at h
  · simp [bad, nrun, badF] at h
def XGood {β : Type} (P : Program) (μ : Inj) (w : World) (x : Bid) (s : Sem Next) (k : AV → Option AObj → Option β) (r : β) : Prop :=
  ∃ v ob, k v ob = some r ∧ ∃ cv w', s.run P w = .ok (.value cv) w' ∧ NRes μ w x ob v cv w'
theorem NGood.up {s : Sem Value} (h : NGood P μ w x s k r) : XGood P μ w x (do Pure.pure (Next.value (← s)) : Sem Next) k r := by
  obtain ⟨v, ob, h1, cv, w', h2, h3⟩ := h
  exact ⟨v, ob, h1, cv, w', by simp [h2], h3⟩
theorem XGood.congr {s s' : Sem Next} (e : s.run P w = s'.run P w) (h : XGood P μ w x s' k r) : XGood P μ w x s k r := by
  obtain ⟨v, ob, h1, cv, w', h2, h3⟩ := h
  exact ⟨v, ob, h1, cv, w', by rw [e]; exact h2, h3⟩
theorem bad_no {q : Prop} (h : nrun bad.1 vs hp x k = some r) : q := by simp [bad, nrun, badF] at h
theorem compBin_ok (hr : HR μ hp.get w) {op : BinOp} {t : TypeId} {x0 y0 : Operand} {ρ : Operand → Value} (hv : VRels μ vs ((compBin P op t x0 y0).2.map ρ)) (h : nrun (compBin P op t x0 y0).1 vs hp x k = some r) :
    NGood P μ w x (do eqGuard op t x0 y0 (ρ x0) (ρ y0); binOp op t (ρ x0) (ρ y0)) k r := by
  unfold compBin at hv h
  split at h
  · exact shF_ok hv h
  · exact shF_ok hv h
  · split at h
    · rename_i h1; simp only [h1, if_true] at hv; exact arF_ok hv h
    · rename_i h1
      split at h
      · rename_i h2
        simp only [h1, h2, if_true, Bool.false_eq_true, if_false] at hv
        simp only [Bool.or_eq_true, not_or, Bool.not_eq_true] at h1
        exact eqF_ok hr (.inl ⟨rfl, rfl⟩) h2 h1.1 h1.2 hv h
      · exact bad_no h
  · split at h
    · rename_i h1; simp only [h1, if_true] at hv; exact arF_ok hv h
    · rename_i h1
      split at h
      · rename_i h2
        simp only [h1, h2, if_true, Bool.false_eq_true, if_false] at hv
        simp only [Bool.or_eq_true, not_or, Bool.not_eq_true] at h1
        exact eqF_ok hr (.inr ⟨rfl, rfl⟩) h2 h1.1 h1.2 hv h
      · exact bad_no h
  · rename_i h1 h2 h3 h4
    cases op <;> first | exact arF_ok hv h | simp_all
theorem compSlice_ok {t : TypeId} {x0 : Operand} {lo hi mx : Option Operand} {ρ : Operand → Value} (hv : VRels μ vs ((compSlice P t x0 lo hi mx).2.map ρ)) (h : nrun (compSlice P t x0 lo hi mx).1 vs hp x k = some r) :
    NGood P μ w x (Instr.sliceAt t (ρ x0) (lo.map ρ) (hi.map ρ) (mx.map ρ)) k r := by
  have ho : ∀ o : Option Operand, (optL o).map ρ = (o.map ρ).toList := by intro o; cases o <;> rfl
  have hs : ∀ o : Option Operand, o.isSome = (o.map ρ).isSome := by intro o; cases o <;> rfl
  unfold compSlice at hv h
  split at h
  · rename_i h1
    simp only [h1] at hv
    split at h
    · simp only [nrun, List.map_cons, List.map_append, ho] at h hv
      rw [hs lo, hs hi] at h
      exact slStrF_ok h1 hv h
    · exact bad_no h
  · rename_i e h1
    simp only [h1] at hv
    split at h
    · rename_i n h2
      simp only [h2] at hv
      simp only [nrun, List.map_cons, List.map_append, ho] at h hv
      rw [hs lo, hs hi, hs mx] at h
      exact slSlF_ok h1 h2 hv h
    · exact bad_no h
  · rename_i n e h1
    simp only [h1] at hv
    split at h
    · rename_i s0 h2
      simp only [h2] at hv
      simp only [nrun, List.map_cons, List.map_append, ho] at h hv
      rw [hs lo, hs hi] at h
      exact slArrF_ok h1 h2 hv h
    · exact bad_no h
  · exact bad_no h
theorem compBuiltinN_ok (hr : HR μ hp.get w) {b : Builtin} {ts : Array TypeId} {ty : TypeId} {cs : Array Bool} {as : Array Operand} {ρ : Operand → Value} (hv : VRels μ vs ((compBuiltinN P b ts as.toList).2.map ρ)) (h : nrun (compBuiltinN P b ts as.toList).1 vs hp x k = some r) :
    XGood P μ w x (builtin b ts ty cs (as.map ρ)) k r := by
  unfold compBuiltinN at hv h
  split at h
  · rename_i x0 has
    have hm : as.map ρ = #[ρ x0] := by rw [← Array.toList_inj]; simp [has]
    rw [hm]
    split at h
    · rename_i t ht
      simp only [has, ht] at hv
      unfold compLen at hv h
      split at h
      · rename_i hu; simp only [hu] at hv; exact (lenStrF_ok ht hu hv h).up
      · rename_i e hu; simp only [hu] at hv; exact (lenSlF_ok ht hu hv h).up
      · rename_i hu; simp only [hu] at hv; exact (lenMapF_ok hr ht hu hv h).up
      · rename_i n e hu
        exact (lenCF_ok (P := P) (w := w) (μ := μ) (s := Builtin.len_ ts ty #[ρ x0]) (by simp [Builtin.len_, ht, run_underlying hu]) h).up
      · rename_i a hu
        split at h
        · rename_i n e hu2
          exact (lenCF_ok (P := P) (w := w) (μ := μ) (s := Builtin.len_ ts ty #[ρ x0]) (by simp [Builtin.len_, ht, run_underlying hu, run_underlying hu2]) h).up
        · exact bad_no h
      · exact bad_no h
    · exact bad_no h
  · rename_i x0 has
    have hm : as.map ρ = #[ρ x0] := by rw [← Array.toList_inj]; simp [has]
    rw [hm]
    split at h
    · rename_i t ht
      simp only [has, ht] at hv
      unfold compCap at hv h
      split at h
      · rename_i hu; simp only [hu] at hv; exact (capF_ok ht hu hv h).up
      · rename_i n e hu
        exact (lenCF_ok (P := P) (w := w) (μ := μ) (s := Builtin.cap_ ts ty #[ρ x0]) (by simp [Builtin.cap_, ht, run_underlying hu]) h).up
      · rename_i a hu
        split at h
        · rename_i n e hu2
          exact (lenCF_ok (P := P) (w := w) (μ := μ) (s := Builtin.cap_ ts ty #[ρ x0]) (by simp [Builtin.cap_, ht, run_underlying hu, run_underlying hu2]) h).up
        · exact bad_no h
      · exact bad_no h
    · exact bad_no h
  · rename_i x0 y0 has
    have hm : as.map ρ = #[ρ x0, ρ y0] := by rw [← Array.toList_inj]; simp [has]
    rw [hm]; simp only [has] at hv
    exact (minF_ok hv h).up
  · rename_i x0 y0 has
    have hm : as.map ρ = #[ρ x0, ρ y0] := by rw [← Array.toList_inj]; simp [has]
    rw [hm]; simp only [has] at hv
    exact (maxF_ok hv h).up
  · exact bad_no h
theorem nilChkF_ok {ρ : Operand → Value} {o : Oper} {x0 : Operand} (ho : o.op = .nilCheck x0) (hv : VRels μ vs [ρ x0]) (h : nilChkF vs hp x k = some r) : XGood P μ w x (execOp ρ o) k r := by
  unfold nilChkF at h
  split at h
  · simp only [VRels, VRel, List.cons.injEq] at hv
    obtain ⟨v1, r1, ⟨rfl, rfl⟩, ⟨l, hl, e1⟩, _⟩ := hv
    exact ⟨_, none, h, ρ x0, w, by simp [execOp, ho, e1], rfl, rfl, rfl, rfl, by simp only [VRel]; exact ⟨l, hl, e1⟩⟩
  · simp only [VRels, VRel, List.cons.injEq] at hv
    obtain ⟨v1, r1, ⟨rfl, rfl⟩, ⟨y, e1, hy⟩, _⟩ := hv
    exact ⟨_, none, h, ρ x0, w, by simp [execOp, ho, e1], rfl, rfl, rfl, rfl, by simp only [VRel]; exact ⟨y, e1, hy⟩⟩
  · simp only [VRels, VRel, List.cons.injEq] at hv
    obtain ⟨v1, r1, ⟨rfl, rfl⟩, ⟨y, z, e1, hy, hz⟩, _⟩ := hv
    exact ⟨_, none, h, ρ x0, w, by simp [execOp, ho, e1], rfl, rfl, rfl, rfl, by simp only [VRel]; exact ⟨y, z, e1, hy, hz⟩⟩
  · cases h
theorem nrun_ok (hr : HR μ hp.get w) (hx : ∀ v o, k v (some o) = some r → μ x = none) {ρ : Operand → Value} (hρ : ∀ n, ρ (.global n) = .pointer (some ⟨n, 0, none⟩)) (hρc : ∀ v, ρ (.const v) = v) {o : Oper} (hv : VRels μ vs ((compNE P o.op).2.map ρ)) (h : nrun (compNE P o.op).1 vs hp x k = some r) : XGood P μ w x (execOp ρ o) k r := by
  unfold compNE at hv h
  unfold execOp
  cases ho : o.op <;> simp only [ho] at hv h ⊢
  case move y => obtain ⟨v, ob, h1, cv, w', h2, h3⟩ := mvF_ok (P := P) (w := w) hv h; exact ⟨v, ob, h1, cv, w', by simp at h2 ⊢; exact h2, h3⟩
  case pick c a b =>
    obtain ⟨v, ob, h1, cv, w', h2, h3⟩ := pickF_ok (P := P) (w := w) hv h
    simp only [Sem.run_bind] at h2
    cases hb : (asBool (ρ c)).run P w with
    | ok b0 w0 => rw [hb] at h2; simp at h2; exact ⟨v, ob, h1, cv, w', by simp [hb, h2], h3⟩
    | halt _ _ => rw [hb] at h2; simp at h2
  case alloc t =>
    split at h
    · rename_i z hz
      simp only [hz] at hv
      exact (allocF_ok hx hz hv h).up
    · exact bad_no h
  case box t y => exact (boxF_ok hx hv h).up
  case build t ps => exact (compBuild_ok hv h).up
  case buildSlice t n ps => exact (compBuildSlice_ok hx hv h).up
  case load t a =>
    cases a with
    | global n =>
      simp only at h hv
      split at h
      · rename_i m l hm hl
        simp only [hm, hl] at hv
        split at h
        · rename_i hlen
          rw [if_pos hlen] at hv
          refine (globF_ok (hr.gl n l hl).1 hm hlen (c := ρ (.global n)) (hρ n) ?_ h).up
          simpa [hρc] using hv
        · exact bad_no h
      · exact bad_no h
    | _ =>
      simp only at h hv
      split at h
      · rename_i g hg
        simp only [hg] at hv
        exact (loadF_ok hr hg hv h).up
      · exact bad_no h
  case nilCheck y =>
    have := nilChkF_ok (P := P) (w := w) (o := o) ho hv h
    unfold execOp at this
    simp only [ho] at this
    exact this
  case binOp op t a b ty => exact (compBin_ok hr hv h).up
  case unOp op t a =>
    unfold compUn at hv h
    cases op
    · exact (negF_ok hv h).up
    · exact (invF_ok hv h).up
    · exact (bnotF_ok hv h).up
    · exact bad_no h
  case convert a b y => exact (compConv_ok hr hx hv h).up
  case makeInterface t y =>
    unfold compIface at hv h
    split at h
    · exact bad_no h
    · rename_i d hn hd
      simp only [hd] at hv
      refine (mkIfaceF_ok hd (fun ms e => ?_) (by cases d <;> first | exact hv | exact absurd rfl (hn _)) h).up
      subst e; exact hn _ rfl
    · exact bad_no h
  case makeFunc fn a b =>
    have hv' : VRels μ vs ((a.map ρ).toList ++ (b.map ρ).toList) := by simpa [List.map_append] using hv
    have h' : mkFuncF fn (a.map ρ).size vs hp x k = some r := by rw [Array.size_map]; exact h
    exact (mkFuncF_ok hv' h').up
  case makeMap t y =>
    cases y with
    | none => exact (mkMapF_ok hx (c := none) (.inl rfl) hv h).up
    | some y =>
      unfold compMkMap at hv h
      simp only at hv h
      split at h
      · rename_i a b hu
        simp only [hu] at hv
        exact (mkMapF_ok hx (c := some (ρ y)) (.inr ⟨a, b, hu⟩) hv h).up
      · exact bad_no h
  case makeSlice t a b =>
    unfold compMkSlice at hv h
    split at h
    · rename_i e hu
      simp only [hu] at hv
      split at h
      · rename_i i z hi hz
        simp only [hi, hz] at hv
        split at h
        · rename_i hc
          simp only [hc, ne_eq, and_self, if_true] at hv
          exact (mkSliceF_ok hx hu hi hz hc.1 hc.2 (by simpa [hc] using hv) h).up
        · exact bad_no h
      · exact bad_no h
    · exact bad_no h
  case slice t y lo hi mx => exact (compSlice_ok hv h).up
  case fieldAddr t y f =>
    unfold compFieldAddr at hv h
    split at h
    · rename_i fs hu
      simp only [hu] at hv
      split at h
      · rename_i fd hf
        simp only [hf] at hv
        split at h
        · rename_i n hs
          simp only [hs] at hv
          exact (fieldAddrF_ok hu hf hs hv h).up
        · exact bad_no h
      · exact bad_no h
    · exact bad_no h
  case field t y f =>
    unfold compField at hv h
    split at h
    · rename_i fs hu
      simp only [hu] at hv
      split at h
      · rename_i fd hf
        simp only [hf] at hv
        split at h
        · rename_i g hs
          simp only [hs] at hv
          exact (fieldF_ok hu hf hs hv h).up
        · exact bad_no h
      · exact bad_no h
    · exact bad_no h
  case indexAddr t y i =>
    unfold compIndexAddr at hv h
    split at h
    · rename_i n e hu
      simp only [hu] at hv
      split at h
      · rename_i s0 hs
        simp only [hs] at hv
        exact (idxAddrArrF_ok hu hs hv h).up
      · exact bad_no h
    · rename_i e hu
      simp only [hu] at hv
      split at h
      · rename_i s0 hs
        simp only [hs] at hv
        exact (idxAddrSlF_ok hu hs hv h).up
      · exact bad_no h
    · exact bad_no h
  case index t y i =>
    unfold compIndex at hv h
    split at h
    · rename_i n e hu
      simp only [hu] at hv
      split at h
      · rename_i s0 g hs hg
        simp only [hs, hg] at hv
        exact (idxArrF_ok hu hs hg hv h).up
      · exact bad_no h
    · rename_i hu
      simp only [hu] at hv
      exact (idxStrF_ok hu hv h).up
    · exact bad_no h
  case lookup t y i ok =>
    unfold compLookup at hv h
    split at h
    · rename_i kt et hu
      simp only [hu] at hv
      split at h
      · exact bad_no h
      · rename_i et0 z hz hke
        have hne : keyET (etOf P kt) ≠ .no := hke
        have hself := keyET_self hne
        have hv' : VRels μ vs [ρ y, ρ i] := by
          split at hv
          · rename_i e; exact absurd e hne
          · exact hv
          · rename_i e; rw [hz] at e; exact absurd rfl (e _)
        rw [hself] at h
        exact (lookupF_ok hr hu hz hne hv' h).up
      · exact bad_no h
    · exact bad_no h
  case typeAssert y yt t ok =>
    unfold compAssert at hv h
    split at h
    · exact bad_no h
    · rename_i d z hn hd hz
      simp only [hd, hz] at hv
      refine (tassertF_ok hz hd (fun ms e => ?_) (by cases d <;> first | exact hv | exact absurd rfl (hn _)) h).up
      subst e; exact hn _ rfl
    · exact bad_no h
  case extract y i => exact (extractF_ok hv h).up
  case call c =>
    obtain ⟨callee, args, ts⟩ := c
    cases callee with
    | builtin b =>
      simp only at hv h
      exact XGood.congr rfl (compBuiltinN_ok (w := w) hr hv h)
    | value f => exact bad_no h
    | invoke rc nm => exact bad_no h
  all_goals exact bad_no h
end
end Go.Proofs.Ytkejnhmhbmbhcaa.Eng
namespace Go.Proofs.Ytkejnhmhbmbhcaa.Eng
open Go
/-! ### cells that are put over -/
theorem setCells_heap (b : Nat) : ∀ (vs : List Value) (o : Nat) (w : World) (arr : Array Value) (t : TypeId) (fr : Nat × Nat), w.heap[b]? = some (.cells arr t fr) → o + vs.length ≤ arr.size →
    ∃ arr' : Array Value, (w.setCells b o vs).heap[b]? = some (.cells arr' t fr) ∧ arr'.toList = over arr.toList o vs
  | [], o, w, arr, t, fr, h, _ => ⟨arr, h, (over_nil _ _).symm⟩
  | v :: vs, o, w, arr, t, fr, h, hl => by
    simp only [List.length_cons] at hl
    have h1 : (w.setCell ⟨b, o, none⟩ v).heap[b]? = some (.cells (arr.setIfInBounds o v) t fr) := by
      simp only [World.setCell, Array.getElem?_modify, if_true, h, Option.map_some]
      rfl
    obtain ⟨arr', h2, h3⟩ := setCells_heap b vs (o + 1) _ _ t fr h1 (by simp; omega)
    refine ⟨arr', h2, ?_⟩
    rw [h3, Array.toList_setIfInBounds, over_cons _ _ _ _ (by simp; omega)]
theorem setCells_other (b : Nat) : ∀ (vs : List Value) (o : Nat) (w : World) (c : Nat), c ≠ b → (w.setCells b o vs).heap[c]? = w.heap[c]?
  | [], _, _, _, _ => rfl
  | v :: vs, o, w, c, h => by
    rw [World.setCells, setCells_other b vs (o + 1) _ c h]
    exact heap_setCell_other w ⟨b, o, none⟩ c v h
theorem setCells_rest (b : Nat) : ∀ (vs : List Value) (o : Nat) (w : World), (w.setCells b o vs).os = w.os ∧ (w.setCells b o vs).tape = w.tape ∧ (w.setCells b o vs).output = w.output ∧ (w.setCells b o vs).heap.size = w.heap.size
  | [], _, _ => ⟨rfl, rfl, rfl, rfl⟩
  | v :: vs, o, w => by
    obtain ⟨h1, h2, h3, h4⟩ := setCells_rest b vs (o + 1) (w.setCell ⟨b, o, none⟩ v)
    refine ⟨h1, h2, h3, ?_⟩
    rw [World.setCells, h4]; simp
section
variable {β : Type} {P : Program} {μ : Inj} {w : World} {r : β} {h : Hp}
theorem okCells_ok : ∀ {l : List AV} {vals : List Value}, okCells l = true → VRels μ l vals → ∀ v ∈ vals, v.oneCell' = true
  | [], _, _, hv => by simp only [VRels] at hv; subst hv; simp
  | a :: l, _, h, hv => by
    simp only [okCells, Bool.and_eq_true] at h
    simp only [VRels] at hv
    obtain ⟨v, r0, rfl, ha, hv⟩ := hv
    intro u hu
    rcases List.mem_cons.1 hu with rfl | hu
    · cases a <;> simp [okCell] at h <;> simp only [VRel] at ha
      all_goals first | (subst ha; rfl) | skip
      case str => obtain ⟨_, rfl, _⟩ := ha; rfl
      case nz => obtain ⟨rfl, _⟩ := ha; rfl
      case ptr => obtain ⟨_, _, rfl⟩ := ha; rfl
      case slice => obtain ⟨_, _, hs⟩ := ha; obtain ⟨_, _, rfl, _⟩ := slice_len hs; rfl
      case map => obtain ⟨_, _, rfl⟩ := ha; rfl
      case func => obtain ⟨_, _, rfl, _⟩ := ha; rfl
      case iface => obtain ⟨_, rfl, _⟩ := ha; rfl
    · exact okCells_ok h.2 hv u hu
theorem Hp.get_put_self (h : Hp) (b : Bid) (o : AObj) : (h.put b o).get b = o := by rw [Hp.get_put, if_pos rfl]
theorem Hp.get_put_ne (h : Hp) {b c : Bid} (o : AObj) (hne : c ≠ b) : (h.put b o).get c = h.get c := by rw [Hp.get_put, if_neg hne]
theorem HR.change (hr : HR μ h.get w) {b : Bid} {l : Loc} (hl : μ b = some l) (hlive : live (h.get b) = true) {o : AObj} (ho : live o = true) {w' : World} (hsame : ∀ c, c ≠ l.blk → w'.heap[c]? = w.heap[c]?) (hob : ObjRel μ w' l o)
    (h1 : w'.os = w.os) (h2 : w'.tape = w.tape) (h3 : w'.output = w.output) (h4 : w'.heap.size = w.heap.size) : HR μ (h.put b o).get w' ∧ Fr μ h.get w μ (h.put b o).get w' := by
  have hlv : ∀ c, live ((h.put b o).get c) = live (h.get c) := by
    intro c
    by_cases e : c = b
    · subst e; rw [Hp.get_put_self, ho, hlive]
    · rw [Hp.get_put_ne _ _ e]
  refine HR.pair hr.gl (fun c m hc => ?_) (fun c c' m m' hc hc' e1 e2 e3 => hr.inj c c' m m' hc hc' (by rw [← hlv]; exact e1) (by rw [← hlv]; exact e2) e3) ?_
  · by_cases e : c = b
    · subst e; rw [hl] at hc; injection hc with hc; subst hc; rw [Hp.get_put_self]; exact hob
    · rw [Hp.get_put_ne _ _ e]
      refine (hr.ok c m hc).of_block fun hlc => hsame _ fun he => e (hr.inj c b m l hc hl hlc hlive he)
  · refine ⟨Le.refl _, fun c e e' => absurd e e', h1, h2, h3, by rw [h4]; exact Nat.le_refl _, fun c _ hu => hsame c fun e => hu ⟨b, l, hl, hlive, e.symm⟩, fun c hu => ?_, fun c hc => ?_⟩
    · obtain ⟨b', l', hb', hl', e⟩ := hu
      exact .inl ⟨b', l', hb', by rw [← hlv]; exact hl', e⟩
    · by_cases e : c = b
      · subst e; rw [Hp.get_put_self]; intro e; rw [e] at ho; cases ho
      · rw [Hp.get_put_ne _ _ e]; exact hc
theorem overObj_ok (hr : HR μ h.get w) {b : Bid} {l : Loc} (hl : μ b = some l) {o : Nat} {c : List AV} {vals : List Value} (hc : VRels μ c vals) {k' : Hp → Option β} (hk : overObj o c b h (h.get b) k' = some r) :
    ∃ h' w', k' h' = some r ∧ (storeCells ⟨l.blk, l.base + o, none⟩ vals).run P w = .ok () w' ∧ HR μ h'.get w' ∧ Fr μ h.get w μ h'.get w' ∧ live (h'.get b) = live (h.get b) ∧ (∀ d, d ≠ b → h'.get d = h.get d) := by
  unfold overObj at hk
  split at hk
  · rename_i hok
    have h1 := okCells_ok hok hc
    have hlen := hc.length
    cases hob : h.get b with
    | no => rw [hob] at hk; cases hk
    | dead => rw [hob] at hk; cases hk
    | map _ _ => rw [hob] at hk; cases hk
    | cells c0 =>
      rw [hob] at hk
      simp only [overObj1] at hk
      obtain ⟨hb, hk⟩ := overK_ok hk
      rw [Hp.putK_eq] at hk
      have hor := hr.ok b l hl
      rw [hob] at hor
      obtain ⟨hbase, arr, t, hheap, hrel⟩ := hor
      have hsz : c0.length = arr.size := by simpa using hrel.length
      obtain ⟨arr', hh, harr⟩ := setCells_heap l.blk vals o w arr t (0, 0) hheap (by omega)
      obtain ⟨q1, q2, q3, q4⟩ := setCells_rest l.blk vals o w
      have hrun := run_storeCells_cells (P := P) l.blk o vals 0 w (fun j hj => by simp [World.cell?, hheap]; omega) (fun j hj => by simp [World.frozen?, hheap]) h1
      have hch := hr.change hl (by rw [hob]; rfl) (o := .cells (over c0 o c)) rfl (w' := w.setCells l.blk o vals) (fun c hc => setCells_other l.blk vals o w c hc)
        ⟨hbase, arr', t, hh, by rw [harr]; exact hrel.over o hc⟩ q1 q2 q3 q4
      refine ⟨_, _, hk, by rw [hbase, Nat.zero_add]; simpa using hrun, hch.1, hch.2, ?_, fun d hd => Hp.get_put_ne _ _ hd⟩
      rw [Hp.get_put_self]; rfl
    | opn c0 sz =>
      rw [hob] at hk
      simp only [overObj1] at hk
      obtain ⟨hb, hk⟩ := overK_ok hk
      rw [Hp.putK_eq] at hk
      have hor := hr.ok b l hl
      rw [hob] at hor
      obtain ⟨arr, t, fr, hheap, hfr, hcap, hrel⟩ := hor
      have hsz : c0.length = min c0.length (arr.size - l.base) := by simpa using hrel.length
      have hin : l.base + o + vals.length ≤ arr.size := by omega
      obtain ⟨arr', hh, harr⟩ := setCells_heap l.blk vals (l.base + o) w arr t fr hheap hin
      obtain ⟨q1, q2, q3, q4⟩ := setCells_rest l.blk vals (l.base + o) w
      have hrun := run_storeCells_cells (P := P) l.blk (l.base + o) vals 0 w (fun j hj => by simp [World.cell?, hheap]; omega) (fun j hj => by
        have hf := hfr (l.base + o + j) (by omega)
        simp only [World.frozen?, hheap]
        rw [Bool.and_eq_false_iff]; simp only [decide_eq_false_iff_not, Nat.add_zero]
        by_cases hle : fr.1 ≤ l.base + o + j
        · right; exact fun hh => hf ⟨hle, hh⟩
        · left; exact hle) h1
      have hasz : arr'.size = arr.size := by
        rw [← Array.length_toList, harr, over_length _ _ _ (by rw [Array.length_toList]; exact hin), Array.length_toList]
      have hch := hr.change hl (by rw [hob]; rfl) (o := .opn (over c0 o c) sz) rfl (w' := w.setCells l.blk (l.base + o) vals) (fun c hc => setCells_other l.blk vals (l.base + o) w c hc)
        (by
          refine ⟨arr', t, fr, hh, by rw [hasz]; exact hfr, by rw [hasz]; exact hcap, ?_⟩
          rw [over_length _ _ _ hb, harr]
          have : ((over arr.toList (l.base + o) vals).drop l.base).take c0.length = over ((arr.toList.drop l.base).take c0.length) o vals := by
            apply List.ext_getElem?
            intro i
            rw [over_get _ _ _ (by simp; omega)]
            rw [List.getElem?_take, List.getElem?_drop, over_get _ _ _ (by simpa using hin)]
            rw [List.getElem?_take, List.getElem?_drop]
            by_cases e1 : o ≤ i ∧ i < o + vals.length
            · rw [if_pos (by omega), if_pos (by omega), if_pos e1]; congr 1; omega
            · rw [if_neg e1]
              split
              · rw [if_neg (by omega)]
              · rfl
          rw [this]; exact hrel.over o hc) q1 q2 q3 q4
      refine ⟨_, _, hk, by simpa using hrun, hch.1, hch.2, ?_, fun d hd => Hp.get_put_ne _ _ hd⟩
      rw [Hp.get_put_self]; rfl
  · cases hk
def EGood {β : Type} (P : Program) (μ : Inj) (h : Hp) (w : World) (s : Sem Next) (k : EK β) (r : β) : Prop :=
  ∃ v h' x', k v h' x' = some r ∧ ∃ nx cv w' μ', s.run P w = .ok nx w' ∧ (nx = .value cv ∨ (nx = .skip ∧ cv = undef)) ∧ VRel μ' v cv ∧ HR μ' h'.get w' ∧ Fr μ h.get w μ' h'.get w'
variable {x : Bid} {vs : List AV} {k : EK β}
theorem assignE_ok (hr : HR μ h.get w) {c : Value} (hv : VRels μ vs [c]) (hk : assignE vs h x k = some r) : EGood P μ h w (pure (.value c)) k r := by
  unfold assignE at hk
  split at hk
  · simp only [VRels, List.cons.injEq] at hv
    obtain ⟨v1, r1, ⟨rfl, rfl⟩, hv, _⟩ := hv
    exact ⟨_, _, _, hk, _, _, _, μ, rfl, .inl rfl, hv, hr, Fr.refl _ _ _⟩
  · cases hk
theorem storeE_ok (hr : HR μ h.get w) {t : TypeId} {n : Nat} (hs : sizeP P t = some n) {a c : Value} (hv : VRels μ vs [a, c]) (hk : storeE (some n) vs h x k = some r) :
    EGood P μ h w (do Instr.storeAt t a c; pure .skip) k r := by
  unfold storeE at hk
  split at hk
  · rename_i b o v
    simp only [VRels, VRel, List.cons.injEq] at hv
    obtain ⟨v1, r1, ⟨rfl, rfl⟩, ⟨l, hl, rfl⟩, v2, r2, ⟨rfl, _⟩, hv, _⟩ := hv
    obtain ⟨lst, hk, hlst⟩ := cellsK_ok hv hk
    split at hk
    · rename_i hsz
      rw [Nat.beq_eq] at hsz
      simp only at hsz
      obtain ⟨h', w', hk, hrun, hr', hf, _⟩ := overObj_ok (P := P) hr hl hlst hk
      have hcs : c.cells.size = n := (by simpa using hlst.length : lst.length = c.cells.size).symm.trans hsz
      refine ⟨_, _, _, hk, .skip, undef, w', μ, ?_, .inr ⟨rfl, rfl⟩, by simp [VRel], hr', hf⟩
      simp [Instr.storeAt, Instr.sureAddr, storeVar, run_sizeOf hs, hcs, hrun]
    · cases hk
  · cases hk
end
end Go.Proofs.Ytkejnhmhbmbhcaa.Eng
namespace Go.Proofs.Ytkejnhmhbmbhcaa.Eng
open Go
section
variable {β : Type} {P : Program} {μ : Inj} {w : World} {r : β} {h : Hp} {x : Bid} {vs : List AV} {k : EK β}
theorem HR.fresh (hr : HR μ h.get w) (hx : h.get x = .no) : μ x = none := by
  cases e : μ x with
  | none => rfl
  | some l => have := hr.ok x l e; rw [hx] at this; exact this.elim
theorem HR.push (hr : HR μ h.get w) (hx : h.get x = .no) {o : AObj} (ho : live o = true) {w' : World} {hob : Obj} (hw : w'.heap = w.heap.push hob) (h1 : w'.os = w.os) (h2 : w'.tape = w.tape) (h3 : w'.output = w.output) (c : Nat)
    (hrel : ObjRel (upd μ x ⟨w.heap.size, 0, c⟩) w' ⟨w.heap.size, 0, c⟩ o) : HR (upd μ x ⟨w.heap.size, 0, c⟩) (h.put x o).get w' ∧ Fr μ h.get w (upd μ x ⟨w.heap.size, 0, c⟩) (h.put x o).get w' := by
  have hf := hr.fresh hx
  have hle := le_upd (x := x) ⟨w.heap.size, 0, c⟩ hf
  have hold : ∀ i, i < w.heap.size → w'.heap[i]? = w.heap[i]? := fun i hi => by rw [hw, Array.getElem?_push, if_neg (by omega)]
  have hcase : ∀ b l, upd μ x ⟨w.heap.size, 0, c⟩ b = some l → (b = x ∧ l = ⟨w.heap.size, 0, c⟩) ∨ (b ≠ x ∧ μ b = some l) := by
    intro b l hb
    unfold upd at hb
    split at hb
    · rename_i e; injection hb with hb; exact .inl ⟨e, hb.symm⟩
    · rename_i e; exact .inr ⟨e, hb⟩
  refine HR.pair hr.gl (fun b l hb => ?_) (fun b b' l l' hb hb' e1 e2 e3 => ?_) ⟨hle, fun b hb hb' => ?_, h1, h2, h3, by rw [hw]; simp, fun i hi _ => hold i hi, fun i hu => ?_, fun b hb => ?_⟩
  · rcases hcase b l hb with ⟨rfl, rfl⟩ | ⟨hne, hb⟩
    · rw [Hp.get_put_self]; exact hrel
    · rw [Hp.get_put_ne _ _ hne]
      exact ((hr.ok b l hb).mono hle).of_block fun hl => hold _ ((hr.ok b l hb).lt hl)
  · rcases hcase b l hb with ⟨rfl, rfl⟩ | ⟨hne, gb⟩ <;> rcases hcase b' l' hb' with ⟨rfl, rfl⟩ | ⟨hne', gb'⟩
    · rfl
    · rw [Hp.get_put_ne _ _ hne'] at e2; have := (hr.ok b' l' gb').lt e2; simp at e3; omega
    · rw [Hp.get_put_ne _ _ hne] at e1; have := (hr.ok b l gb).lt e1; simp at e3; omega
    · rw [Hp.get_put_ne _ _ hne] at e1; rw [Hp.get_put_ne _ _ hne'] at e2; exact hr.inj b b' l l' gb gb' e1 e2 e3
  · by_cases e : b = x
    · subst e; exact hx
    · exact absurd (by unfold upd; rw [if_neg e]; exact hb) hb'
  · obtain ⟨b, l, hb, hl, e⟩ := hu
    rcases hcase b l hb with ⟨rfl, rfl⟩ | ⟨hne, hb⟩
    · exact .inr (by simp at e; omega)
    · rw [Hp.get_put_ne _ _ hne] at hl; exact .inl ⟨b, l, hb, hl, e⟩
  · by_cases e : b = x
    · subst e; exact absurd hx hb
    · rw [Hp.get_put_ne _ _ e]; exact hb
theorem freshK_ok {k' : Bid → Option β} (hk : freshK h x k' = some r) : h.get x = .no ∧ ∃ y, k' y = some r := by
  unfold freshK at hk
  split at hk
  · rename_i e
    obtain ⟨c, hc⟩ := succK_ok x k'
    exact ⟨e, c, by rw [← hc]; exact hk⟩
  · cases hk
theorem At.load {l : Loc} {c : List AV} (ha : At μ w l c) {o m : Nat} (hm : o + m ≤ c.length) :
    ∃ vals : List Value, VRels μ ((c.drop o).take m) vals ∧ vals.length = m ∧ ∀ w2, w2.heap = w.heap → (loadCells ⟨l.blk, l.base + o, none⟩ m).run P w2 = .ok vals.toArray w2 := by
  obtain ⟨vals, hv, hc⟩ := ha
  have hl := hv.length
  refine ⟨(vals.drop o).take m, (hv.drop o).take m, by simp; omega, fun w2 hw2 => ?_⟩
  have := run_loadCells_list (P := P) (w := w2) ⟨l.blk, l.base + o, none⟩ ((vals.drop o).take m) (by
    intro j y hy
    rw [loc_add, List.getElem?_take] at *
    split at hy
    · rw [List.getElem?_drop] at hy
      have := (hc _ y hy).1
      simp only [World.cell?, hw2] at this ⊢; exact this
    · cases hy)
  have e : ((vals.drop o).take m).length = m := by simp; omega
  rw [e] at this; exact this
theorem lenA_ok {a : AV} {c : Value} (hv : VRel μ a c) {k' : Nat → Option β} (hk : lenA a k' = some r) : ∃ n, k' n = some r ∧ ∀ w, (Builtin.lenOf c).run P w = .ok n w := by
  unfold lenA at hk
  split at hk
  · simp only [VRel] at hv; subst hv; exact ⟨_, hk, fun w => rfl⟩
  · simp only [VRel] at hv; obtain ⟨s, rfl, rfl⟩ := hv
    rw [natK_eq] at hk
    exact ⟨_, hk, fun w => by simp [Builtin.lenOf]⟩
  · simp only [VRel] at hv; obtain ⟨l, hl, hs⟩ := hv; obtain ⟨a, cc, rfl, _⟩ := slice_len hs
    exact ⟨_, hk, fun w => rfl⟩
  · cases hk
theorem srcK_ok (hr : HR μ h.get w) {size n : Nat} {a : AV} {c : Value} (hv : VRel μ a c) {k' : List AV → Option β} (hk : srcK size h n a k' = some r) :
    ∃ src vals, k' src = some r ∧ VRels μ src vals ∧ ∀ w2, w2.heap = w.heap → (Builtin.firstCells size n c).run P w2 = .ok vals.toArray w2 := by
  unfold srcK at hk
  split at hk
  · split at hk
    · simp only [VRel] at hv; subst hv
      exact ⟨[], [], hk, by simp [VRels], fun w2 _ => by simp [Builtin.firstCells]⟩
    · cases hk
  · simp only [VRel] at hv; obtain ⟨s, rfl, rfl⟩ := hv
    obtain ⟨hn, hk⟩ := takeK_ok hk
    rw [← List.map_take] at hk
    obtain ⟨m, hk, _, hrel⟩ := u8s_ok _ _ hk
    refine ⟨m, _, hk, hrel μ, fun w2 _ => ?_⟩
    simp only [Builtin.firstCells, Sem.run_pure]
    congr 1
    rw [← Array.toList_inj]
    obtain ⟨⟨l⟩⟩ := s
    rw [show (ByteArray.mk { toList := l }).extract 0 n = ByteArray.mk ((l.drop 0).take (n - 0)).toArray from ByteArray.extract_mk l 0 n]
    simp
  · rename_i b o m cp
    split at hk
    · rename_i hb; rw [Nat.ble_eq] at hb
      simp only [VRel] at hv; obtain ⟨l, hl, hs⟩ := hv
      obtain ⟨a, cc, rfl, ha⟩ := slice_len hs
      unfold srcPart at hk
      split at hk
      · exact ⟨[], [], hk, by simp [VRels], fun w2 _ => by simp [Builtin.firstCells, loadCells, loadCellsFrom]⟩
      · rename_i n'
        obtain ⟨c0, hkn, hk⟩ := knownK_ok hk
        obtain ⟨_, hk⟩ := dropK_ok hk
        obtain ⟨hn, hk⟩ := takeK_ok hk
        obtain ⟨vals, h1, h2, h3⟩ := ((hr.ok b l hl).at hkn).load (P := P) (o := o) (m := (n' + 1) * size) (by simp at hn; omega)
        rw [ha (by omega)]
        exact ⟨_, vals, hk, h1, fun w2 hw2 => by simp only [Builtin.firstCells]; exact h3 w2 hw2⟩
    · cases hk
  · cases hk
theorem run_append_grows {ts : Array TypeId} {t u e ty : TypeId} {i : TypeInfo} {z : Value} (h0 : ts[0]? = some t) (h1 : ts[1]? = some u) (ht : P.underlying t = some (.slice e)) (hd : strOrSlice (P.underlying u) = true) (hi : P.info? e = some i) (hz : i.zero = some z)
    {base : Option Addr} {sLen sCap n : Nat} {c : Value} (hlen : ∀ w, (Builtin.lenOf c).run P w = .ok n w) (hneed : sCap < sLen + n) (hb1 : sLen ≤ 1000000) (hb2 : n ≤ 1000000) (hb3 : i.bytes ≤ 1024) {old new : List Value}
    (hold : ∀ w2, w2.heap = w.heap → (Builtin.firstCells i.size sLen (.slice base sLen sCap)).run P w2 = .ok old.toArray w2) (hnew : ∀ w2, w2.heap = w.heap → (Builtin.firstCells i.size n c).run P w2 = .ok new.toArray w2) :
    ∃ (cap : Nat) (arr : Array Value), sLen + n ≤ cap ∧ (Builtin.append_ ts ty #[.slice base sLen sCap, c]).run P w = .ok (.slice (some ⟨w.heap.size, 0, none⟩) (sLen + n) cap) (w.drew.alloc (.cells arr e)) ∧
      arr.toList = old ++ (new ++ (Builtin.zeroCells z.cells (cap - (sLen + n))).toList) := by
  have hcap := nextslicecap_le hneed
  have hk : Builtin.nextslicecap (sLen + n) sCap * i.bytes ≤ 281474976710656 := by
    calc Builtin.nextslicecap (sLen + n) sCap * i.bytes ≤ (2 * (sLen + n)) * 1024 := Nat.mul_le_mul hcap hb3
      _ ≤ 281474976710656 := by omega
  have hn : ¬ (sLen + n ≤ sCap) := by omega
  have h63' : ¬ (9223372036854775807 < ((sLen : Int) + (n : Int))) := by omega
  have h48' : ¬ (281474976710656 < Builtin.nextslicecap (sLen + n) sCap * i.bytes) := by omega
  have hfo := hold w.drew rfl
  have hf := hnew w.drew rfl
  refine ⟨grownCap w (sLen + n) sCap e, old.toArray ++ (new.toArray ++ Builtin.zeroCells z.cells (grownCap w (sLen + n) sCap e - (sLen + n))), grownCap_ge _ _ _ _, ?_, by simp⟩
  cases hu : P.underlying u with
  | none => rw [hu] at hd; cases hd
  | some d =>
    rw [hu] at hd
    cases d <;> first | (cases hd; done) | skip
    all_goals
      simp [Builtin.append_, h0, h1, run_underlying ht, run_underlying hu, sizeOf, run_typeInfo hi, zeroValue, hz, hlen, hn, h63', h48', Question.forced, hf, hfo, newRow, grownCap]
      try (congr 2; apply Array.ext'; simp [List.append_assoc])
theorem run_append_room {ts : Array TypeId} {t u e ty : TypeId} {i : TypeInfo} (h0 : ts[0]? = some t) (h1 : ts[1]? = some u) (ht : P.underlying t = some (.slice e)) (hd : strOrSlice (P.underlying u) = true) (hi : P.info? e = some i)
    {base : Addr} {sLen sCap n : Nat} {c : Value} (hlen : ∀ w, (Builtin.lenOf c).run P w = .ok n w) (hneed : sLen + n ≤ sCap) {new : List Value} {w' : World}
    (hnew : ∀ w2, w2.heap = w.heap → (Builtin.firstCells i.size n c).run P w2 = .ok new.toArray w2) (hst : (storeCells (base.add (sLen * i.size)) new).run P w = .ok () w') :
    (Builtin.append_ ts ty #[.slice (some base) sLen sCap, c]).run P w = .ok (.slice (some base) (sLen + n) sCap) w' := by
  have hf := hnew w rfl
  cases hu : P.underlying u with
  | none => rw [hu] at hd; cases hd
  | some d =>
    rw [hu] at hd
    cases d <;> first | (cases hd; done) | skip
    all_goals
      simp [Builtin.append_, h0, h1, run_underlying ht, run_underlying hu, sizeOf, run_typeInfo hi, hlen, hneed, hf, hst]
theorem run_append_nothing {ts : Array TypeId} {t u e ty : TypeId} {i : TypeInfo} (h0 : ts[0]? = some t) (h1 : ts[1]? = some u) (ht : P.underlying t = some (.slice e)) (hd : strOrSlice (P.underlying u) = true) (hi : P.info? e = some i)
    {c : Value} (hlen : ∀ w, (Builtin.lenOf c).run P w = .ok 0 w) {new : List Value} (hnew : ∀ w2, w2.heap = w.heap → (Builtin.firstCells i.size 0 c).run P w2 = .ok new.toArray w2) :
    (Builtin.append_ ts ty #[.slice none 0 0, c]).run P w = .ok (.slice none 0 0) w := by
  have hf := hnew w rfl
  cases hu : P.underlying u with
  | none => rw [hu] at hd; cases hd
  | some d =>
    rw [hu] at hd
    cases d <;> first | (cases hd; done) | skip
    all_goals
      simp [Builtin.append_, h0, h1, run_underlying ht, run_underlying hu, sizeOf, run_typeInfo hi, hlen, hf]
theorem growE_ok (hr : HR μ h.get w) {ts : Array TypeId} {t u e ty : TypeId} {i : TypeInfo} {zs : List AV} (h0 : ts[0]? = some t) (h1 : ts[1]? = some u) (ht : P.underlying t = some (.slice e)) (hd : strOrSlice (P.underlying u) = true) (hi : P.info? e = some i) (hz : zeroP P e = some zs) (hzl : zs.length = i.size)
    {base : Option Addr} {sLen sCap n : Nat} {c : Value} (hlen : ∀ w, (Builtin.lenOf c).run P w = .ok n w) (hneed : sCap < sLen + n) (hb1 : sLen ≤ 1000000) (hb2 : n ≤ 1000000) (hb3 : i.bytes ≤ 1024) {old new : List Value} {oldA srcA : List AV} (ho : VRels μ oldA old) (hn : VRels μ srcA new)
    (hol : old.length = sLen * i.size) (hnl : new.length = n * i.size)
    (hold : ∀ w2, w2.heap = w.heap → (Builtin.firstCells i.size sLen (.slice base sLen sCap)).run P w2 = .ok old.toArray w2) (hnew : ∀ w2, w2.heap = w.heap → (Builtin.firstCells i.size n c).run P w2 = .ok new.toArray w2)
    (hk : growE i.size sLen n oldA srcA h x k = some r) :
    ∃ v h' x' w' cv μ', k v h' x' = some r ∧ (Builtin.append_ ts ty #[.slice base sLen sCap, c]).run P w = .ok cv w' ∧ VRel μ' v cv ∧ HR μ' h'.get w' ∧ Fr μ h.get w μ' h'.get w' := by
  obtain ⟨i', zv, hi', hiz, hzrel, _⟩ := zeroP_ok hz
  rw [hi] at hi'; injection hi' with hi'; subst hi'
  obtain ⟨cap, arr, hcap, hrun, harr⟩ := run_append_grows (w := w) (ty := ty) h0 h1 ht hd hi hiz hlen hneed hb1 hb2 hb3 hold hnew
  unfold growE at hk
  obtain ⟨hx, y, hk⟩ := freshK_ok hk
  rw [appK_eq, natK_eq, Hp.putK_eq] at hk
  have hf := hr.fresh hx
  have hzs : zv.cells.size = i.size := by have := (hzrel μ).length; simp at this; omega
  have hasz : arr.size = cap * i.size := by
    have e1 := congrArg List.length harr
    simp only [List.length_append, hol, hnl, Array.length_toList, size_zeroCells, hzs] at e1
    rw [e1, ← Nat.add_assoc, ← Nat.add_mul, ← Nat.add_mul]; congr 1; omega
  obtain ⟨h2, h3⟩ := hr.push hx (o := .opn (oldA ++ srcA) i.size) rfl (w' := w.drew.alloc (.cells arr e)) (hob := .cells arr e) rfl rfl rfl rfl cap (by
    refine ⟨arr, e, (0, 0), push_get _ _ _ rfl, ?_, by simp [hasz], ?_⟩
    · intro j _ hh; simp at hh
    · have hl := ho.length; have hl2 := hn.length
      have e1 : ((arr.toList.drop 0).take (oldA ++ srcA).length) = old ++ new := by
        rw [harr, List.drop_zero, ← List.append_assoc, List.take_append_of_le_length (by simp; omega), List.take_of_length_le (by simp; omega)]
      rw [e1]
      exact (ho.app hn).mono (le_upd _ hf))
  exact ⟨_, _, _, _, _, _, hk, hrun, by simp only [VRel, SlRel]; exact ⟨_, upd_self _ _ _, by simp, by simpa using hcap⟩, h2, h3⟩
end
end Go.Proofs.Ytkejnhmhbmbhcaa.Eng
namespace Go.Proofs.Ytkejnhmhbmbhcaa.Eng
open Go
section
variable {β : Type} {P : Program} {μ : Inj} {w : World} {r : β} {h : Hp} {x : Bid} {vs : List AV} {k : EK β}
def VGood {β : Type} (P : Program) (μ : Inj) (h : Hp) (w : World) (s : Sem Value) (k : EK β) (r : β) : Prop :=
  ∃ v h' x', k v h' x' = some r ∧ ∃ cv w' μ', s.run P w = .ok cv w' ∧ VRel μ' v cv ∧ HR μ' h'.get w' ∧ Fr μ h.get w μ' h'.get w'
theorem VGood.up {s : Sem Value} (hg : VGood P μ h w s k r) : EGood P μ h w (do Pure.pure (Next.value (← s)) : Sem Next) k r := by
  obtain ⟨v, h', x', h1, cv, w', μ', h2, h3⟩ := hg
  exact ⟨v, h', x', h1, .value cv, cv, w', μ', by simp [h2], .inl rfl, h3⟩
theorem appendE_ok (hr : HR μ h.get w) {ts : Array TypeId} {t u e ty : TypeId} {i : TypeInfo} {zs : List AV} (h0 : ts[0]? = some t) (h1 : ts[1]? = some u) (ht : P.underlying t = some (.slice e)) (hd : strOrSlice (P.underlying u) = true) (hi : P.info? e = some i) (hz : zeroP P e = some zs) (hzl : zs.length = i.size)
    {s a : Value} (hv : VRels μ vs [s, a]) (hk : appendE i.size i.bytes vs h x k = some r) : VGood P μ h w (Builtin.append_ ts ty #[s, a]) k r := by
  unfold appendE at hk
  split at hk
  · rename_i sA aA
    simp only [VRels, List.cons.injEq] at hv
    obtain ⟨s1, r1, ⟨rfl, rfl⟩, hs, a1, r2, ⟨rfl, _⟩, ha, _⟩ := hv
    obtain ⟨m, hk, hlen⟩ := lenA_ok (P := P) ha hk
    obtain ⟨src, vals, hk, hsrc, hfc⟩ := srcK_ok (P := P) hr ha hk
    split at hk
    · cases hk
    · rename_i hb
      simp only [Bool.and_eq_true, Nat.ble_eq, Nat.beq_eq] at hb
      obtain ⟨hb3, hb2, hsl, hok⟩ := hb
      have hvl : vals.length = m * i.size := by rw [← hsrc.length]; exact hsl
      split at hk
      · -- nil
        simp only [VRel] at hs; subst hs
        split at hk
        · exact ⟨_, _, _, hk, _, w, μ, run_append_nothing h0 h1 ht hd hi hlen hfc, by simp [VRel], hr, Fr.refl _ _ _⟩
        · rename_i m'
          obtain ⟨v, h', x', w', cv, μ', q1, q2, q3⟩ := growE_ok (ty := ty) hr h0 h1 ht hd hi hz hzl (base := none) (sLen := 0) (sCap := 0) hlen (by omega) (by omega) hb2 hb3 (old := []) (oldA := []) (by simp [VRels]) hsrc (by simp) hvl (fun w2 _ => by simp [Builtin.firstCells]) hfc hk
          exact ⟨v, h', x', q1, cv, w', μ', q2, q3⟩
      · rename_i b o n c _ _
        simp only [VRel, SlRel] at hs
        obtain ⟨l, hl, rfl⟩ := hs
        split at hk
        · cases hk
        · rename_i hbn; rw [Nat.ble_eq] at hbn
          split at hk
          · rename_i hbc; rw [Nat.ble_eq] at hbc
            obtain ⟨h', w', hk, hst, hr', hf, _⟩ := overObj_ok (P := P) hr hl hsrc hk
            rw [natK_eq] at hk
            refine ⟨_, _, _, hk, _, w', μ, run_append_room h0 h1 ht hd hi hlen hbc hfc (by rw [loc_add]; exact hst), ?_, hr', hf⟩
            simp only [VRel, SlRel]; exact ⟨l, hl, rfl⟩
          · rename_i hbc
            have hbc' : ¬ n + m ≤ c := fun e => by rw [← Nat.ble_eq] at e; rw [e] at hbc; cases hbc
            obtain ⟨c0, hkn, hk⟩ := knownK_ok hk
            obtain ⟨_, hk⟩ := dropK_ok hk
            obtain ⟨hn, hk⟩ := takeK_ok hk
            obtain ⟨old, p1, p2, p3⟩ := ((hr.ok b l hl).at hkn).load (P := P) (o := o) (m := n * i.size) (by simp at hn; omega)
            obtain ⟨v, h', x', w', cv, μ', q1, q2, q3⟩ := growE_ok (ty := ty) (base := some ⟨l.blk, l.base + o, none⟩) (sCap := c) hr h0 h1 ht hd hi hz hzl hlen (by omega) hbn hb2 hb3 p1 hsrc p2 hvl (fun w2 e => by simp only [Builtin.firstCells]; exact p3 w2 e) hfc hk
            exact ⟨v, h', x', q1, cv, w', μ', q2, q3⟩
      · rename_i b o n g _ _
        simp only [VRel, SlRel] at hs
        obtain ⟨l, hl, rfl, hcap⟩ := hs
        split at hk
        · cases hk
        · rename_i hbn; rw [Nat.ble_eq] at hbn
          split at hk
          · rename_i l0 sz hob
            split at hk
            · rename_i hsz
              simp only [Bool.and_eq_true, Nat.beq_eq] at hsz
              obtain ⟨rfl, hgo⟩ := hsz
              obtain ⟨_, hk⟩ := dropK_ok hk
              obtain ⟨hn, hk⟩ := takeK_ok hk
              rw [Hp.putK_eq] at hk
              have hor := hr.ok b l hl
              obtain ⟨old, p1, p2, p3⟩ := (hor.at (.inl ⟨i.size, hob⟩)).load (P := P) (o := o) (m := n * i.size) (by simp at hn; omega)
              -- the old name is dead
              have hr1 : HR μ (h.put b .dead).get w := by
                refine ⟨fun c m hc => ?_, fun c c' m m' hc hc' e1 e2 e3 => ?_, hr.gl.sub fun c hu => ?_⟩
                rotate_left 2
                · obtain ⟨b', l', hb', hl', e⟩ := hu
                  by_cases e2 : b' = b
                  · subst e2; rw [Hp.get_put_self] at hl'; cases hl'
                  · rw [Hp.get_put_ne _ _ e2] at hl'; exact ⟨b', l', hb', hl', e⟩
                · by_cases e : c = b
                  · subst e; rw [Hp.get_put_self]; trivial
                  · rw [Hp.get_put_ne _ _ e]; exact hr.ok c m hc
                · by_cases e : c = b
                  · subst e; rw [Hp.get_put_self] at e1; cases e1
                  · by_cases e' : c' = b
                    · subst e'; rw [Hp.get_put_self] at e2; cases e2
                    · rw [Hp.get_put_ne _ _ e] at e1; rw [Hp.get_put_ne _ _ e'] at e2; exact hr.inj c c' m m' hc hc' e1 e2 e3
              have hf1 : Fr μ h.get w μ (h.put b .dead).get w := by
                refine ⟨Le.refl _, fun c e e' => absurd e e', rfl, rfl, rfl, Nat.le_refl _, fun _ _ _ => rfl, fun c hu => ?_, fun c hc => ?_⟩
                · obtain ⟨b', l', hb', hl', e⟩ := hu
                  by_cases e2 : b' = b
                  · subst e2; rw [Hp.get_put_self] at hl'; cases hl'
                  · rw [Hp.get_put_ne _ _ e2] at hl'; exact .inl ⟨b', l', hb', hl', e⟩
                · by_cases e : c = b
                  · subst e; rw [Hp.get_put_self]; intro e; cases e
                  · rw [Hp.get_put_ne _ _ e]; exact hc
              by_cases hroom : n + m ≤ l.cap - g
              · -- there is room
                obtain ⟨arr, t0, fr, hheap, hfr, hcapb, hrel⟩ : ObjRel μ w l (.opn l0 i.size) := by rw [← hob]; exact hor
                have hin : l.base + (o + n * i.size) + vals.length ≤ arr.size := by
                  have e1 : (g + (n + m)) * i.size ≤ l.cap * i.size := Nat.mul_le_mul_right _ (by omega)
                  rw [Nat.add_mul, Nat.add_mul] at e1
                  omega
                have hst := run_storeCells_cells (P := P) l.blk (l.base + (o + n * i.size)) vals 0 w (fun j hj => by simp [World.cell?, hheap]; omega) (fun j hj => by
                  have hf := hfr (l.base + (o + n * i.size) + j) (by omega)
                  simp only [World.frozen?, hheap]
                  rw [Bool.and_eq_false_iff]; simp only [decide_eq_false_iff_not, Nat.add_zero]
                  by_cases hle : fr.1 ≤ l.base + (o + n * i.size) + j
                  · right; exact fun hh => hf ⟨hle, hh⟩
                  · left; exact hle) (okCells_ok hok hsrc)
                simp only [Nat.add_zero] at hst
                obtain ⟨arr', hh, harr⟩ := setCells_heap l.blk vals (l.base + (o + n * i.size)) w arr t0 fr hheap hin
                obtain ⟨s1, s2, s3, s4⟩ := setCells_rest l.blk vals (l.base + (o + n * i.size)) w
                have sO := setCells_other l.blk vals (l.base + (o + n * i.size)) w
                have hasz : arr'.size = arr.size := by
                  rw [← Array.length_toList (xs := arr'), harr, over_length _ _ _ (by rw [Array.length_toList]; exact hin), Array.length_toList]
                unfold growE at hk
                obtain ⟨hx, y, hk⟩ := freshK_ok hk
                rw [appK_eq, natK_eq, Hp.putK_eq] at hk
                have hf0 := hr1.fresh hx
                have hxb : x ≠ b := fun e => by subst e; rw [hl] at hf0; cases hf0
                have hle := le_upd (x := x) ⟨l.blk, l.base + o, l.cap - g⟩ hf0
                have hx' : h.get x = .no := by rw [Hp.get_put_ne _ _ hxb] at hx; exact hx
                generalize hw' : w.setCells l.blk (l.base + (o + n * i.size)) vals = w' at *
                have hcase : ∀ c m, upd μ x ⟨l.blk, l.base + o, l.cap - g⟩ c = some m → (c = x ∧ m = ⟨l.blk, l.base + o, l.cap - g⟩) ∨ (c ≠ x ∧ μ c = some m) := by
                  intro c m hb
                  unfold upd at hb
                  split at hb
                  · rename_i e; injection hb with hb; exact .inl ⟨e, hb.symm⟩
                  · rename_i e; exact .inr ⟨e, hb⟩
                have hlv : ∀ c m, μ c = some m → live ((h.put b .dead).get c) = true → m.blk ≠ l.blk := by
                  intro c m hc hlc e
                  by_cases e2 : c = b
                  · subst e2; rw [Hp.get_put_self] at hlc; cases hlc
                  · rw [Hp.get_put_ne _ _ e2] at hlc
                    exact e2 (hr.inj c b m l hc hl hlc (by rw [hob]; rfl) e)
                refine ⟨_, _, _, hk, _, w', upd μ x ⟨l.blk, l.base + o, l.cap - g⟩, run_append_room h0 h1 ht hd hi hlen hroom hfc (by rw [loc_add]; exact hst), ?_, HR.pair hr.gl ?_ ?_ ⟨hle, ?_, s1, s2, s3, by omega, ?_, ?_, ?_⟩⟩
                · simp only [VRel, SlRel]; exact ⟨_, upd_self _ _ _, by simp, by simpa using hroom⟩
                · intro c m hc
                  rcases hcase c m hc with ⟨rfl, rfl⟩ | ⟨hne, hc⟩
                  · rw [Hp.get_put_self]
                    refine ⟨arr', t0, fr, hh, by rw [hasz]; exact hfr, ?_, ?_⟩
                    · rw [hasz]
                      have e1 : g * i.size + (l.cap - g) * i.size = l.cap * i.size := by rw [← Nat.add_mul]; congr 1; omega
                      show l.base + o + (l.cap - g) * i.size ≤ arr.size
                      omega
                    · have hl2 := hsrc.length
                      have hll : l0.length = min l0.length (arr.size - l.base) := by simpa using hrel.length
                      have hn' : n * i.size ≤ l0.length - o := by simpa using hn
                      have p4 := (hrel.drop o).take (n * i.size)
                      have e2 : ((arr'.toList.drop (l.base + o)).take (((l0.drop o).take (n * i.size)) ++ src).length) = ((((arr.toList.drop l.base).take l0.length).drop o).take (n * i.size)) ++ vals := by
                        apply List.ext_getElem?
                        intro j
                        have el : (((l0.drop o).take (n * i.size)) ++ src).length = n * i.size + vals.length := by simp; omega
                        rw [el, List.getElem?_take, List.getElem?_drop, harr, over_get _ _ _ (by rw [Array.length_toList]; exact hin), List.getElem?_append]
                        have el2 : ((((arr.toList.drop l.base).take l0.length).drop o).take (n * i.size)).length = n * i.size := by simp; omega
                        rw [el2]
                        by_cases j1 : j < n * i.size
                        · rw [if_pos (by omega), if_neg (by omega), if_pos j1, List.getElem?_take, if_pos j1, List.getElem?_drop, List.getElem?_take, if_pos (by omega), List.getElem?_drop]
                          congr 1; omega
                        · rw [if_neg j1]
                          by_cases j2 : j < n * i.size + vals.length
                          · rw [if_pos j2, if_pos (by omega)]; congr 1; omega
                          · rw [if_neg j2, List.getElem?_eq_none (by omega)]
                      rw [e2]
                      exact (p4.app hsrc).mono hle
                  · rw [Hp.get_put_ne _ _ hne]
                    refine ((hr1.ok c m hc).mono hle).of_block fun hlc => ?_
                    exact sO _ (hlv c m hc hlc)
                · intro c c' m m' hc hc' e1 e2 e3
                  rcases hcase c m hc with ⟨rfl, rfl⟩ | ⟨hne, gc⟩ <;> rcases hcase c' m' hc' with ⟨rfl, rfl⟩ | ⟨hne', gc'⟩
                  · rfl
                  · rw [Hp.get_put_ne _ _ hne'] at e2; exact absurd e3.symm (hlv c' m' gc' e2)
                  · rw [Hp.get_put_ne _ _ hne] at e1; exact absurd e3 (hlv c m gc e1)
                  · rw [Hp.get_put_ne _ _ hne] at e1; rw [Hp.get_put_ne _ _ hne'] at e2; exact hr1.inj c c' m m' gc gc' e1 e2 e3
                · intro c hc hc'
                  by_cases e : c = x
                  · subst e; exact hx'
                  · exact absurd (by unfold upd; rw [if_neg e]; exact hc) hc'
                · intro c _ hu
                  exact sO c fun e => hu ⟨b, l, hl, by rw [hob]; rfl, e.symm⟩
                · intro c hu
                  obtain ⟨b', l', hb', hl', e⟩ := hu
                  rcases hcase b' l' hb' with ⟨rfl, rfl⟩ | ⟨hne, gc⟩
                  · exact .inl ⟨b, l, hl, by rw [hob]; rfl, e⟩
                  · rw [Hp.get_put_ne _ _ hne] at hl'
                    by_cases e2 : b' = b
                    · subst e2; rw [Hp.get_put_self] at hl'; cases hl'
                    · rw [Hp.get_put_ne _ _ e2] at hl'; exact .inl ⟨b', l', gc, hl', e⟩
                · intro c hc
                  by_cases e : c = x
                  · subst e; rw [Hp.get_put_self]; intro e; cases e
                  · rw [Hp.get_put_ne _ _ e]
                    by_cases e2 : c = b
                    · subst e2; rw [Hp.get_put_self]; intro e; cases e
                    · rw [Hp.get_put_ne _ _ e2]; exact hc
              · obtain ⟨v, h', x', w', cv, μ', q1, q2, q3, q4, q5⟩ := growE_ok (ty := ty) (base := some ⟨l.blk, l.base + o, none⟩) (sCap := l.cap - g) hr1 h0 h1 ht hd hi hz hzl hlen (by omega) hbn hb2 hb3 p1 hsrc p2 hvl (fun w2 e => by simp only [Builtin.firstCells]; exact p3 w2 e) hfc hk
                exact ⟨v, h', x', q1, cv, w', μ', q2, q3, q4, hf1.trans q5⟩
            · cases hk
          · cases hk
      · cases hk
  · cases hk
end
end Go.Proofs.Ytkejnhmhbmbhcaa.Eng
