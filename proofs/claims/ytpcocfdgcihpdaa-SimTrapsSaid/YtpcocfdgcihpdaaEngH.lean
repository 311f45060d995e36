/-
  THE ENGINE, PART H: sameness and look-ups.
-/
import Derived.Test.YtpcocfdgcihpdaaEngG
namespace Go.Proofs.Ytpcocfdgcihpdaa.Eng
open Go
set_option linter.unusedVariables false
set_option linter.unusedSimpArgs false

section
variable {β : Type} {P : Program} {μ : Inj} {w : World} {x : Bid} {s : Sem Value} {k : AV → Option AObj → Option β} {r : β} {hp : Hp} {vs : List AV}

/-- what a kind of sameness says of a type -/
def ETok (P : Program) (t : TypeId) : ET → Prop
  | .no => True
  | .bool => P.underlying t = some .bool
  | .int _ => ∃ k, P.underlying t = some (.int k)
  | .str => P.underlying t = some .string
  | .ptr => ∃ e n, P.underlying t = some (.pointer e) ∧ sizeP P e = some (n + 1)
  | .iface => ∃ ms, P.underlying t = some (.interface ms)
  | .nsl => ∃ e, P.underlying t = some (.slice e)
  | .nmp => ∃ a b, P.underlying t = some (.map a b)
  | .nfn => ∃ a b c, P.underlying t = some (.func a b c)
  | .struct fs => ∃ fields : Array Field, P.underlying t = some (.struct fields) ∧ P.stoodInHeld t = false ∧ etFields P fields.toList = some fs

theorem etScalar_ok (t : TypeId) : ETok P t (etScalar P t) := by
  unfold etScalar
  split
  · assumption
  · exact ⟨_, by assumption⟩
  · assumption
  · rename_i e he
    split
    · rename_i n hn; exact ⟨e, n, he, hn⟩
    · trivial
  · trivial
theorem etScalar_flat (t : TypeId) : (∀ fs, etScalar P t ≠ .struct fs) := by
  intro fs; unfold etScalar
  split <;> try (intro h; cases h)
  split <;> (intro h; cases h)
theorem etOf_ok (t : TypeId) : ETok P t (etOf P t) := by
  unfold etOf
  split
  · exact ⟨_, by assumption⟩
  · exact ⟨_, by assumption⟩
  · exact ⟨_, _, by assumption⟩
  · exact ⟨_, _, _, by assumption⟩
  · split
    · exact ⟨_, by assumption, by assumption, by assumption⟩
    · trivial
  · exact etScalar_ok t

theorem HR.cells_frozen (hr : HR μ hp.get w) {b : Bid} {l : Loc} (hl : μ b = some l) {c : List AV} (hc : hp.get b = .cells c) (o : Nat) : ∃ n, w.shape? l.blk = some (n, c.length) ∧ w.frozen? ⟨l.blk, o, none⟩ = false := by
  have := hr.ok b l hl
  rw [hc] at this
  obtain ⟨h1, arr, t, h2, h3⟩ := this
  refine ⟨t, by simp [World.shape?, h2, h3.length], by simp [World.frozen?, h2]⟩

theorem run_sameAddr_cells {a b : Addr} {ta tb : TypeId} {na nb : Nat} (ha : w.shape? a.block = some (ta, na)) (hb : w.shape? b.block = some (tb, nb)) (fa : ∀ o, w.frozen? ⟨a.block, o, none⟩ = false) (fb : ∀ o, w.frozen? ⟨b.block, o, none⟩ = false)
    (ea : a.spot = none) (eb : b.spot = none) : (sameAddr a b).run P w = .ok (a == b) w := by
  have fa' : w.frozen? a = false := by cases a; subst ea; exact fa _
  have fb' : w.frozen? b = false := by cases b; subst eb; exact fb _
  unfold sameAddr
  by_cases h : a.block = b.block
  · simp [h]
  · have hne : (a == b) = false := by rw [beq_eq_false_iff_ne]; intro e; exact h (by rw [e])
    have h' : (a.block == b.block) = false := by simpa using h
    have sa : (stringish a).run P w = .ok false w := by simp [stringish, fa', ha, fa]
    have sb : (stringish b).run P w = .ok false w := by simp [stringish, fb', hb, fb]
    simp [h', fa', fb', hne, noView, viewAt, ha, hb, mayBeOne, sa, sb]

theorem eqA_ok (hr : HR μ hp.get w) {t : TypeId} {e : ET} (he : ETok P t e) {a b : AV} {c d : Value} (hc : VRel μ a c) (hd : VRel μ b d) {q : Bool} (h : eqA hp e a b = some q) (n : Nat) :
    (Op.equalIn (n + 1) t c d).run P w = .ok q w := by
  unfold eqA at h
  split at h
  · simp only [VRel] at hc hd; subst hc hd
    injection h with h; subst h
    exact run_equalIn_bool w n t _ _ he
  · simp only [VRel] at hc hd; subst hc hd
    obtain ⟨k0, hk⟩ := he
    split at h
    · rename_i hk2; rw [kindEq_iff] at hk2; subst hk2
      injection h with h; subst h
      rw [intEq_eq]
      simp [Op.equalIn, run_underlying hk]
    · cases h
  · simp only [VRel] at hc hd
    obtain ⟨t1, rfl, rfl⟩ := hc
    obtain ⟨t2, rfl, rfl⟩ := hd
    injection h with h; subst h
    rw [strEq_bytes]
    exact run_equalIn_string w n t t1 t2 he
  · simp only [VRel] at hc hd; subst hc hd
    obtain ⟨e0, m, hu, _⟩ := he
    injection h with h; subst h
    simp [Op.equalIn, run_underlying hu]
  · simp only [VRel] at hc hd; subst hc
    obtain ⟨l, _, rfl⟩ := hd
    obtain ⟨e0, m, hu, _⟩ := he
    injection h with h; subst h
    simp [Op.equalIn, run_underlying hu]
  · simp only [VRel] at hc hd; subst hd
    obtain ⟨l, _, rfl⟩ := hc
    obtain ⟨e0, m, hu, _⟩ := he
    injection h with h; subst h
    simp [Op.equalIn, run_underlying hu]
  · rename_i b1 i b2 j
    simp only [VRel] at hc hd
    obtain ⟨l1, hl1, rfl⟩ := hc
    obtain ⟨l2, hl2, rfl⟩ := hd
    obtain ⟨e0, m, hu, hsz⟩ := he
    split at h
    · rename_i c1 c2 g1 g2
      have f1 := fun o => hr.cells_frozen hl1 g1 o
      have f2 := fun o => hr.cells_frozen hl2 g2 o
      obtain ⟨t1, s1, _⟩ := f1 0
      obtain ⟨t2, s2, _⟩ := f2 0
      have hs := run_sameAddr_cells (P := P) (a := ⟨l1.blk, l1.base + i, none⟩) (b := ⟨l2.blk, l2.base + j, none⟩) s1 s2 (fun o => (f1 o).choose_spec.2) (fun o => (f2 o).choose_spec.2) rfl rfl
      have hrun : (Op.equalIn (n + 1) t (.pointer (some ⟨l1.blk, l1.base + i, none⟩)) (.pointer (some ⟨l2.blk, l2.base + j, none⟩))).run P w = .ok ((⟨l1.blk, l1.base + i, none⟩ : Addr) == ⟨l2.blk, l2.base + j, none⟩) w := by
        simp [Op.equalIn, run_underlying hu, run_sizeOf hsz, hs]
      rw [hrun]
      congr 1
      split at h
      · rename_i hb; rw [Bid.beq_iff] at hb; subst hb
        rw [hl1] at hl2; injection hl2 with hl2; subst hl2
        injection h with h; subst h
        rw [Bool.eq_iff_iff]; simp [Nat.beq_eq]
      · rename_i hb
        have hne : b1 ≠ b2 := fun e => by rw [← Bid.beq_iff] at e; rw [e] at hb; cases hb
        injection h with h; subst h
        rw [beq_eq_false_iff_ne]
        intro he
        injection he with h1 h2 h3
        exact hne (hr.inj b1 b2 l1 l2 hl1 hl2 (by rw [g1]; rfl) (by rw [g2]; rfl) h1)
    · cases h
  · simp only [VRel] at hc hd; subst hc hd
    obtain ⟨ms, hu⟩ := he
    injection h with h; subst h
    simp [Op.equalIn, run_underlying hu]
  · simp only [VRel] at hc hd; subst hc
    obtain ⟨x1, rfl, _⟩ := hd
    obtain ⟨ms, hu⟩ := he
    injection h with h; subst h
    simp [Op.equalIn, run_underlying hu]
  · simp only [VRel] at hc hd; subst hd
    obtain ⟨x1, rfl, _⟩ := hc
    obtain ⟨ms, hu⟩ := he
    injection h with h; subst h
    simp [Op.equalIn, run_underlying hu]
  · simp only [VRel] at hc hd; subst hc hd
    obtain ⟨e0, hu⟩ := he
    injection h with h; subst h
    simp [Op.equalIn, run_underlying hu]
  · simp only [VRel] at hc hd; subst hc
    obtain ⟨l, _, hs⟩ := hd
    obtain ⟨a0, cc, rfl, _⟩ := slice_len hs
    obtain ⟨e0, hu⟩ := he
    injection h with h; subst h
    simp [Op.equalIn, run_underlying hu]
  · simp only [VRel] at hc hd; subst hd
    obtain ⟨l, _, hs⟩ := hc
    obtain ⟨a0, cc, rfl, _⟩ := slice_len hs
    obtain ⟨e0, hu⟩ := he
    injection h with h; subst h
    simp [Op.equalIn, run_underlying hu]
  · simp only [VRel] at hc hd; subst hc hd
    obtain ⟨a0, e0, hu⟩ := he
    injection h with h; subst h
    simp [Op.equalIn, run_underlying hu]
  · simp only [VRel] at hc hd; subst hc
    obtain ⟨l, _, rfl⟩ := hd
    obtain ⟨a0, e0, hu⟩ := he
    injection h with h; subst h
    simp [Op.equalIn, run_underlying hu]
  · simp only [VRel] at hc hd; subst hd
    obtain ⟨l, _, rfl⟩ := hc
    obtain ⟨a0, e0, hu⟩ := he
    injection h with h; subst h
    simp [Op.equalIn, run_underlying hu]
  · simp only [VRel] at hc hd; subst hc hd
    obtain ⟨a0, b0, c0, hu⟩ := he
    injection h with h; subst h
    simp [Op.equalIn, run_underlying hu]
  · simp only [VRel] at hc hd; subst hc
    obtain ⟨_, _, rfl, _⟩ := hd
    obtain ⟨a0, b0, c0, hu⟩ := he
    injection h with h; subst h
    simp [Op.equalIn, run_underlying hu]
  · simp only [VRel] at hc hd; subst hd
    obtain ⟨_, _, rfl, _⟩ := hc
    obtain ⟨a0, b0, c0, hu⟩ := he
    injection h with h; subst h
    simp [Op.equalIn, run_underlying hu]
  · cases h

theorem eqFields_ok (hr : HR μ hp.get w) (n : Nat) {xs ys : Array Value} {a b : List AV} (hx : VRels μ a xs.toList) (hy : VRels μ b ys.toList) :
    ∀ (fields : List Field) (fs : List (Nat × ET)), etFields P fields = some fs → ∀ q, eqFields hp fs a b = some q → (Op.eqFields (n + 1) xs ys fields).run P w = .ok q w
  | [], fs, hf, q, h => by
    simp only [etFields, Option.some.injEq] at hf; subst hf
    simp only [eqFields, Option.some.injEq] at h; subst h
    simp [Op.eqFields]
  | f :: fields, fs, hf, q, h => by
    simp only [etFields] at hf
    split at hf
    · cases hf
    · rename_i l hname hagg hrest hne
      injection hf with hf; subst hf
      simp only [eqFields] at h
      split at h
      · rename_i va vb ha hb
        obtain ⟨ca, hca, hra⟩ := hx.get ha
        obtain ⟨cb, hcb, hrb⟩ := hy.get hb
        rw [Array.getElem?_toList] at hca hcb
        have hpa : (part f.type xs f.offset).run P w = .ok ca w := by simp [part, run_isAgg hagg, hca]
        have hpb : (part f.type ys f.offset).run P w = .ok cb w := by simp [part, run_isAgg hagg, hcb]
        have hname' : f.name ≠ "_" := by simpa using hname
        have hE := etScalar_ok (P := P) f.type
        split at h
        · rename_i hq
          have := eqA_ok hr hE hra hrb hq n
          simp only [Op.eqFields]
          rw [if_pos hname']
          simp only [Sem.run_bind, hpa, hpb, Result.andThen_ok, this, Bool.not_true, Bool.false_eq_true, if_false]
          exact eqFields_ok hr n hx hy fields l hrest q h
        · rename_i hq
          injection h with h; subst h
          have := eqA_ok hr hE hra hrb hq n
          simp only [Op.eqFields]
          rw [if_pos hname']
          simp [hpa, hpb, this]
        · cases h
      · cases h
    · cases hf

theorem eqV_ok (hr : HR μ hp.get w) {t : TypeId} {e : ET} (he : ETok P t e) {a b : AV} {c d : Value} (hc : VRel μ a c) (hd : VRel μ b d) {q : Bool} (h : eqV hp e a b = some q) (n : Nat) :
    (Op.equalIn (n + 2) t c d).run P w = .ok q w := by
  unfold eqV at h
  split at h
  · simp only [VRel] at hc hd
    obtain ⟨cs, rfl, hc⟩ := hc
    obtain ⟨ds, rfl, hd⟩ := hd
    obtain ⟨fields, hu, hst, hf⟩ := he
    have hfo : P.fieldsOf t = fields := by simp [Program.fieldsOf, hu]
    have hu' : P.underlying t = some (.struct (P.fieldsOf t)) := by rw [hfo]; exact hu
    rw [run_equalIn_struct w (n + 1) t cs ds hu' hst, hfo]
    exact eqFields_ok hr n hc hd _ _ hf q h
  · exact eqA_ok hr he hc hd h (n + 1)

def plainV : Value → Bool
  | .int _ _ => false
  | .float _ _ => false
  | .complex _ _ _ => false
  | .string _ => false
  | _ => true
theorem binOp_eql {t : TypeId} {c d : Value} (h : plainV c = true) : binOp .eql t c d = (do pure (.bool (← Op.equal t c d))) := by
  cases c <;> first | (cases h; done) | (cases d <;> rfl)
theorem binOp_neq {t : TypeId} {c d : Value} (h : plainV c = true) : binOp .neq t c d = (do pure (.bool (!(← Op.equal t c d)))) := by
  cases c <;> first | (cases h; done) | (cases d <;> rfl)
/-- what is held against another, and of what kind -/
theorem eqV_shape {e : ET} {a b : AV} {c d : Value} (hc : VRel μ a c) (hd : VRel μ b d) {q : Bool} (h : eqV hp e a b = some q) (hi : ∀ k, e ≠ .int k) (hs : e ≠ .str) :
    plainV c = true ∧ (c = .nilIface → d = .nilIface → e = .iface) ∧ ((∃ cs ds, c = .agg cs ∧ d = .agg ds) → ∃ fs, e = .struct fs) := by
  unfold eqV at h
  split at h
  · simp only [VRel] at hc hd
    obtain ⟨cs, rfl, hc⟩ := hc
    obtain ⟨ds, rfl, hd⟩ := hd
    exact ⟨rfl, by simp, fun _ => ⟨_, rfl⟩⟩
  · unfold eqA at h
    split at h <;> first | (cases h; done) | (exact absurd rfl (hi _)) | (exact absurd rfl hs) | skip
    all_goals simp only [VRel] at hc hd
    · subst hc hd; exact ⟨rfl, by simp, by simp⟩
    · subst hc hd; exact ⟨rfl, by simp, by simp⟩
    · subst hc; exact ⟨rfl, by simp, by simp⟩
    · obtain ⟨_, _, rfl⟩ := hc; exact ⟨rfl, by simp, by simp⟩
    · obtain ⟨_, _, rfl⟩ := hc; exact ⟨rfl, by simp, by simp⟩
    · subst hc; exact ⟨rfl, by simp, by simp⟩
    · subst hc; exact ⟨rfl, by simp, by simp⟩
    · obtain ⟨_, rfl, _⟩ := hc; exact ⟨rfl, by simp, by simp⟩
    · subst hc; exact ⟨rfl, by simp, by simp⟩
    · subst hc; exact ⟨rfl, by simp, by simp⟩
    · obtain ⟨_, _, hs⟩ := hc; obtain ⟨_, _, rfl, _⟩ := slice_len hs; exact ⟨rfl, by simp, by simp⟩
    · subst hc; exact ⟨rfl, by simp, by simp⟩
    · subst hc; exact ⟨rfl, by simp, by simp⟩
    · obtain ⟨_, _, rfl⟩ := hc; exact ⟨rfl, by simp, by simp⟩
    · subst hc; exact ⟨rfl, by simp, by simp⟩
    · subst hc; exact ⟨rfl, by simp, by simp⟩
    · obtain ⟨_, _, rfl, _⟩ := hc; exact ⟨rfl, by simp, by simp⟩

theorem run_eqGuard_iface {op : BinOp} {t : TypeId} {x y : Operand} (h : (isConst x || isConst y) = true) : (eqGuard op t x y .nilIface .nilIface).run P w = .ok () w := by
  unfold eqGuard
  cases op <;> (try rfl)
  all_goals
    cases x <;> cases y <;> first | (simp [isConst] at h; done) | rfl
theorem etOf_notnum {t : TypeId} (hni : isInt (P.underlying t) = false) (hns : isStr (P.underlying t) = false) : (∀ k, etOf P t ≠ .int k) ∧ etOf P t ≠ .str := by
  unfold etOf etScalar
  cases hu : P.underlying t with
  | none => simp
  | some d =>
    rw [hu] at hni hns
    cases d <;> simp [isInt, isStr] at hni hns ⊢
    all_goals (split <;> simp)

/-- two values are held against each other -/
theorem eqF_ok (hr : HR μ hp.get w) {op : BinOp} {ng : Bool} (hop : (op = .eql ∧ ng = false) ∨ (op = .neq ∧ ng = true)) {t : TypeId} {x0 y0 : Operand} (hl : eqLet P t x0 y0 = true) (hni : isInt (P.underlying t) = false) (hns : isStr (P.underlying t) = false)
    {c d : Value} (hv : VRels μ vs [c, d]) (h : eqF ng (etOf P t) vs hp x k = some r) : NGood P μ w x (do eqGuard op t x0 y0 c d; binOp op t c d) k r := by
  have hE0 := etOf_ok (P := P) t
  have hsym : etOf P t = .bool → eqB ng vs hp x k = some r → NGood P μ w x (do eqGuard op t x0 y0 c d; binOp op t c d) k r := by
    intro he h
    rw [he] at hE0
    have hE0 : P.underlying t = some .bool := hE0
    unfold eqB at h
    split at h
    · simp only [VRels, List.cons.injEq] at hv
      obtain ⟨c1, r1, ⟨rfl, rfl⟩, hc, d1, r2, ⟨rfl, _⟩, hd, _⟩ := hv
      obtain ⟨a, g, rfl, h⟩ := truthOf_ok hc h
      obtain ⟨b, g', rfl, h⟩ := truthOf_ok hd h
      have heq : (Op.equal t (.bool a) (.bool b)).run P w = .ok (a == b) w := run_equalIn_bool w 9999 t a b hE0
      have hg : (eqGuard op t x0 y0 (.bool a) (.bool b)).run P w = .ok () w := run_eqGuard_plain (.inl (by simp)) (.inl (by simp))
      have hp1 : (∀ kd n, (Value.bool a) ≠ .int kd n) := by simp
      rcases hop with ⟨rfl, rfl⟩ | ⟨rfl, rfl⟩
      · exact .sbool (c := a == b) h (by cases a <;> cases b <;> rfl) (by simp [hg, binOp, heq])
      · exact .sbool (c := !(a == b)) h (by cases a <;> cases b <;> rfl) (by simp [hg, binOp, heq])
    · cases h
  have h : eqF0 ng (etOf P t) vs hp x k = some r ∨ NGood P μ w x (do eqGuard op t x0 y0 c d; binOp op t c d) k r := by
    generalize hee : etOf P t = ee at h hsym
    unfold eqF at h
    split at h
    · exact .inl h
    · exact .inr (hsym rfl h)
    · exact .inl h
  rcases h with h | h
  case inr => exact h
  unfold eqF0 at h
  split at h
  · rename_i a b
    simp only [VRels, List.cons.injEq] at hv
    obtain ⟨c1, r1, ⟨rfl, rfl⟩, hc, d1, r2, ⟨rfl, _⟩, hd, _⟩ := hv
    split at h
    · rename_i q hq
      rw [boolK_eq] at h
      have hE := etOf_ok (P := P) t
      have heq := eqV_ok hr hE hc hd hq 9998
      obtain ⟨hn1, hn2⟩ := etOf_notnum hni hns
      obtain ⟨hp1, hp2, hp3⟩ := eqV_shape hc hd hq hn1 hn2
      have hg : (eqGuard op t x0 y0 c d).run P w = .ok () w := by
        by_cases h1 : c = .nilIface ∧ d = .nilIface
        · obtain ⟨rfl, rfl⟩ := h1
          have := hp2 rfl rfl
          unfold eqLet at hl
          rw [this] at hl
          exact run_eqGuard_iface hl
        · by_cases h2 : ∃ cs ds, c = .agg cs ∧ d = .agg ds
          · obtain ⟨fs, hfs⟩ := hp3 h2
            obtain ⟨cs, ds, rfl, rfl⟩ := h2
            unfold eqLet at hl
            rw [hfs] at hl
            exact run_eqGuard_agg w op t x0 y0 cs ds (by simpa using hl)
          · refine run_eqGuard_plain ?_ ?_
            · by_cases e : c = .nilIface
              · exact .inr fun e' => h1 ⟨e, e'⟩
              · exact .inl e
            · by_cases e : ∃ cs, c = .agg cs
              · obtain ⟨cs, rfl⟩ := e
                exact .inr fun ds e' => h2 ⟨cs, ds, rfl, e'⟩
              · exact .inl fun cs e' => e ⟨cs, e'⟩
      have heq' : (Op.equal t c d).run P w = .ok q w := heq
      rcases hop with ⟨rfl, rfl⟩ | ⟨rfl, rfl⟩
      · exact .bool (c := q) h (by cases q <;> rfl) (by simp only [Sem.run_bind, hg, Result.andThen_ok, binOp_eql hp1, heq', Sem.run_pure])
      · exact .bool (c := !q) h (by cases q <;> rfl) (by simp only [Sem.run_bind, hg, Result.andThen_ok, binOp_neq hp1, heq', Sem.run_pure])
    · cases h
  · cases h
end
end Go.Proofs.Ytpcocfdgcihpdaa.Eng
