/-
  THE ENGINE, PART G: pieces, lengths, makes, sameness, look-ups.
-/
import Derived.Test.YtpcocfdgcihpdaaEngF
namespace Go.Proofs.Ytpcocfdgcihpdaa.Eng
open Go
set_option linter.unusedVariables false
set_option linter.unusedSimpArgs false

section
variable {β : Type} {P : Program} {μ : Inj} {w : World} {x : Bid} {s : Sem Value} {k : AV → Option AObj → Option β} {r : β} {hp : Hp} {vs : List AV}

theorem run_sliceBound {k : IntKind} {i : Nat} {y : Nat} {code : BoundsCode} (h : i ≤ y) : (Instr.sliceBound (.int k (i : Int)) y code).run P w = .ok i w := by
  simp only [Instr.sliceBound, asIntOf, Sem.run_bind, Sem.run_pure, Result.andThen_ok]
  rw [Sem.run_ite, if_pos ⟨by omega, by omega⟩]; rfl

theorem bndK_ok {lo hi : Bool} {low high : Option Value} {vs : List AV} {d top : Nat} {k' : Nat → Nat → Option β} (hlo : lo = low.isSome) (hhi : hi = high.isSome) (hv : VRels μ vs (low.toList ++ high.toList)) (h : bndK lo hi vs d top k' = some r) :
    ∃ a b, k' a b = some r ∧ a ≤ b ∧ b ≤ top ∧ (high = none → b = d) ∧ ∀ (sl : Bool) (c : Nat), b ≤ c → (Instr.sliceBounds sl d c low high none).run P w = .ok (a, b, c) w := by
  unfold bndK at h
  subst hlo hhi
  cases low with
  | none =>
    cases high with
    | none =>
      cases vs with
      | cons _ _ => simp [VRels] at hv
      | nil =>
        simp only [Option.isSome_none] at h
        split at h
        · rename_i hb; rw [Nat.ble_eq] at hb
          exact ⟨0, d, h, by omega, hb, fun _ => rfl, fun sl c hc => by simp [Instr.sliceBounds]⟩
        · cases h
    | some v =>
      simp only [Option.toList_none, Option.toList_some, List.nil_append] at hv
      simp only [Option.isSome_none, Option.isSome_some] at h
      split at h <;> first | (cases h; done) | skip
      all_goals (rename_i e1 e2; first | (cases e1; done) | (cases e2; done) | skip)
      simp only [VRels, VRel, List.cons.injEq] at hv
      obtain ⟨v1, r1, ⟨rfl, rfl⟩, rfl, _⟩ := hv
      split at h
      · rename_i hb; rw [Nat.ble_eq] at hb
        refine ⟨0, _, h, by omega, hb, (by simp), fun sl c hc => ?_⟩
        simp [Instr.sliceBounds, run_sliceBound hc]
      · cases h
  | some u =>
    cases high with
    | none =>
      simp only [Option.toList_none, Option.toList_some, List.append_nil] at hv
      simp only [Option.isSome_none, Option.isSome_some] at h
      split at h <;> first | (cases h; done) | skip
      all_goals (rename_i e1 e2; first | (cases e1; done) | (cases e2; done) | skip)
      simp only [VRels, VRel, List.cons.injEq] at hv
      obtain ⟨v1, r1, ⟨rfl, rfl⟩, rfl, _⟩ := hv
      split at h
      · rename_i hb; rw [Bool.and_eq_true, Nat.ble_eq, Nat.ble_eq] at hb
        refine ⟨_, d, h, hb.1, hb.2, fun _ => rfl, fun sl c hc => ?_⟩
        simp [Instr.sliceBounds, run_sliceBound hb.1]
      · cases h
    | some v =>
      simp only [Option.toList_some, List.cons_append, List.nil_append] at hv
      simp only [Option.isSome_some] at h
      split at h <;> first | (cases h; done) | skip
      all_goals (rename_i e1 e2; first | (cases e1; done) | (cases e2; done) | skip)
      simp only [VRels, VRel, List.cons.injEq] at hv
      obtain ⟨v1, r1, ⟨rfl, rfl⟩, rfl, v2, r2, ⟨rfl, rfl⟩, rfl, _⟩ := hv
      split at h
      · rename_i hb; rw [Bool.and_eq_true, Nat.ble_eq, Nat.ble_eq] at hb
        refine ⟨_, _, h, hb.1, hb.2, (by simp), fun sl c hc => ?_⟩
        simp [Instr.sliceBounds, run_sliceBound hc, run_sliceBound hb.1]
      · cases h

theorem slStrF_ok {t : TypeId} (hu : P.underlying t = some .string) {c : Value} {low high : Option Value} (hv : VRels μ vs (c :: (low.toList ++ high.toList))) (h : slStrF low.isSome high.isSome vs hp x k = some r) :
    NGood P μ w x (Instr.sliceAt t c low high none) k r := by
  cases vs with
  | nil => simp [VRels] at hv
  | cons a vs =>
    unfold slStrF at h
    split at h
    · rename_i s0 vs0 e
      injection e with e1 e2; subst e1 e2
      simp only [VRels, VRel, List.cons.injEq] at hv
      obtain ⟨v1, r1, ⟨rfl, rfl⟩, ⟨t0, rfl, rfl⟩, hv⟩ := hv
      obtain ⟨a, b, h, h1, h2, _, h3⟩ := bndK_ok (P := P) (w := w) rfl rfl hv h
      obtain ⟨_, h⟩ := dropK_ok h
      obtain ⟨_, h⟩ := takeK_ok h
      have e : (t0.data.toList.map UInt8.toNat).length = t0.size := by simp
      rw [e] at h3 h2
      refine .pure h (cv := .string (t0.extract a b)) ?_ ?_
      · simp [Instr.sliceAt, Instr.slice, run_underlying hu, h3 false t0.size h2]
      · simp only [VRel]
        refine ⟨_, rfl, ?_⟩
        obtain ⟨⟨l⟩⟩ := t0
        rw [show (ByteArray.mk { toList := l }).extract a b = ByteArray.mk ((l.drop a).take (b - a)).toArray from ByteArray.extract_mk l a b]
        simp [List.map_take, List.map_drop]
    · cases h

theorem pieceEx_ok {t e : TypeId} {size : Nat} (hu : P.underlying t = some (.slice e)) (hs : sizeP P e = some size) {b : Bid} {l : Loc} (hl : μ b = some l) {o n c a z : Nat} (h : pieceEx size b o c a z k = some r) :
    ∃ v, k v none = some r ∧ VRel μ v (.slice (some (if c = a then (⟨l.blk, l.base + o, none⟩ : Addr) else (⟨l.blk, l.base + o, none⟩ : Addr).add (a * size))) (z - a) (c - a)) := by
  unfold pieceEx at h
  split at h
  · rename_i hb; rw [Nat.beq_eq] at hb
    simp only [natK_eq] at h
    exact ⟨_, h, by simp only [VRel, SlRel]; exact ⟨l, hl, by rw [if_pos hb]⟩⟩
  · rename_i hb
    have hb' : c ≠ a := fun e => by rw [← Nat.beq_eq] at e; rw [e] at hb; cases hb
    simp only [natK_eq] at h
    exact ⟨_, h, by simp only [VRel, SlRel]; exact ⟨l, hl, by rw [if_neg hb', loc_add]⟩⟩

theorem slMx_ok {t e : TypeId} {size : Nat} (hu : P.underlying t = some (.slice e)) (hs : sizeP P e = some size) {b : Bid} {l : Loc} (hl : μ b = some l) {o n cc lim : Nat} (hlim : lim ≤ cc) {low high : Option Value} {m : Value}
    (hv : VRels μ vs (low.toList ++ (high.toList ++ [m]))) (h : slMx size low.isSome high.isSome b o lim vs k = some r) : NGood P μ w x (Instr.sliceAt t (.slice (some ⟨l.blk, l.base + o, none⟩) n cc) low high (some m)) k r := by
  have hat : ∀ (l1 h1 m1 : Nat), (Instr.sliceBounds true n cc low high (some m)).run P w = .ok (l1, h1, m1) w →
      (Instr.sliceAt t (.slice (some ⟨l.blk, l.base + o, none⟩) n cc) low high (some m)).run P w = .ok (.slice (if m1 = l1 then (some (⟨l.blk, l.base + o, none⟩ : Addr)) else (some (⟨l.blk, l.base + o, none⟩ : Addr)).map (·.add (l1 * size))) (h1 - l1) (m1 - l1)) w := by
    intro l1 h1 m1 hb
    simp [Instr.sliceAt, Instr.slice, run_underlying hu, hb, run_sizeOf hs]
  unfold slMx at h
  cases high with
  | none => simp at h
  | some z =>
    simp only [Option.isSome_some, Option.toList_some, List.cons_append, List.nil_append] at h hv
    split at h <;> first | (cases h; done) | skip
    · rename_i lo0 hi0 vs1 k1 l0 k2 r0 k3 m0 heq0
      cases low with
      | none => have := hv.length; simp at this
      | some a =>
        simp only [Option.toList_some, List.cons_append, List.nil_append, VRels, VRel, List.cons.injEq] at hv
        obtain ⟨v1, r1, ⟨rfl, rfl⟩, rfl, v2, r2, ⟨rfl, rfl⟩, rfl, v3, r3, ⟨rfl, _⟩, rfl, _⟩ := hv
        split at h
        · rename_i hb
          simp only [Bool.and_eq_true, Nat.ble_eq] at hb
          obtain ⟨v, hk, hr⟩ := pieceEx_ok (μ := μ) hu hs hl h (n := n)
          refine .pure hk (hat l0 r0 m0 ?_) ?_
          · simp [Instr.sliceBounds, run_sliceBound (Nat.le_trans hb.2 hlim), run_sliceBound hb.1.2, run_sliceBound hb.1.1.2]
          · split
            · rename_i e; rw [if_pos e] at hr; exact hr
            · rename_i e; rw [if_neg e] at hr; exact hr
        · cases h
    · rename_i lo0 hi0 vs1 k2 r0 k3 m0 heq0
      cases low with
      | some a =>
        simp only [Option.isSome_some, Bool.not_true, Bool.false_and] at h
        cases h
      | none =>
        simp only [Option.toList_none, List.nil_append, VRels, VRel, List.cons.injEq] at hv
        obtain ⟨v2, r2, ⟨rfl, rfl⟩, rfl, v3, r3, ⟨rfl, _⟩, rfl, _⟩ := hv
        split at h
        · rename_i hb
          simp only [Bool.and_eq_true, Nat.ble_eq] at hb
          obtain ⟨v, hk, hr⟩ := pieceEx_ok (μ := μ) hu hs hl h (n := n)
          refine .pure hk (hat 0 r0 m0 ?_) ?_
          · simp [Instr.sliceBounds, run_sliceBound (Nat.le_trans hb.2 hlim), run_sliceBound hb.1.2]
          · split
            · rename_i e; rw [if_pos e] at hr; exact hr
            · rename_i e; rw [if_neg e] at hr; exact hr
        · cases h

theorem slSlF_ok {t e : TypeId} {size : Nat} (hu : P.underlying t = some (.slice e)) (hs : sizeP P e = some size) {c : Value} {low high mx : Option Value} (hv : VRels μ vs (c :: (low.toList ++ (high.toList ++ mx.toList))))
    (h : slSlF size low.isSome high.isSome mx.isSome vs hp x k = some r) : NGood P μ w x (Instr.sliceAt t c low high mx) k r := by
  have hat : ∀ (a : Option Addr) (n cc l1 h1 m1 : Nat), c = .slice a n cc → (Instr.sliceBounds true n cc low high mx).run P w = .ok (l1, h1, m1) w →
      (Instr.sliceAt t c low high mx).run P w = .ok (.slice (if m1 = l1 then a else a.map (·.add (l1 * size))) (h1 - l1) (m1 - l1)) w := by
    rintro a n cc l1 h1 m1 rfl hb
    simp [Instr.sliceAt, Instr.slice, run_underlying hu, hb, run_sizeOf hs]
  unfold slSlF at h
  split at h
  · -- nil
    simp only [VRels, VRel, List.cons.injEq] at hv
    obtain ⟨v1, r1, ⟨rfl, rfl⟩, rfl, hv⟩ := hv
    cases mx with
    | some _ => cases h
    | none =>
      simp only [Option.toList_none, List.append_nil] at hv
      simp only [Option.isSome_none] at h
      obtain ⟨a, b, h, h1, h2, _, h3⟩ := bndK_ok (P := P) (w := w) rfl rfl hv h
      refine .pure h (cv := .slice none 0 0) ?_ (by simp [VRel])
      have := hat none 0 0 a b 0 rfl (h3 true 0 h2)
      have ha : a = 0 := by omega
      have hb : b = 0 := by omega
      subst ha hb
      simpa using this
  · -- all known
    rename_i b o n c0 vs0
    simp only [VRels, VRel, SlRel, List.cons.injEq] at hv
    obtain ⟨v1, r1, ⟨rfl, rfl⟩, ⟨l, hl, rfl⟩, hv⟩ := hv
    cases mx with
    | none =>
      simp only [Option.toList_none, List.append_nil] at hv
      simp only [Option.isSome_none] at h
      obtain ⟨a, z, h, h1, h2, _, h3⟩ := bndK_ok (P := P) (w := w) rfl rfl hv h
      obtain ⟨v, hk, hr⟩ := pieceEx_ok (μ := μ) hu hs hl h (n := n)
      refine .pure hk (hat _ _ _ a z c0 rfl (h3 true c0 h2)) ?_
      split
      · rename_i e; rw [if_pos e] at hr; exact hr
      · rename_i e; rw [if_neg e] at hr; exact hr
    | some m =>
      simp only [Option.isSome_some] at h
      exact slMx_ok hu hs hl (Nat.le_refl _) (by simpa using hv) h
  · -- open
    rename_i b o n g vs0
    simp only [VRels, VRel, SlRel, List.cons.injEq] at hv
    obtain ⟨v1, r1, ⟨rfl, rfl⟩, ⟨l, hl, rfl, hcap⟩, hv⟩ := hv
    cases mx with
    | some m =>
      simp only [Option.isSome_some] at h
      exact slMx_ok hu hs hl (by omega) (by simpa using hv) h
    | none =>
      simp only [Option.toList_none, List.append_nil] at hv
      simp only [Option.isSome_none] at h
      obtain ⟨a, z, h, h1, h2, _, h3⟩ := bndK_ok (P := P) (w := w) rfl rfl hv h
      have hrun := hat _ _ _ a z (l.cap - g) rfl (h3 true (l.cap - g) (by omega))
      unfold pieceOp at h
      split at h
      · rename_i hb; rw [Nat.ble_eq] at hb
        simp only [natK_eq] at h
        refine .pure h hrun ?_
        rw [if_neg (by omega)]
        simp only [VRel, SlRel, Option.map_some, loc_add]
        exact ⟨l, hl, by rw [show l.cap - g - a = l.cap - (g + a) by omega], by omega⟩
      · rename_i hb
        have hb' : ¬ a + 1 ≤ n := fun e => by rw [← Nat.ble_eq] at e; rw [e] at hb; cases hb
        have ez : z = a := by omega
        subst ez
        split at h
        · refine .pure h hrun ?_
          simp only [VRel, SlRel]
          refine ⟨l, hl, ?_, by omega⟩
          simp [Addr.add]
        · refine .pure h hrun ?_
          simp only [VRel, SlRel]
          refine ⟨l, hl, trivial, ?_⟩
          split
          · exact ⟨_, _, by rw [Nat.sub_self]⟩
          · exact ⟨_, _, by rw [Nat.sub_self]; rfl⟩
  · -- the end
    rename_i b o n vs0
    simp only [VRels, VRel, SlRel, List.cons.injEq] at hv
    obtain ⟨v1, r1, ⟨rfl, rfl⟩, ⟨l, hl, rfl, a0, c0, rfl⟩, hv⟩ := hv
    cases mx with
    | some _ => cases h
    | none =>
      simp only [Option.toList_none, List.append_nil] at hv
      simp only [Option.isSome_none] at h
      obtain ⟨a, z, h, h1, h2, _, h3⟩ := bndK_ok (P := P) (w := w) rfl rfl hv h
      have ha : a = 0 := by omega
      have hz : z = 0 := by omega
      subst ha hz
      have hrun := hat _ _ _ 0 0 c0 rfl (h3 true c0 (by omega))
      refine .pure h hrun ?_
      simp only [VRel, SlRel]
      refine ⟨l, hl, trivial, a0, c0, ?_⟩
      split <;> simp [Addr.add]
  · cases h

theorem slArrF_ok {t e : TypeId} {n size : Nat} (hu : P.underlying t = some (.array n e)) (hs : sizeP P e = some size) {c : Value} {low high : Option Value} (hv : VRels μ vs (c :: (low.toList ++ high.toList)))
    (h : slArrF n size low.isSome high.isSome vs hp x k = some r) : NGood P μ w x (Instr.sliceAt t c low high none) k r := by
  unfold slArrF at h
  split at h
  · simp only [VRels, VRel, List.cons.injEq] at hv
    obtain ⟨v1, r1, ⟨rfl, rfl⟩, ⟨l, hl, rfl⟩, hv⟩ := hv
    obtain ⟨a, z, h, h1, h2, _, h3⟩ := bndK_ok (P := P) (w := w) rfl rfl hv h
    unfold pieceEx at h
    have hrun : ∀ o, (Instr.sliceAt t (.pointer (some ⟨l.blk, o, none⟩)) low high none).run P w = .ok (.slice (some (if n = a then (⟨l.blk, o, none⟩ : Addr) else (⟨l.blk, o, none⟩ : Addr).add (a * size))) (z - a) (n - a)) w := by
      intro o
      simp [Instr.sliceAt, Instr.sureAddr, run_underlying hu, run_sizeOf hs, h3 false n h2]
    split at h
    · rename_i hb; rw [Nat.beq_eq] at hb
      simp only [natK_eq] at h
      refine .pure h (hrun _) ?_
      rw [if_pos hb]; simp only [VRel, SlRel]; exact ⟨l, hl, rfl⟩
    · rename_i hb
      have hb' : n ≠ a := fun e => by rw [← Nat.beq_eq] at e; rw [e] at hb; cases hb
      simp only [natK_eq] at h
      refine .pure h (hrun _) ?_
      rw [if_neg hb']; simp only [VRel, SlRel]; exact ⟨l, hl, by rw [loc_add]⟩
  · cases h

theorem u8s_ok : ∀ (l : List UInt8) (k' : List AV → Option β), u8s (l.map UInt8.toNat) k' = some r → ∃ m, k' m = some r ∧ m.length = l.length ∧ ∀ μ : Inj, VRels μ m (l.map fun b => Value.int .u8 b.toNat)
  | [], k', h => ⟨[], h, rfl, fun μ => by simp [VRels]⟩
  | a :: l, k', h => by
    simp only [List.map_cons, u8s] at h
    obtain ⟨m, h1, h2, h3⟩ := u8s_ok l _ h
    exact ⟨_, h1, by simp [h2], fun μ => by simp only [List.map_cons, VRels, VRel]; exact ⟨_, _, rfl, rfl, h3 μ⟩⟩
theorem bytesWorld_push (w : World) (e : TypeId) (s0 : ByteArray) : (Lib.bytesWorld w e s0).heap = w.heap.push (.cells (Lib.bytesCells w e s0) e ((Lib.bytesCells w e s0).size, (Lib.bytesCells w e s0).size + 1)) := by
  apply Array.ext_getElem?
  intro i
  rcases Nat.lt_trichotomy i w.heap.size with h | h | h
  · rw [Lib.bytesWorld_at_old w e s0 i h, Array.getElem?_push, if_neg (by omega)]
  · subst h; rw [Lib.bytesWorld_at_new]; simp
  · rw [Array.getElem?_eq_none (by rw [Lib.bytesWorld_size]; omega), Array.getElem?_eq_none (by simp; omega)]
theorem s2bF_ok (hx : ∀ v o, k v (some o) = some r → μ x = none) {src dst e : TypeId} (h1 : P.underlying src = some .string) (h2 : P.underlying dst = some (.slice e)) (h3 : P.underlying e = some (.int .u8)) {c : Value} (hv : VRels μ vs [c]) (h : s2bF vs hp x k = some r) :
    NGood P μ w x (convert src dst c) k r := by
  unfold s2bF at h
  split at h
  · simp only [VRels, VRel, List.cons.injEq] at hv
    obtain ⟨v1, r1, ⟨rfl, rfl⟩, ⟨s0, rfl, rfl⟩, _⟩ := hv
    obtain ⟨m, h, hm, hrel⟩ := u8s_ok _ _ h
    rw [natK_eq] at h
    have hsz : (s0.data.toList.map UInt8.toNat).length = s0.size := by simp
    rw [hsz] at h
    refine .new (grownCap w s0.size 0 e) h (Lib.run_convert_string_bytes w src dst e s0 h1 h2 h3) (ho := .cells (Lib.bytesCells w e s0) e ((Lib.bytesCells w e s0).size, (Lib.bytesCells w e s0).size + 1)) ?_ rfl rfl rfl rfl ?_ ?_
    · exact bytesWorld_push w e s0
    · simp only [VRel, SlRel]; exact ⟨_, upd_self _ _ _, rfl, by simpa using grownCap_ge w s0.size 0 e⟩
    · refine ⟨_, e, _, Lib.bytesWorld_at_new w e s0, ?_, ?_, ?_⟩
      · intro i hi hh; omega
      · have := grownCap_ge w s0.size 0 e
        have e1 : s0.data.size = s0.size := rfl
        simp only [Lib.bytesCells, Array.size_append, Array.size_map, Array.size_replicate, e1, Nat.zero_add, Nat.mul_one]; omega
      · have e1 : s0.data.size = s0.size := rfl
        have : ((Lib.bytesCells w e s0).toList.drop 0).take m.length = s0.data.toList.map fun b => Value.int .u8 b.toNat := by
          simp only [Lib.bytesCells, List.drop_zero, Array.toList_append, Array.toList_map]
          rw [List.take_append_of_le_length (by simp [hm]), List.take_of_length_le (by simp [hm])]
        rw [this]; exact hrel _
  · cases h

theorem bytesK_ok {μ : Inj} : ∀ {l : List AV} {vals : List Value} {k' : List Nat → Option β}, VRels μ l vals → bytesK l k' = some r →
    ∃ is : List Int, k' (is.map fun i => (UInt8.ofNat i.toNat).toNat) = some r ∧ vals = is.map (Value.int .u8)
  | [], vals, k', hv, h => by simp only [VRels] at hv; subst hv; exact ⟨[], h, rfl⟩
  | a :: l, vals, k', hv, h => by
    unfold bytesK at h
    split at h
    · rename_i e; cases e
    · rename_i n l' e
      injection e with e1 e2; subst e1 e2
      simp only [VRels, VRel] at hv
      obtain ⟨v, r0, rfl, rfl, hv⟩ := hv
      split at h
      · rename_i hb; rw [Nat.ble_eq] at hb
        obtain ⟨is, h1, rfl⟩ := bytesK_ok hv h
        refine ⟨(n : Int) :: is, ?_, by simp⟩
        have e : (UInt8.ofNat ((n : Int).toNat)).toNat = n := by simp; omega
        simp only [List.map_cons, e]; exact h1
      · cases h
    · rename_i n g l' e
      injection e with e1 e2; subst e1 e2
      simp only [VRels, VRel] at hv
      obtain ⟨v, r0, rfl, rfl, hv⟩ := hv
      obtain ⟨is, h1, rfl⟩ := bytesK_ok hv h
      exact ⟨n :: is, h1, by simp⟩
    · cases h
theorem foldl_push : ∀ (l : List Int) (s : ByteArray), (l.foldl (fun r n => r.push (UInt8.ofNat n.toNat)) s).data.toList = s.data.toList ++ l.map fun n => UInt8.ofNat n.toNat
  | [], s => by simp
  | a :: l, s => by rw [List.foldl_cons, foldl_push]; simp [ByteArray.push]
theorem b2sF_ok (hr : HR μ hp.get w) {src dst e : TypeId} (h1 : P.underlying src = some (.slice e)) (h2 : P.underlying dst = some .string) (h3 : P.underlying e = some (.int .u8)) {c : Value} (hv : VRels μ vs [c]) (h : b2sF vs hp x k = some r) :
    NGood P μ w x (convert src dst c) k r := by
  unfold b2sF at h
  split at h
  · simp only [VRels, VRel, List.cons.injEq] at hv
    obtain ⟨v1, r1, ⟨rfl, rfl⟩, rfl, _⟩ := hv
    refine .pure h (cv := .string .empty) ?_ (by simp only [VRel]; exact ⟨_, rfl, rfl⟩)
    rw [run_convert_bytes_string w src dst e none 0 0 h1 h3 h2]; rfl
  · rename_i b o n cp
    simp only [VRels, VRel, List.cons.injEq] at hv
    obtain ⟨v1, r1, ⟨rfl, rfl⟩, ⟨l, hl, hsl⟩, _⟩ := hv
    obtain ⟨c0, hk, h⟩ := knownK_ok h
    obtain ⟨vals, hvals, hcell⟩ := (hr.ok b l hl).at hk
    obtain ⟨_, h⟩ := dropK_ok h
    obtain ⟨hn, h⟩ := takeK_ok h
    obtain ⟨is, h, hvs⟩ := bytesK_ok ((hvals.drop o).take n) h
    have hlen : is.length = n := by
      have e1 := congrArg List.length hvs
      have e2 := ((hvals.drop o).take n).length
      simp at e1 e2 hn; omega
    have hc : ∃ a cc, c = .slice (some a) n cc ∧ (0 < n → a = ⟨l.blk, l.base + o, none⟩) := by
      cases cp with
      | ex m => exact ⟨_, _, hsl, fun _ => rfl⟩
      | op g => exact ⟨_, _, hsl.1, fun _ => rfl⟩
      | em => obtain ⟨h0, a, cc, he⟩ := hsl; subst h0; exact ⟨a, cc, he, fun h => by omega⟩
    obtain ⟨a, cc, rfl, ha⟩ := hc
    have hload : (loadCells a n).run P w = .ok (is.map (Value.int .u8)).toArray w := by
      rcases Nat.eq_zero_or_pos n with h0 | h0
      · subst h0
        have : is = [] := List.eq_nil_of_length_eq_zero hlen
        subst this; simp [loadCells, loadCellsFrom]
      · rw [ha h0]
        have := run_loadCells_list (P := P) (w := w) ⟨l.blk, l.base + o, none⟩ ((vals.drop o).take n) (by
          intro j y hy
          rw [loc_add]
          rw [List.getElem?_take] at hy
          split at hy
          · rw [List.getElem?_drop] at hy; exact (hcell _ y hy).1
          · cases hy)
        rw [hvs] at this
        simpa [hlen] using this
    refine .pure h (cv := .string (is.foldl (fun r n => r.push (UInt8.ofNat n.toNat)) ByteArray.empty)) ?_ ?_
    · rw [run_convert_bytes_string w src dst e _ _ _ h1 h3 h2]
      exact run_bytesToString w a n cc _ hload
    · simp only [VRel]
      refine ⟨_, rfl, ?_⟩
      rw [foldl_push]
      have e0 : (ByteArray.empty).data.toList = [] := rfl
      rw [e0, List.nil_append, List.map_map]
      rfl
  · cases h

theorem mkSliceF_ok (hx : ∀ v o, k v (some o) = some r → μ x = none) {t e : TypeId} {i : TypeInfo} {z : List AV} (hu : P.underlying t = some (.slice e)) (hi : P.info? e = some i) (hz : zeroP P e = some z) (hzl : z.length = i.size) (h0 : i.size ≠ 0) {c d : Value}
    (hv : VRels μ vs [c, d]) (h : mkSliceF i.size z i.bytes vs hp x k = some r) : NGood P μ w x (Instr.makeSlice t c d) k r := by
  obtain ⟨i', zv, hi', hiz, hrel, _⟩ := zeroP_ok hz
  rw [hi] at hi'; injection hi' with hi'; subst hi'
  unfold mkSliceF at h
  split at h
  · rename_i n m
    simp only [VRels, VRel, List.cons.injEq] at hv
    obtain ⟨v1, r1, ⟨rfl, rfl⟩, rfl, v2, r2, ⟨rfl, _⟩, rfl, _⟩ := hv
    split at h
    · rename_i hb
      simp only [Bool.and_eq_true, Nat.ble_eq] at hb
      rw [repK_eq] at h
      have hzs : zv.cells.size = i.size := by have := (hrel μ).length; simp at this; omega
      have hbytes : ((i.bytes : Int) * Int.ofNat m ≤ 281474976710656) := by
        have : i.bytes * m ≤ 1000000000 := hb.1.2
        rw [Int.ofNat_eq_natCast, ← Int.natCast_mul]; omega
      refine .cells hx h (cv := .slice (some ⟨w.heap.size, 0, none⟩) n m) (arr := madeCells zv.cells (m * i.size)) (t := e) (w1 := w.alloc (.cells (madeCells zv.cells (m * i.size)) e)) ?_ rfl ?_ ?_
      · have := run_make (P := P) w t e i zv hu hi hiz .i64 .i64 (Int.ofNat n) (Int.ofNat m) (by simp) (by simp; omega) hbytes (by simp; omega)
        simpa using this
      · simp only [VRel, SlRel]; exact ⟨_, upd_self _ _ _, rfl⟩
      · have : (madeCells zv.cells (m * i.size)).toList = (List.replicate m zv.cells.toList).flatten := by
          rw [← hzs]; exact cyc_eq _ (by omega) m
        rw [this]; exact (hrel μ).flat m
    · cases h
  · cases h
theorem ERels.length {μ : Inj} : ∀ {l : List (AV × AV × Nat)} {es : List MapEntry}, ERels μ l es → l.length = es.length
  | [], _, h => by simp only [ERels] at h; subst h; rfl
  | (k, v, n) :: l, _, h => by simp only [ERels] at h; obtain ⟨e, r0, rfl, _, _, _, h⟩ := h; simp [ERels.length h]
theorem lenStrF_ok {t ty : TypeId} {ts : Array TypeId} (ht : ts[0]? = some t) (hu : P.underlying t = some .string) {c : Value} (hv : VRels μ vs [c]) (h : lenStrF vs hp x k = some r) : NGood P μ w x (Builtin.len_ ts ty #[c]) k r := by
  unfold lenStrF at h
  split at h
  · simp only [VRels, VRel, List.cons.injEq] at hv
    obtain ⟨v1, r1, ⟨rfl, rfl⟩, ⟨s0, rfl, rfl⟩, _⟩ := hv
    rw [natK_eq] at h
    refine .int h ?_
    have : (s0.data.toList.map UInt8.toNat).length = s0.size := by simp
    rw [this]; simp [Builtin.len_, ht, run_underlying hu, goInt]
  · cases h
theorem slice_len {l : Loc} {o n : Nat} {cp : Cap} {c : Value} (h : SlRel l o n cp c) : ∃ a cc, c = .slice (some a) n cc ∧ (0 < n → a = ⟨l.blk, l.base + o, none⟩) := by
  cases cp with
  | ex m => exact ⟨_, _, h, fun _ => rfl⟩
  | op g => exact ⟨_, _, h.1, fun _ => rfl⟩
  | em => obtain ⟨h0, a, cc, he⟩ := h; subst h0; exact ⟨a, cc, he, fun h => by omega⟩
theorem lenSlF_ok {t ty e : TypeId} {ts : Array TypeId} (ht : ts[0]? = some t) (hu : P.underlying t = some (.slice e)) {c : Value} (hv : VRels μ vs [c]) (h : lenSlF vs hp x k = some r) : NGood P μ w x (Builtin.len_ ts ty #[c]) k r := by
  unfold lenSlF at h
  split at h
  · simp only [VRels, VRel, List.cons.injEq] at hv
    obtain ⟨v1, r1, ⟨rfl, rfl⟩, rfl, _⟩ := hv
    exact .int h (by simp [Builtin.len_, ht, run_underlying hu, goInt])
  · simp only [VRels, VRel, List.cons.injEq] at hv
    obtain ⟨v1, r1, ⟨rfl, rfl⟩, ⟨l, hl, hsl⟩, _⟩ := hv
    obtain ⟨a, cc, rfl, _⟩ := slice_len hsl
    exact .int h (by simp [Builtin.len_, ht, run_underlying hu, goInt])
  · cases h
theorem lenMapF_ok (hr : HR μ hp.get w) {t ty a0 b0 : TypeId} {ts : Array TypeId} (ht : ts[0]? = some t) (hu : P.underlying t = some (.map a0 b0)) {c : Value} (hv : VRels μ vs [c]) (h : lenMapF vs hp x k = some r) : NGood P μ w x (Builtin.len_ ts ty #[c]) k r := by
  unfold lenMapF at h
  split at h
  · simp only [VRels, VRel, List.cons.injEq] at hv
    obtain ⟨v1, r1, ⟨rfl, rfl⟩, rfl, _⟩ := hv
    exact .int h (by simp [Builtin.len_, ht, run_underlying hu, goInt])
  · rename_i b
    simp only [VRels, VRel, List.cons.injEq] at hv
    obtain ⟨v1, r1, ⟨rfl, rfl⟩, ⟨l, hl, rfl⟩, _⟩ := hv
    split at h
    · rename_i es cl he
      rw [natK_eq] at h
      have := hr.ok b l hl
      rw [he] at this
      obtain ⟨ents, h1, h2⟩ := this
      refine .int h ?_
      rw [h2.length]
      simp [Builtin.len_, ht, run_underlying hu, goInt, getObj, Sem.run, h1]
    · cases h
  · cases h
theorem lenCF_ok {n : Nat} {s : Sem Value} (hs : s.run P w = .ok (goInt n) w) (h : lenCF n vs hp x k = some r) : NGood P μ w x s k r := by
  unfold lenCF at h
  split at h
  · exact .int h hs
  · cases h
theorem capF_ok {t ty e : TypeId} {ts : Array TypeId} (ht : ts[0]? = some t) (hu : P.underlying t = some (.slice e)) {c : Value} (hv : VRels μ vs [c]) (h : capF vs hp x k = some r) : NGood P μ w x (Builtin.cap_ ts ty #[c]) k r := by
  unfold capF at h
  split at h
  · simp only [VRels, VRel, List.cons.injEq] at hv
    obtain ⟨v1, r1, ⟨rfl, rfl⟩, rfl, _⟩ := hv
    exact .int h (by simp [Builtin.cap_, ht, run_underlying hu, goInt])
  · simp only [VRels, VRel, SlRel, List.cons.injEq] at hv
    obtain ⟨v1, r1, ⟨rfl, rfl⟩, ⟨l, hl, rfl⟩, _⟩ := hv
    exact .int h (by simp [Builtin.cap_, ht, run_underlying hu, goInt])
  · simp only [VRels, VRel, List.cons.injEq] at hv
    obtain ⟨v1, r1, ⟨rfl, rfl⟩, ⟨l, hl, hsl⟩, _⟩ := hv
    obtain ⟨a, cc, rfl, _⟩ := slice_len hsl
    exact .pure h (cv := goInt cc) (by simp [Builtin.cap_, ht, run_underlying hu]) (by simp [VRel])
  · cases h
theorem minF_ok {ts : Array TypeId} {ty : TypeId} {c d : Value} (hv : VRels μ vs [c, d]) (h : minF vs hp x k = some r) : NGood P μ w x (Builtin.min_ ts ty #[c, d]) k r := by
  unfold minF at h
  split at h
  · simp only [VRels, VRel, List.cons.injEq] at hv
    obtain ⟨v1, r1, ⟨rfl, rfl⟩, rfl, v2, r2, ⟨rfl, _⟩, rfl, _⟩ := hv
    rw [intLt_eq] at h
    split at h
    · rename_i hb; exact .int h (by rw [run_min_int2, if_pos (by simpa using hb)])
    · rename_i hb; exact .int h (by rw [run_min_int2, if_neg (by simpa using hb)])
  · cases h
theorem maxF_ok {ts : Array TypeId} {ty : TypeId} {c d : Value} (hv : VRels μ vs [c, d]) (h : maxF vs hp x k = some r) : NGood P μ w x (Builtin.max_ ts ty #[c, d]) k r := by
  unfold maxF at h
  split at h
  · simp only [VRels, VRel, List.cons.injEq] at hv
    obtain ⟨v1, r1, ⟨rfl, rfl⟩, rfl, v2, r2, ⟨rfl, _⟩, rfl, _⟩ := hv
    rw [intLt_eq] at h
    split at h
    · rename_i hb; exact .int h (by rw [run_max_int2, if_pos (by simpa using hb)])
    · rename_i hb; exact .int h (by rw [run_max_int2, if_neg (by simpa using hb)])
  · cases h
end
end Go.Proofs.Ytpcocfdgcihpdaa.Eng
