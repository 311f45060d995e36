/-
  THE ENGINE, PART M: copy; a map's entry; all operations that write, but for calls.
-/
import Derived.Test.YtpcocfdgcihpdaaEngL
namespace Go.Proofs.Ytpcocfdgcihpdaa.Eng
open Go
set_option linter.unusedVariables false
set_option linter.unusedSimpArgs false

theorem kindEq_eq {a b : IntKind} (h : kindEq a b = true) : a = b := (kindEq_iff a b).1 h
mutual
theorem AV.beq_ok : ∀ (a b : AV), AV.beq a b = true → a = b
  | .bool a, b, h => by cases b <;> simp [AV.beq] at h; rw [h]
  | .int j a, b, h => by cases b <;> simp [AV.beq, intEq_eq] at h; rw [kindEq_eq h.1, h.2]
  | .sint j a g, b, h => by cases b <;> simp [AV.beq] at h; rw [kindEq_eq h.1, h.2.1, h.2.2]
  | .nz j a g, b, h => by cases b <;> simp [AV.beq] at h; rw [kindEq_eq h.1, h.2.1, h.2.2]
  | .sbool a g, b, h => by cases b <;> simp [AV.beq] at h; rw [h.1, h.2]
  | .str a, b, h => by cases b <;> simp [AV.beq, strEq_eq] at h; rw [h]
  | .ptr a i, b, h => by cases b <;> simp [AV.beq, Nat.beq_eq, Bid.beq_iff] at h; rw [h.1, h.2]
  | .nilp, b, h => by cases b <;> simp [AV.beq] at h; rfl
  | .slice a i l (.ex c), b, h => by
    cases b <;> (try (simp only [AV.beq, Bool.false_eq_true] at h; done))
    rename_i a' i' l' c'
    cases c' <;> simp [AV.beq, Nat.beq_eq, Bid.beq_iff] at h
    rw [h.1, h.2.1, h.2.2.1, h.2.2.2]
  | .slice a i l (.op c), b, h => by
    cases b <;> (try (simp only [AV.beq, Bool.false_eq_true] at h; done))
    rename_i a' i' l' c'
    cases c' <;> simp [AV.beq, Nat.beq_eq, Bid.beq_iff] at h
    rw [h.1, h.2.1, h.2.2.1, h.2.2.2]
  | .slice a i l .em, b, h => by
    cases b <;> simp only [AV.beq, Bool.false_eq_true] at h
  | .nils, b, h => by cases b <;> simp [AV.beq] at h; rfl
  | .map a, b, h => by cases b <;> simp [AV.beq, Bid.beq_iff] at h; rw [h]
  | .nilm, b, h => by cases b <;> simp [AV.beq] at h; rfl
  | .func fn a b, c, h => by
    cases c <;> (try (cases fn <;> simp [AV.beq] at h; done))
    rename_i fn' a' b'
    cases fn <;> cases fn' <;> simp only [AV.beq, Bool.false_eq_true, Bool.and_eq_true, Nat.beq_eq] at h
    rw [h.1, AV.beqs_ok _ _ h.2.1, AV.beqs_ok _ _ h.2.2]
  | .nilf, b, h => by cases b <;> simp [AV.beq] at h; rfl
  | .iface t v, b, h => by
    cases b <;> simp only [AV.beq, Bool.false_eq_true, Bool.and_eq_true, Nat.beq_eq] at h
    rw [h.1, AV.beq_ok _ _ h.2]
  | .nili, b, h => by cases b <;> simp [AV.beq] at h; rfl
  | .agg l, b, h => by
    cases b <;> simp only [AV.beq, Bool.false_eq_true] at h
    rw [AV.beqs_ok _ _ h]
  | .tup l, b, h => by
    cases b <;> simp only [AV.beq, Bool.false_eq_true] at h
    rw [AV.beqs_ok _ _ h]
  | .un, b, h => by cases b <;> simp [AV.beq] at h
theorem AV.beqs_ok : ∀ (a b : List AV), AV.beqs a b = true → a = b
  | [], b, h => by cases b <;> simp [AV.beqs] at h; rfl
  | a :: l, b, h => by
    cases b <;> simp only [AV.beqs, Bool.false_eq_true, Bool.and_eq_true] at h
    rw [AV.beq_ok _ _ h.1, AV.beqs_ok _ _ h.2]
end

section
variable {β : Type} {P : Program} {μ : Inj} {w : World} {r : β} {h : Hp} {x : Bid} {vs : List AV} {k : EK β}

theorem bytes_inj {a b : ByteArray} (h : a.data.toList.map UInt8.toNat = b.data.toList.map UInt8.toNat) : a = b := by
  have := map_toNat_inj h
  obtain ⟨⟨x⟩⟩ := a; obtain ⟨⟨y⟩⟩ := b
  simp at this; rw [this]
mutual
theorem AV.sameK_ok {β : Type} {r : β} : ∀ (a b : AV) (c : Option β), AV.sameK a b c = some r → a = b ∧ c = some r
  | .sint j a g, b, c, h => by
    unfold AV.sameK at h
    split at h
    · split at h
      · rename_i hk; rw [Bool.and_eq_true, kindEq_iff, Nat.beq_eq] at hk
        obtain ⟨hk, hg⟩ := hk
        subst hk hg
        rcases symFork_ok h with ⟨e, h⟩ | ⟨_, h⟩
        · exact ⟨by rw [of_decide_eq_true e], h⟩
        · cases h
      · cases h
    · cases h
  | .nz j a g, b, c, h => by
    unfold AV.sameK at h
    split at h
    · split at h
      · rename_i hk; rw [Bool.and_eq_true, kindEq_iff, Nat.beq_eq] at hk
        obtain ⟨hk, hg⟩ := hk
        subst hk hg
        rcases symFork_ok h with ⟨e, h⟩ | ⟨_, h⟩
        · exact ⟨by rw [of_decide_eq_true e], h⟩
        · cases h
      · cases h
    · cases h
  | .sbool a g, b, c, h => by
    unfold AV.sameK at h
    split at h
    · split at h
      · rename_i hg; rw [Nat.beq_eq] at hg; subst hg
        rcases symFork_ok h with ⟨e, h⟩ | ⟨_, h⟩
        · rw [beq_iff_eq] at e; exact ⟨by rw [e], h⟩
        · cases h
      · cases h
    · cases h
  | .agg l, b, c, h => by
    unfold AV.sameK at h
    split at h
    · obtain ⟨e, h⟩ := AV.samesK_ok _ _ _ h; exact ⟨by rw [e], h⟩
    · cases h
  | .tup l, b, c, h => by
    unfold AV.sameK at h
    split at h
    · obtain ⟨e, h⟩ := AV.samesK_ok _ _ _ h; exact ⟨by rw [e], h⟩
    · cases h
  | .iface t v, b, c, h => by
    unfold AV.sameK at h
    split at h
    · split at h
      · rename_i hk; rw [Nat.beq_eq] at hk; subst hk
        obtain ⟨e, h⟩ := AV.sameK_ok _ _ _ h; exact ⟨by rw [e], h⟩
      · cases h
    · cases h
  | .un, b, c, h => by
    simp only [AV.sameK] at h
    split at h
    · rename_i e; exact ⟨AV.beq_ok _ _ e, h⟩
    · cases h
  | .bool _, b, c, h => by
    simp only [AV.sameK] at h
    split at h
    · rename_i e; exact ⟨AV.beq_ok _ _ e, h⟩
    · cases h
  | .int _ _, b, c, h => by
    simp only [AV.sameK] at h
    split at h
    · rename_i e; exact ⟨AV.beq_ok _ _ e, h⟩
    · cases h
  | .str _, b, c, h => by
    simp only [AV.sameK] at h
    split at h
    · rename_i e; exact ⟨AV.beq_ok _ _ e, h⟩
    · cases h
  | .ptr _ _, b, c, h => by
    simp only [AV.sameK] at h
    split at h
    · rename_i e; exact ⟨AV.beq_ok _ _ e, h⟩
    · cases h
  | .nilp, b, c, h => by
    simp only [AV.sameK] at h
    split at h
    · rename_i e; exact ⟨AV.beq_ok _ _ e, h⟩
    · cases h
  | .slice _ _ _ _, b, c, h => by
    simp only [AV.sameK] at h
    split at h
    · rename_i e; exact ⟨AV.beq_ok _ _ e, h⟩
    · cases h
  | .nils, b, c, h => by
    simp only [AV.sameK] at h
    split at h
    · rename_i e; exact ⟨AV.beq_ok _ _ e, h⟩
    · cases h
  | .map _, b, c, h => by
    simp only [AV.sameK] at h
    split at h
    · rename_i e; exact ⟨AV.beq_ok _ _ e, h⟩
    · cases h
  | .nilm, b, c, h => by
    simp only [AV.sameK] at h
    split at h
    · rename_i e; exact ⟨AV.beq_ok _ _ e, h⟩
    · cases h
  | .func _ _ _, b, c, h => by
    simp only [AV.sameK] at h
    split at h
    · rename_i e; exact ⟨AV.beq_ok _ _ e, h⟩
    · cases h
  | .nilf, b, c, h => by
    simp only [AV.sameK] at h
    split at h
    · rename_i e; exact ⟨AV.beq_ok _ _ e, h⟩
    · cases h
  | .nili, b, c, h => by
    simp only [AV.sameK] at h
    split at h
    · rename_i e; exact ⟨AV.beq_ok _ _ e, h⟩
    · cases h
theorem AV.samesK_ok {β : Type} {r : β} : ∀ (a b : List AV) (c : Option β), AV.samesK a b c = some r → a = b ∧ c = some r
  | [], b, c, h => by
    unfold AV.samesK at h
    split at h
    · exact ⟨rfl, h⟩
    · cases h
  | a :: l, b, c, h => by
    unfold AV.samesK at h
    split at h
    · cases h
    · obtain ⟨e, h⟩ := AV.sameK_ok _ _ _ h
      obtain ⟨e2, h⟩ := AV.samesK_ok _ _ _ h
      exact ⟨by rw [e, e2], h⟩
end

theorem plainKey1_det {a : AV} (hp : plainKey1 a = true) {c d : Value} (hc : VRel μ a c) (hd : VRel μ a d) : c = d ∧ ∀ n, Instr.sameBits n c c = true := by
  cases a <;> simp [plainKey1] at hp <;> simp only [VRel] at hc hd
  · subst hc hd; exact ⟨rfl, fun n => by simp [Instr.sameBits]⟩
  · subst hc hd; exact ⟨rfl, fun n => by simp [Instr.sameBits]⟩
  · obtain ⟨s, rfl, h1⟩ := hc
    obtain ⟨t, rfl, h2⟩ := hd
    have := bytes_inj (h1.trans h2.symm); subst this
    exact ⟨rfl, fun n => by simp only [Instr.sameBits, beq_toListBytes, beq_self_eq_true]⟩
theorem plainKeys_det : ∀ {l : List AV}, l.all plainKey1 = true → ∀ {c d : List Value}, VRels μ l c → VRels μ l d → c = d ∧ ∀ n, (c.zip c).all (fun p => Instr.sameBits n p.1 p.2) = true
  | [], _, c, d, hc, hd => by simp only [VRels] at hc hd; subst hc hd; exact ⟨rfl, fun n => rfl⟩
  | a :: l, hp, c, d, hc, hd => by
    simp only [List.all_cons, Bool.and_eq_true] at hp
    simp only [VRels] at hc hd
    obtain ⟨c1, cr, rfl, hc1, hcr⟩ := hc
    obtain ⟨d1, dr, rfl, hd1, hdr⟩ := hd
    obtain ⟨e1, e2⟩ := plainKey1_det hp.1 hc1 hd1
    obtain ⟨e3, e4⟩ := plainKeys_det hp.2 hcr hdr
    refine ⟨by rw [e1, e3], fun n => ?_⟩
    simp only [List.zip_cons_cons, List.all_cons, Bool.and_eq_true]
    exact ⟨e2 n, e4 n⟩
theorem plainKey_det {a : AV} (hp : plainKey a = true) {c d : Value} (hc : VRel μ a c) (hd : VRel μ a d) : c = d ∧ Instr.sameBits 10000 c c = true := by
  cases a with
  | agg l =>
    simp only [plainKey] at hp
    simp only [VRel] at hc hd
    obtain ⟨cs, rfl, hc⟩ := hc
    obtain ⟨ds, rfl, hd⟩ := hd
    obtain ⟨e1, e2⟩ := plainKeys_det hp hc hd
    refine ⟨by rw [Array.toList_inj.1 e1], ?_⟩
    have := e2 9999
    simp only [Instr.sameBits, Bool.and_eq_true, beq_self_eq_true, true_and]
    exact this
  | un => cases hp
  | bool => exact ⟨(plainKey1_det (by exact hp) hc hd).1, (plainKey1_det (by exact hp) hc hd).2 _⟩
  | int => exact ⟨(plainKey1_det (by exact hp) hc hd).1, (plainKey1_det (by exact hp) hc hd).2 _⟩
  | str => exact ⟨(plainKey1_det (by exact hp) hc hd).1, (plainKey1_det (by exact hp) hc hd).2 _⟩
  | sint => cases hp
  | nz => cases hp
  | sbool => cases hp
  | ptr => cases hp
  | nilp => cases hp
  | slice => cases hp
  | nils => cases hp
  | map => cases hp
  | nilm => cases hp
  | func => cases hp
  | nilf => cases hp
  | iface => cases hp
  | nili => cases hp
  | tup => cases hp


theorem ERels.get {μ : Inj} : ∀ {l : List (AV × AV × Nat)} {es : List MapEntry}, ERels μ l es → ∀ {i : Nat} {e : AV × AV × Nat}, l[i]? = some e → ∃ e0, es[i]? = some e0 ∧ VRel μ e.1 e0.key ∧ VRel μ e.2.1 e0.val ∧ e0.born = e.2.2
  | [], _, _, i, e, hi => by simp at hi
  | (a, v, n) :: l, _, h, i, e, hi => by
    simp only [ERels] at h
    obtain ⟨e0, r0, rfl, h1, h2, h3, h4⟩ := h
    cases i with
    | zero => simp at hi; subst hi; exact ⟨e0, rfl, h1, h2, h3⟩
    | succ i => simp at hi; obtain ⟨e1, q1, q2⟩ := h4.get hi; exact ⟨e1, by simpa using q1, q2⟩
theorem ERels.set {μ : Inj} {key v : AV} {kc cv : Value} (hk : VRel μ key kc) (hv : VRel μ v cv) : ∀ {l : List (AV × AV × Nat)} {es : List MapEntry}, ERels μ l es → ∀ {i : Nat} {e : AV × AV × Nat}, l[i]? = some e →
    ERels μ (l.set i (key, v, e.2.2)) (es.modify i fun e => { e with key := kc, val := cv })
  | [], _, _, i, e, hi => by simp at hi
  | (a, v0, n) :: l, _, h, i, e, hi => by
    simp only [ERels] at h
    obtain ⟨e0, r0, rfl, h1, h2, h3, h4⟩ := h
    cases i with
    | zero =>
      simp at hi; subst hi
      have e1 : ∀ f : MapEntry → MapEntry, (e0 :: r0).modify 0 f = f e0 :: r0 := fun f => rfl
      rw [e1]; simp only [List.set_cons_zero, ERels]
      exact ⟨_, _, rfl, hk, hv, h3, h4⟩
    | succ i =>
      simp at hi
      have := h4.set hk hv hi
      have e1 : ∀ f : MapEntry → MapEntry, (e0 :: r0).modify (i + 1) f = e0 :: r0.modify i f := fun f => rfl
      rw [e1]; simp only [List.set_cons_succ, ERels]
      exact ⟨e0, _, rfl, h1, h2, h3, this⟩
theorem ERels.push {μ : Inj} {key v : AV} {n : Nat} {kc cv : Value} (hk : VRel μ key kc) (hv : VRel μ v cv) : ∀ {l : List (AV × AV × Nat)} {es : List MapEntry}, ERels μ l es → ERels μ (l ++ [(key, v, n)]) (es ++ [{ key := kc, val := cv, born := n }])
  | [], _, h => by simp only [ERels] at h; subst h; simp only [List.nil_append, ERels]; exact ⟨_, _, rfl, hk, hv, rfl, rfl⟩
  | (a, v0, m) :: l, _, h => by
    simp only [ERels] at h
    obtain ⟨e0, r0, rfl, h1, h2, h3, h4⟩ := h
    simp only [List.cons_append, ERels]
    exact ⟨e0, _, rfl, h1, h2, h3, h4.push hk hv⟩

theorem mapUpdE_ok (hr : HR μ h.get w) {t kt et : TypeId} (hu : P.underlying t = some (.map kt et)) (hke : keyET (etOf P kt) ≠ .no) {m kc vc : Value} (hv : VRels μ vs [m, kc, vc]) (hk : mapUpdE (etOf P kt) vs h x k = some r) :
    EGood P μ h w (do Instr.mapUpdate t m kc vc; pure .skip) k r := by
  have hE := etOf_ok (P := P) kt
  have hself := keyET_self hke
  unfold mapUpdE at hk
  split at hk
  · rename_i b key v
    simp only [VRels, VRel, List.cons.injEq] at hv
    obtain ⟨v1, r1, ⟨rfl, rfl⟩, ⟨l, hl, rfl⟩, v2, r2, ⟨rfl, rfl⟩, hkey, v3, r3, ⟨rfl, _⟩, hval, _⟩ := hv
    split at hk
    · rename_i es c hes hf
      rw [Bool.and_eq_true] at hf
      have hob := hr.ok b l hl
      rw [hes] at hob
      obtain ⟨ents, hb, hEs⟩ := hob
      have hlt : l.blk < w.heap.size := (hr.ok b l hl).lt (by rw [hes]; rfl)
      have hck := keyFits_ok (w := w) hE hkey hf.1 false 9998
      have hget : (getObj l.blk).run P w = .ok (.map ents c) w := by simp [getObj, Sem.run, hb]
      have hset : ∀ o : Obj, (setObj l.blk o).run P w = .ok () { w with heap := w.heap.setIfInBounds l.blk o } := fun o => by simp [setObj, Sem.run, hb]
      have hch : ∀ (es' : List (AV × AV × Nat)) (c' : Nat) (ents' : Array MapEntry), ERels μ es' ents'.toList → HR μ (h.put b (.map es' c')).get { w with heap := w.heap.setIfInBounds l.blk (.map ents' c') } ∧ Fr μ h.get w μ (h.put b (.map es' c')).get { w with heap := w.heap.setIfInBounds l.blk (.map ents' c') } := by
        intro es' c' ents' hrel
        refine hr.change hl (by rw [hes]; rfl) rfl (fun d hd => ?_) ⟨ents', ?_, hrel⟩ rfl rfl rfl (by simp)
        · simp only [Array.getElem?_setIfInBounds]; rw [if_neg (fun e => hd e.symm)]
        · simp [hlt]
      split at hk
      · rename_i i v0 hq
        obtain ⟨res', q1, cv, rfl, hcv⟩ := findA_ok (e := etOf P kt) hr hE hself (by rw [hself] at hke; exact hke) hkey hEs hq
        unfold mapSet at hk
        obtain ⟨e, he, hk⟩ := getK_ok hk
        split at hk
        · rename_i hbeq
          have hbe := AV.beq_ok _ _ hbeq
          obtain ⟨_, hk⟩ := setK_ok hk
          rw [Hp.putK_eq] at hk
          obtain ⟨e0, p1, p2, p3, p4⟩ := hEs.get he
          rw [hbe] at p2
          obtain ⟨d1, d2⟩ := plainKey_det hf.2 hkey p2
          rw [Array.getElem?_toList] at p1
          have hkeep : (Instr.keyThatStays (((ents[i]?).map (·.key)).getD kc) kc).run P w = .ok kc w := by
            rw [p1]; simp only [Option.map_some, Option.getD_some, Instr.keyThatStays]
            rw [← d1, d2]; rfl
          have hrel := hEs.set hkey hval he
          obtain ⟨g1, g2⟩ := hch _ c (ents.modify i fun e => { e with key := kc, val := vc }) (by rw [Array.toList_modify]; exact hrel)
          refine ⟨_, _, _, hk, .skip, undef, _, μ, ?_, .inr ⟨rfl, rfl⟩, by simp [VRel], g1, g2⟩
          simp [Instr.mapUpdate, run_underlying hu, hget, hck, q1, hkeep, hset]
        · cases hk
      · rename_i hq
        obtain ⟨res', q1, q2⟩ := findA_ok (e := etOf P kt) hr hE hself (by rw [hself] at hke; exact hke) hkey hEs hq
        simp only [FRel] at q2; subst q2
        rw [appK_eq, natK_eq, Hp.putK_eq] at hk
        have hrel := hEs.push (n := c) hkey hval
        obtain ⟨g1, g2⟩ := hch _ (c + 1) (ents.push { key := kc, val := vc, born := c }) (by rw [Array.toList_push]; exact hrel)
        refine ⟨_, _, _, hk, .skip, undef, _, μ, ?_, .inr ⟨rfl, rfl⟩, by simp [VRel], g1, g2⟩
        simp [Instr.mapUpdate, run_underlying hu, hget, hck, q1, hset]
      · cases hk
    · cases hk
  · cases hk

theorem copyE_ok (hr : HR μ h.get w) {ts : Array TypeId} {t e ty : TypeId} {n : Nat} (h0 : ts[0]? = some t) (ht : P.underlying t = some (.slice e)) (hs : sizeP P e = some n) {d s : Value} (hv : VRels μ vs [d, s]) (hk : copyE n vs h x k = some r) :
    VGood P μ h w (Builtin.copy_ ts ty #[d, s]) k r := by
  unfold copyE at hk
  split at hk
  · rename_i dA sA
    simp only [VRels, List.cons.injEq] at hv
    obtain ⟨d1, r1, ⟨rfl, rfl⟩, hd, s1, r2, ⟨rfl, _⟩, hs', _⟩ := hv
    obtain ⟨nd, hk1, hdl⟩ := lenA_ok (P := P) hd hk
    obtain ⟨ns, hk2, hsl⟩ := lenA_ok (P := P) hs' hk1
    rw [natK_eq] at hk2
    obtain ⟨src, vals, hk3, hsrc, hfc⟩ := srcK_ok (P := P) hr hs' hk2
    clear hk hk1 hk2
    have hk := hk3
    clear hk3
    have hfc' := hfc w rfl
    split at hk
    · simp only [VRel] at hd; subst hd
      have hnd : nd = 0 := by have := hdl w; simp [Builtin.lenOf] at this; omega
      subst hnd
      have e0 : Nat.min ns 0 = 0 := Nat.min_zero ns
      rw [e0] at hfc' hk
      refine ⟨_, _, _, hk, .int .i64 (Int.ofNat 0), w, μ, ?_, by simp [VRel], hr, Fr.refl _ _ _⟩
      simp [Builtin.copy_, h0, run_underlying ht, hsl, run_sizeOf hs, hfc', goInt]
    · rename_i b o m
      simp only [VRel, SlRel] at hd
      obtain ⟨l, hl, rfl, a0, c0, rfl⟩ := hd
      have hnd : nd = 0 := by have := hdl w; simp [Builtin.lenOf] at this; omega
      subst hnd
      have e0 : Nat.min ns 0 = 0 := Nat.min_zero ns
      rw [e0] at hfc'
      split at hk
      · simp only [VRels] at hsrc; subst hsrc
        rw [e0] at hk
        refine ⟨_, _, _, hk, .int .i64 (Int.ofNat 0), w, μ, ?_, by simp [VRel], hr, Fr.refl _ _ _⟩
        simp [Builtin.copy_, h0, run_underlying ht, hsl, run_sizeOf hs, hfc', goInt, storeCells]
      · cases hk
    · rename_i b o m cp hne
      simp only [VRel] at hd
      obtain ⟨l, hl, hsr⟩ := hd
      have hd2 : ∃ cc, d = .slice (some ⟨l.blk, l.base + o, none⟩) m cc := by
        cases cp with
        | ex c => exact ⟨_, hsr⟩
        | op g => exact ⟨_, hsr.1⟩
        | em => exact absurd rfl hne
      obtain ⟨cc, rfl⟩ := hd2
      have hnd : nd = m := by have := hdl w; simp [Builtin.lenOf] at this; omega
      subst hnd
      obtain ⟨h', w', hk, hst, hr', hf, _⟩ := overObj_ok (P := P) hr hl hsrc hk
      refine ⟨_, _, _, hk, .int .i64 (Int.ofNat (Nat.min ns nd)), w', μ, ?_, by simp [VRel], hr', hf⟩
      simp [Builtin.copy_, h0, run_underlying ht, hsl, run_sizeOf hs, hfc', goInt, hst]
    · cases hk
  · cases hk
end
end Go.Proofs.Ytpcocfdgcihpdaa.Eng
