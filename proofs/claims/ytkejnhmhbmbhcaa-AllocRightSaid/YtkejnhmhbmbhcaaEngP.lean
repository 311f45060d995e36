/-
  THE ENGINE, PART M: copy; a map's entry; all operations that write, but for calls.
-/
import Derived.Test.YtkejnhmhbmbhcaaEngL
set_option maxHeartbeats 64000000
set_option maxRecDepth 1000000
set_option linter.unusedVariables false
set_option linter.unusedSimpArgs false
set_option maxHeartbeats 64000000
set_option maxHeartbeats 64000000
set_option maxHeartbeats 64000000
set_option maxHeartbeats 64000000
namespace Go.Proofs.Ytkejnhmhbmbhcaa.Eng
open Go
theorem kindEq_eq {a b : IntKind} (h : kindEq a b = true) : a = b := (kindEq_iff a b).1 h
mutual
theorem AV.beq_ok : ∀ (a b : AV), AV.beq a b = true → a = b
  | .bool a, b, h => by cases b <;> simp [AV.beq] at h; rw [h]
  | .int j a, b, h => by cases b <;> simp [AV.beq, intEq_eq] at h; rw [kindEq_eq h.1, h.2]
  | .sint j a g, b, h => by cases b <;> simp [AV.beq] at h; rw [kindEq_eq h.1, h.2.1, h.2.2]
  | .nz j a g, b, h => by cases b <;> simp [AV.beq] at h; rw [kindEq_eq h.1, h.2.1, h.2.2]
  | .sbool a g, b, h => by cases b <;> simp [AV.beq] at h; rw [h.1, h.2]
  | .str a, b, h => by cases b <;> simp [AV.beq, strEq_eq] at h; rw [h]
  | .ptr a i, b, h => by cases b <;> simp [AV.beq, Nat.beq_eq, Bid.beq_iff] at h; rw [h.1, h.2]
  | .nilp, b, h => by cases b <;> simp [AV.beq] at h; rfl
  | .slice a i l (.ex c), b, h => by
    cases b <;> (try (simp only [AV.beq, Bool.false_eq_true] at h; done))
    rename_i a' i' l' c'
    cases c' <;> simp [AV.beq, Nat.beq_eq, Bid.beq_iff] at h
    rw [h.1, h.2.1, h.2.2.1, h.2.2.2]
  | .slice a i l (.op c), b, h => by
    cases b <;> (try (simp only [AV.beq, Bool.false_eq_true] at h; done))
    rename_i a' i' l' c'
    cases c' <;> simp [AV.beq, Nat.beq_eq, Bid.beq_iff] at h
    rw [h.1, h.2.1, h.2.2.1, h.2.2.2]
  | .slice a i l .em, b, h => by
    cases b <;> simp only [AV.beq, Bool.false_eq_true] at h
  | .nils, b, h => by cases b <;> simp [AV.beq] at h; rfl
  | .map a, b, h => by cases b <;> simp [AV.beq, Bid.beq_iff] at h; rw [h]
  | .nilm, b, h => by cases b <;> simp [AV.beq] at h; rfl
  | .func fn a b, c, h => by
    cases c <;> (try (cases fn <;> simp [AV.beq] at h; done))
    rename_i fn' a' b'
    cases fn <;> cases fn' <;> simp only [AV.beq, Bool.false_eq_true, Bool.and_eq_true, Nat.beq_eq] at h
    rw [h.1, AV.beqs_ok _ _ h.2.1, AV.beqs_ok _ _ h.2.2]
  | .nilf, b, h => by cases b <;> simp [AV.beq] at h; rfl
  | .iface t v, b, h => by
    cases b <;> simp only [AV.beq, Bool.false_eq_true, Bool.and_eq_true, Nat.beq_eq] at h
    rw [h.1, AV.beq_ok _ _ h.2]
  | .nili, b, h => by cases b <;> simp [AV.beq] at h; rfl
  | .agg l, b, h => by
    cases b <;> simp only [AV.beq, Bool.false_eq_true] at h
    rw [AV.beqs_ok _ _ h]
  | .tup l, b, h => by
    cases b <;> simp only [AV.beq, Bool.false_eq_true] at h
    rw [AV.beqs_ok _ _ h]
  | .un, b, h => by cases b <;> simp [AV.beq] at h
theorem AV.beqs_ok : ∀ (a b : List AV), AV.beqs a b = true → a = b
  | [], b, h => by cases b <;> simp [AV.beqs] at h; rfl
  | a :: l, b, h => by
    cases b <;> simp only [AV.beqs, Bool.false_eq_true, Bool.and_eq_true] at h
    rw [AV.beq_ok _ _ h.1, AV.beqs_ok _ _ h.2]
end
section
variable {β : Type} {P : Program} {μ : Inj} {w : World} {r : β} {h : Hp} {x : Bid} {vs : List AV} {k : EK β}
theorem bytes_inj {a b : ByteArray} (h : a.data.toList.map UInt8.toNat = b.data.toList.map UInt8.toNat) : a = b := by
  have := map_toNat_inj h
  obtain ⟨⟨x⟩⟩ := a; obtain ⟨⟨y⟩⟩ := b
  simp at this; rw [this]
mutual
theorem AV.sameK_ok {β : Type} {r : β} : ∀ (a b : AV) (c : Option β), AV.sameK a b c = some r → a = b ∧ c = some r
  | .sint j a g, b, c, h => by
    unfold AV.sameK at h
    split at h
    · split at h
      · rename_i hk; rw [Bool.and_eq_true, kindEq_iff, Nat.beq_eq] at hk
        obtain ⟨hk, hg⟩ := hk
        subst hk hg
        rcases symFork_ok h with ⟨e, h⟩ | ⟨_, h⟩
        · exact ⟨by rw [of_decide_eq_true e], h⟩
        · cases h
      · cases h
    · cases h
  | .nz j a g, b, c, h => by
    unfold AV.sameK at h
    split at h
    · split at h
      · rename_i hk; rw [Bool.and_eq_true, kindEq_iff, Nat.beq_eq] at hk
        obtain ⟨hk, hg⟩ := hk
        subst hk hg
        rcases symFork_ok h with ⟨e, h⟩ | ⟨_, h⟩
        · exact ⟨by rw [of_decide_eq_true e], h⟩
        · cases h
      · cases h
    · cases h
  | .sbool a g, b, c, h => by
    unfold AV.sameK at h
    split at h
    · split at h
      · rename_i hg; rw [Nat.beq_eq] at hg; subst hg
        rcases symFork_ok h with ⟨e, h⟩ | ⟨_, h⟩
        · rw [beq_iff_eq] at e; exact ⟨by rw [e], h⟩
        · cases h
      · cases h
    · cases h
  | .agg l, b, c, h => by
    unfold AV.sameK at h
    split at h
    · obtain ⟨e, h⟩ := AV.samesK_ok _ _ _ h; exact ⟨by rw [e], h⟩
    · cases h
  | .tup l, b, c, h => by
    unfold AV.sameK at h
    split at h
    · obtain ⟨e, h⟩ := AV.samesK_ok _ _ _ h; exact ⟨by rw [e], h⟩
    · cases h
  | .iface t v, b, c, h => by
    unfold AV.sameK at h
    split at h
    · split at h
      · rename_i hk; rw [Nat.beq_eq] at hk; subst hk
        obtain ⟨e, h⟩ := AV.sameK_ok _ _ _ h; exact ⟨by rw [e], h⟩
      · cases h
    · cases h
  | .un, b, c, h => by
    simp only [AV.sameK] at h
    split at h
    · rename_i e; exact ⟨AV.beq_ok _ _ e, h⟩
    · cases h
  | .bool _, b, c, h => by
    simp only [AV.sameK] at h
    split at h
    · rename_i e; exact ⟨AV.beq_ok _ _ e, h⟩
    · cases h
  | .int _ _, b, c, h => by
    simp only [AV.sameK] at h
    split at h
    · rename_i e; exact ⟨AV.beq_ok _ _ e, h⟩
    · cases h
  | .str _, b, c, h => by
    simp only [AV.sameK] at h
    split at h
    · rename_i e; exact ⟨AV.beq_ok _ _ e, h⟩
    · cases h
  | .ptr _ _, b, c, h => by
    simp only [AV.sameK] at h
    split at h
    · rename_i e; exact ⟨AV.beq_ok _ _ e, h⟩
    · cases h
  | .nilp, b, c, h => by
    simp only [AV.sameK] at h
    split at h
    · rename_i e; exact ⟨AV.beq_ok _ _ e, h⟩
    · cases h
  | .slice _ _ _ _, b, c, h => by
    simp only [AV.sameK] at h
    split at h
    · rename_i e; exact ⟨AV.beq_ok _ _ e, h⟩
    · cases h
  | .nils, b, c, h => by
    simp only [AV.sameK] at h
    split at h
    · rename_i e; exact ⟨AV.beq_ok _ _ e, h⟩
    · cases h
  | .map _, b, c, h => by
    simp only [AV.sameK] at h
    split at h
    · rename_i e; exact ⟨AV.beq_ok _ _ e, h⟩
    · cases h
  | .nilm, b, c, h => by
    simp only [AV.sameK] at h
    split at h
    · rename_i e; exact ⟨AV.beq_ok _ _ e, h⟩
    · cases h
  | .func _ _ _, b, c, h => by
    simp only [AV.sameK] at h
    split at h
    · rename_i e; exact ⟨AV.beq_ok _ _ e, h⟩
    · cases h
  | .nilf, b, c, h => by
    simp only [AV.sameK] at h
    split at h
    · rename_i e; exact ⟨AV.beq_ok _ _ e, h⟩
    · cases h
  | .nili, b, c, h => by
    simp only [AV.sameK] at h
    split at h
    · rename_i e; exact ⟨AV.beq_ok _ _ e, h⟩
    · cases h
theorem AV.samesK_ok {β : Type} {r : β} : ∀ (a b : List AV) (c : Option β), AV.samesK a b c = some r → a = b ∧ c = some r
  | [], b, c, h => by
    unfold AV.samesK at h
    split at h
    · exact ⟨rfl, h⟩
    · cases h
  | a :: l, b, c, h => by
    unfold AV.samesK at h
    split at h
    · cases h
    · obtain ⟨e, h⟩ := AV.sameK_ok _ _ _ h
      obtain ⟨e2, h⟩ := AV.samesK_ok _ _ _ h
      exact ⟨by rw [e, e2], h⟩
end
theorem plainKey1_det {a : AV} (hp : plainKey1 a = true) {c d : Value} (hc : VRel μ a c) (hd : VRel μ a d) : c = d ∧ ∀ n, Instr.sameBits n c c = true := by
  cases a <;> simp [plainKey1] at hp <;> simp only [VRel] at hc hd
  · subst hc hd; exact ⟨rfl, fun n => by simp [Instr.sameBits]⟩
  · subst hc hd; exact ⟨rfl, fun n => by simp [Instr.sameBits]⟩
  · obtain ⟨s, rfl, h1⟩ := hc
    obtain ⟨t, rfl, h2⟩ := hd
    have := bytes_inj (h1.trans h2.symm); subst this
    exact ⟨rfl, fun n => by simp only [Instr.sameBits, beq_toListBytes, beq_self_eq_true]⟩
theorem plainKeys_det : ∀ {l : List AV}, l.all plainKey1 = true → ∀ {c d : List Value}, VRels μ l c → VRels μ l d → c = d ∧ ∀ n, (c.zip c).all (fun p => Instr.sameBits n p.1 p.2) = true
  | [], _, c, d, hc, hd => by simp only [VRels] at hc hd; subst hc hd; exact ⟨rfl, fun n => rfl⟩
  | a :: l, hp, c, d, hc, hd => by
    simp only [List.all_cons, Bool.and_eq_true] at hp
    simp only [VRels] at hc hd
    obtain ⟨c1, cr, rfl, hc1, hcr⟩ := hc
    obtain ⟨d1, dr, rfl, hd1, hdr⟩ := hd
    obtain ⟨e1, e2⟩ := plainKey1_det hp.1 hc1 hd1
    obtain ⟨e3, e4⟩ := plainKeys_det hp.2 hcr hdr
    refine ⟨by rw [e1, e3], fun n => ?_⟩
    simp only [List.zip_cons_cons, List.all_cons, Bool.and_eq_true]
    exact ⟨e2 n, e4 n⟩
theorem plainKey_det {a : AV} (hp : plainKey a = true) {c d : Value} (hc : VRel μ a c) (hd : VRel μ a d) : c = d ∧ Instr.sameBits 10000 c c = true := by
  cases a with
  | agg l =>
    simp only [plainKey] at hp
    simp only [VRel] at hc hd
    obtain ⟨cs, rfl, hc⟩ := hc
    obtain ⟨ds, rfl, hd⟩ := hd
    obtain ⟨e1, e2⟩ := plainKeys_det hp hc hd
    refine ⟨by rw [Array.toList_inj.1 e1], ?_⟩
    have := e2 9999
    simp only [Instr.sameBits, Bool.and_eq_true, beq_self_eq_true, true_and]
    exact this
  | un => cases hp
  | bool => exact ⟨(plainKey1_det (by exact hp) hc hd).1, (plainKey1_det (by exact hp) hc hd).2 _⟩
  | int => exact ⟨(plainKey1_det (by exact hp) hc hd).1, (plainKey1_det (by exact hp) hc hd).2 _⟩
  | str => exact ⟨(plainKey1_det (by exact hp) hc hd).1, (plainKey1_det (by exact hp) hc hd).2 _⟩
  | sint => cases hp
  | nz => cases hp
  | sbool => cases hp
  | ptr => cases hp
  | nilp => cases hp
  | slice => cases hp
  | nils => cases hp
  | map => cases hp
  | nilm => cases hp
  | func => cases hp
  | nilf => cases hp
  | iface => cases hp
  | nili => cases hp
  | tup => cases hp
theorem ERels.get {μ : Inj} : ∀ {l : List (AV × AV × Nat)} {es : List MapEntry}, ERels μ l es → ∀ {i : Nat} {e : AV × AV × Nat}, l[i]? = some e → ∃ e0, es[i]? = some e0 ∧ VRel μ e.1 e0.key ∧ VRel μ e.2.1 e0.val ∧ e0.born = e.2.2
  | [], _, _, i, e, hi => by simp at hi
  | (a, v, n) :: l, _, h, i, e, hi => by
    simp only [ERels] at h
    obtain ⟨e0, r0, rfl, h1, h2, h3, h4⟩ := h
    cases i with
    | zero => simp at hi; subst hi; exact ⟨e0, rfl, h1, h2, h3⟩
    | succ i => simp at hi; obtain ⟨e1, q1, q2⟩ := h4.get hi; exact ⟨e1, by simpa using q1, q2⟩
theorem ERels.set {μ : Inj} {key v : AV} {kc cv : Value} (hk : VRel μ key kc) (hv : VRel μ v cv) : ∀ {l : List (AV × AV × Nat)} {es : List MapEntry}, ERels μ l es → ∀ {i : Nat} {e : AV × AV × Nat}, l[i]? = some e →
    ERels μ (l.set i (key, v, e.2.2)) (es.modify i fun e => { e with key := kc, val := cv })
  | [], _, _, i, e, hi => by simp at hi
  | (a, v0, n) :: l, _, h, i, e, hi => by
    simp only [ERels] at h
    obtain ⟨e0, r0, rfl, h1, h2, h3, h4⟩ := h
    cases i with
    | zero =>
      simp at hi; subst hi
      have e1 : ∀ f : MapEntry → MapEntry, (e0 :: r0).modify 0 f = f e0 :: r0 := fun f => rfl
      rw [e1]; simp only [List.set_cons_zero, ERels]
      exact ⟨_, _, rfl, hk, hv, h3, h4⟩
    | succ i =>
      simp at hi
      have := h4.set hk hv hi
      have e1 : ∀ f : MapEntry → MapEntry, (e0 :: r0).modify (i + 1) f = e0 :: r0.modify i f := fun f => rfl
      rw [e1]; simp only [List.set_cons_succ, ERels]
      exact ⟨e0, _, rfl, h1, h2, h3, this⟩
theorem ERels.push {μ : Inj} {key v : AV} {n : Nat} {kc cv : Value} (hk : VRel μ key kc) (hv : VRel μ v cv) : ∀ {l : List (AV × AV × Nat)} {es : List MapEntry}, ERels μ l es → ERels μ (l ++ [(key, v, n)]) (es ++ [{ key := kc, val := cv, born := n }])
  | [], _, h => by simp only [ERels] at h; subst h; simp only [List.nil_append, ERels]; exact ⟨_, _, rfl, hk, hv, rfl, rfl⟩
  | (a, v0, m) :: l, _, h => by
    simp only [ERels] at h
    obtain ⟨e0, r0, rfl, h1, h2, h3, h4⟩ := h
    simp only [List.cons_append, ERels]
    exact ⟨e0, _, rfl, h1, h2, h3, h4.push hk hv⟩
theorem mapUpdE_ok (hr : HR μ h.get w) {t kt et : TypeId} (hu : P.underlying t = some (.map kt et)) (hke : keyET (etOf P kt) ≠ .no) {m kc vc : Value} (hv : VRels μ vs [m, kc, vc]) (hk : mapUpdE (etOf P kt) vs h x k = some r) :
    EGood P μ h w (do Instr.mapUpdate t m kc vc; pure .skip) k r := by
  have hE := etOf_ok (P := P) kt
  have hself := keyET_self hke
  unfold mapUpdE at hk
  split at hk
  · rename_i b key v
    simp only [VRels, VRel, List.cons.injEq] at hv
    obtain ⟨v1, r1, ⟨rfl, rfl⟩, ⟨l, hl, rfl⟩, v2, r2, ⟨rfl, rfl⟩, hkey, v3, r3, ⟨rfl, _⟩, hval, _⟩ := hv
    split at hk
    · rename_i es c hes hf
      rw [Bool.and_eq_true] at hf
      have hob := hr.ok b l hl
      rw [hes] at hob
      obtain ⟨ents, hb, hEs⟩ := hob
      have hlt : l.blk < w.heap.size := (hr.ok b l hl).lt (by rw [hes]; rfl)
      have hck := keyFits_ok (w := w) hE hkey hf.1 false 9998
      have hget : (getObj l.blk).run P w = .ok (.map ents c) w := by simp [getObj, Sem.run, hb]
      have hset : ∀ o : Obj, (setObj l.blk o).run P w = .ok () { w with heap := w.heap.setIfInBounds l.blk o } := fun o => by simp [setObj, Sem.run, hb]
      have hch : ∀ (es' : List (AV × AV × Nat)) (c' : Nat) (ents' : Array MapEntry), ERels μ es' ents'.toList → HR μ (h.put b (.map es' c')).get { w with heap := w.heap.setIfInBounds l.blk (.map ents' c') } ∧ Fr μ h.get w μ (h.put b (.map es' c')).get { w with heap := w.heap.setIfInBounds l.blk (.map ents' c') } := by
        intro es' c' ents' hrel
        refine hr.change hl (by rw [hes]; rfl) rfl (fun d hd => ?_) ⟨ents', ?_, hrel⟩ rfl rfl rfl (by simp)
        · simp only [Array.getElem?_setIfInBounds]; rw [if_neg (fun e => hd e.symm)]
        · simp [hlt]
      split at hk
      · rename_i i v0 hq
        obtain ⟨res', q1, cv, rfl, hcv⟩ := findA_ok (e := etOf P kt) hr hE hself (by rw [hself] at hke; exact hke) hkey hEs hq
        unfold mapSet at hk
        obtain ⟨e, he, hk⟩ := getK_ok hk
        split at hk
        · rename_i hbeq
          have hbe := AV.beq_ok _ _ hbeq
          obtain ⟨_, hk⟩ := setK_ok hk
          rw [Hp.putK_eq] at hk
          obtain ⟨e0, p1, p2, p3, p4⟩ := hEs.get he
          rw [hbe] at p2
          obtain ⟨d1, d2⟩ := plainKey_det hf.2 hkey p2
          rw [Array.getElem?_toList] at p1
          have hkeep : (Instr.keyThatStays (((ents[i]?).map (·.key)).getD kc) kc).run P w = .ok kc w := by
            rw [p1]; simp only [Option.map_some, Option.getD_some, Instr.keyThatStays]
            rw [← d1, d2]; rfl
          have hrel := hEs.set hkey hval he
          obtain ⟨g1, g2⟩ := hch _ c (ents.modify i fun e => { e with key := kc, val := vc }) (by rw [Array.toList_modify]; exact hrel)
          refine ⟨_, _, _, hk, .skip, undef, _, μ, ?_, .inr ⟨rfl, rfl⟩, by simp [VRel], g1, g2⟩
          simp [Instr.mapUpdate, run_underlying hu, hget, hck, q1, hkeep, hset]
        · cases hk
      · rename_i hq
        obtain ⟨res', q1, q2⟩ := findA_ok (e := etOf P kt) hr hE hself (by rw [hself] at hke; exact hke) hkey hEs hq
        simp only [FRel] at q2; subst q2
        rw [appK_eq, natK_eq, Hp.putK_eq] at hk
        have hrel := hEs.push (n := c) hkey hval
        obtain ⟨g1, g2⟩ := hch _ (c + 1) (ents.push { key := kc, val := vc, born := c }) (by rw [Array.toList_push]; exact hrel)
        refine ⟨_, _, _, hk, .skip, undef, _, μ, ?_, .inr ⟨rfl, rfl⟩, by simp [VRel], g1, g2⟩
        simp [Instr.mapUpdate, run_underlying hu, hget, hck, q1, hset]
      · cases hk
    · cases hk
  · cases hk
theorem copyE_ok (hr : HR μ h.get w) {ts : Array TypeId} {t e ty : TypeId} {n : Nat} (h0 : ts[0]? = some t) (ht : P.underlying t = some (.slice e)) (hs : sizeP P e = some n) {d s : Value} (hv : VRels μ vs [d, s]) (hk : copyE n vs h x k = some r) :
    VGood P μ h w (Builtin.copy_ ts ty #[d, s]) k r := by
  unfold copyE at hk
  split at hk
  · rename_i dA sA
    simp only [VRels, List.cons.injEq] at hv
    obtain ⟨d1, r1, ⟨rfl, rfl⟩, hd, s1, r2, ⟨rfl, _⟩, hs', _⟩ := hv
    obtain ⟨nd, hk1, hdl⟩ := lenA_ok (P := P) hd hk
    obtain ⟨ns, hk2, hsl⟩ := lenA_ok (P := P) hs' hk1
    rw [natK_eq] at hk2
    obtain ⟨src, vals, hk3, hsrc, hfc⟩ := srcK_ok (P := P) hr hs' hk2
    clear hk hk1 hk2
    have hk := hk3
    clear hk3
    have hfc' := hfc w rfl
    split at hk
    · simp only [VRel] at hd; subst hd
      have hnd : nd = 0 := by have := hdl w; simp [Builtin.lenOf] at this; omega
      subst hnd
      have e0 : Nat.min ns 0 = 0 := Nat.min_zero ns
      rw [e0] at hfc' hk
      refine ⟨_, _, _, hk, .int .i64 (Int.ofNat 0), w, μ, ?_, by simp [VRel], hr, Fr.refl _ _ _⟩
      simp [Builtin.copy_, h0, run_underlying ht, hsl, run_sizeOf hs, hfc', goInt]
    · rename_i b o m
      simp only [VRel, SlRel] at hd
      obtain ⟨l, hl, rfl, a0, c0, rfl⟩ := hd
      have hnd : nd = 0 := by have := hdl w; simp [Builtin.lenOf] at this; omega
      subst hnd
      have e0 : Nat.min ns 0 = 0 := Nat.min_zero ns
      rw [e0] at hfc'
      split at hk
      · simp only [VRels] at hsrc; subst hsrc
        rw [e0] at hk
        refine ⟨_, _, _, hk, .int .i64 (Int.ofNat 0), w, μ, ?_, by simp [VRel], hr, Fr.refl _ _ _⟩
        simp [Builtin.copy_, h0, run_underlying ht, hsl, run_sizeOf hs, hfc', goInt, storeCells]
      · cases hk
    · rename_i b o m cp hne
      simp only [VRel] at hd
      obtain ⟨l, hl, hsr⟩ := hd
      have hd2 : ∃ cc, d = .slice (some ⟨l.blk, l.base + o, none⟩) m cc := by
        cases cp with
        | ex c => exact ⟨_, hsr⟩
        | op g => exact ⟨_, hsr.1⟩
        | em => exact absurd rfl hne
      obtain ⟨cc, rfl⟩ := hd2
      have hnd : nd = m := by have := hdl w; simp [Builtin.lenOf] at this; omega
      subst hnd
      obtain ⟨h', w', hk, hst, hr', hf, _⟩ := overObj_ok (P := P) hr hl hsrc hk
      refine ⟨_, _, _, hk, .int .i64 (Int.ofNat (Nat.min ns nd)), w', μ, ?_, by simp [VRel], hr', hf⟩
      simp [Builtin.copy_, h0, run_underlying ht, hsl, run_sizeOf hs, hfc', goInt, hst]
    · cases hk
  · cases hk
end
end Go.Proofs.Ytkejnhmhbmbhcaa.Eng
namespace Go.Proofs.Ytkejnhmhbmbhcaa.Eng
open Go
section
variable {β : Type} {P : Program} {μ : Inj} {w : World} {r : β} {h : Hp} {x : Bid} {vs : List AV} {k : EK β} {a : Act} {N : Nat} {t : Tm}
def TRel (μ : Inj) (N : Nat) (t : Tm) (a : Act) : Prop := a.tmps.size = N ∧ ∀ p : P3, VRel μ (t.get p) (a.tmps.getD p.toNat undef)
theorem TRel.mono {ν : Inj} (hl : Le μ ν) (ht : TRel μ N t a) : TRel ν N t a := ⟨ht.1, fun p => (ht.2 p).mono hl⟩
theorem TRel.put (ht : TRel μ N t a) {d : Nat} (hd : d < N) (hN : N ≤ 512) {v : AV} {cv : Value} (hv : VRel μ v cv) : TRel μ N (t.put (.ofNat d) v) (a.put (some d) cv) := by
  refine ⟨by simp [Act.put, ht.1], fun p => ?_⟩
  rw [Tm.get_put]
  have hdn := P3.toNat_ofNat d (by omega)
  simp only [Act.put]
  split
  · rename_i e; subst e; rw [hdn]
    simp [Array.getD_eq_getD_getElem?, ht.1, hd]; exact hv
  · rename_i e
    have hne : d ≠ p.toNat := fun e' => e (P3.toNat_inj (by rw [hdn]; exact e'.symm))
    have := ht.2 p
    rw [Array.getD_eq_getD_getElem?] at this ⊢
    rw [Array.getElem?_setIfInBounds, if_neg hne]; exact this
theorem compOpd_ok (ht : TRel μ N t a) {o : Operand} {c : COpd} (hc : compOpd o = some c) {k' : AV → Option β} (hk : evK c t k' = some r) : ∃ v, k' v = some r ∧ VRel μ v (a.eval o) := by
  unfold compOpd at hc
  split at hc
  · rename_i n
    split at hc
    · rename_i hn
      injection hc with hc; subst hc
      simp only [evK, avK_eq] at hk
      refine ⟨_, hk, ?_⟩
      have := ht.2 (.ofNat n)
      rw [P3.toNat_ofNat n hn] at this
      exact this
    · cases hc
  · rw [Option.map_eq_some_iff] at hc
    obtain ⟨v, hv, rfl⟩ := hc
    exact ⟨v, hk, toAV_ok hv μ⟩
  · injection hc with hc; subst hc
    refine ⟨_, hk, ?_⟩
    simp only [VRel, Act.eval]
    exact ⟨#[], #[], rfl, by simp [VRels], by simp [VRels]⟩
  · cases hc
theorem compOpds_ok (ht : TRel μ N t a) : ∀ {os : List Operand} {cs : List COpd}, compOpds os = some cs → ∀ {k' : List AV → Option β}, evL cs t k' = some r → ∃ vs, k' vs = some r ∧ VRels μ vs (os.map a.eval)
  | [], cs, hc, k', hk => by
    simp only [compOpds, Option.some.injEq] at hc; subst hc
    exact ⟨[], hk, by simp [VRels]⟩
  | o :: os, cs, hc, k', hk => by
    simp only [compOpds] at hc
    split at hc
    · rename_i c1 c2 h1 h2
      injection hc with hc; subst hc
      simp only [evL] at hk
      obtain ⟨v, hk, hv⟩ := compOpd_ok ht h1 hk
      obtain ⟨vs, hk, hvs⟩ := compOpds_ok ht h2 hk
      exact ⟨_, hk, by simp only [List.map_cons, VRels]; exact ⟨_, _, rfl, hv, hvs⟩⟩
    · cases hc
def OSim {β : Type} (P : Program) (μ : Inj) (h : Hp) (w : World) (o : Oper) (a : Act) (k : EK β) (r : β) : Prop :=
  ∀ next Q, (∀ v h' x' cv w' μ', k v h' x' = some r → VRel μ' v cv → HR μ' h'.get w' → Fr μ h.get w μ' h'.get w' → next (a.put o.dst cv) w') → o.wp P a w next Q
def CallOK {β : Type} (P : Program) (call : CALL β) : Prop :=
  ∀ f vs h x k r μ w (args : Array Value), HR μ h.get w → VRels μ vs args.toList → call f vs h x k = some r →
    ∃ fn, P.funcs[f]? = some fn ∧ fn.name ≠ "runtime.NumGoroutine" ∧ fn.body.isSome = true ∧
      Calls P f args w fun e w' => ∃ v h' x' cv μ', k v h' x' = some r ∧ e = .returned cv ∧ VRel μ' v cv ∧ HR μ' h'.get w' ∧ Fr μ h.get w μ' h'.get w'
theorem EGood.sim {o : Oper} (hg : EGood P μ h w (execOp a.eval o) k r) : OSim P μ h w o a k r := by
  obtain ⟨v, h', x', h1, nx, cv, w', μ', h2, h3, h4, h5, h6⟩ := hg
  intro next Q hn
  unfold Oper.wp
  rw [h2]
  rcases h3 with rfl | ⟨rfl, rfl⟩
  · exact hn _ _ _ _ _ _ h1 h4 h5 h6
  · exact hn _ _ _ _ _ _ h1 h4 h5 h6
theorem NRes.fr (hr : HR μ h.get w) {ob : Option AObj} {v : AV} {cv : Value} {w' : World} (hn : NRes μ w x ob v cv w') {k' : Hp → Bid → Option β} (hk : newK ob h x k' = some r) :
    ∃ h' x' μ', k' h' x' = some r ∧ VRel μ' v cv ∧ HR μ' h'.get w' ∧ Fr μ h.get w μ' h'.get w' := by
  obtain ⟨h1, h2, h3, hn⟩ := hn
  cases ob with
  | none =>
    obtain ⟨h4, h5⟩ := hn
    have d : Drew w w' := ⟨h4, h1, h2, h3⟩
    exact ⟨h, x, μ, hk, h5, hr.drew d, Fr.drew d⟩
  | some o =>
    obtain ⟨hl, c, ho, h4, h5, h6⟩ := hn
    simp only [newK] at hk
    obtain ⟨hx, y, hk⟩ := freshK_ok hk
    rw [Hp.putK_eq] at hk
    obtain ⟨g1, g2⟩ := hr.push hx hl h4 h1 h2 h3 c h6
    exact ⟨_, _, _, hk, h5, g1, g2⟩
theorem newK_fresh {ob : Option AObj} {k' : Hp → Bid → Option β} (hk : newK ob h x k' = some r) (ho : ob ≠ none) : h.get x = .no := by
  cases ob with
  | none => exact absurd rfl ho
  | some o => simp only [newK] at hk; exact (freshK_ok hk).1
theorem run_callFunc {f : FuncId} {fn : Func} (hf : P.funcs[f]? = some fn) (hn : fn.name ≠ "runtime.NumGoroutine") (hb : fn.body.isSome = true) (args : Array Value) (w : World) : (callFunc f args).run P w = .ok (.enter f args) w := by
  have hb' : fn.body.isNone = false := by cases hx : fn.body <;> simp_all
  simp [callFunc, hf, hn]
  intro e; rw [e] at hb; cases hb
theorem callSim {call : CALL β} (hcall : CallOK P call) (hr : HR μ h.get w) {o : Oper} {f : FuncId} {args : Array Value} (hv : VRels μ vs args.toList) (hk : call f vs h x k = some r)
    (he : ∀ fn, P.funcs[f]? = some fn → fn.name ≠ "runtime.NumGoroutine" → fn.body.isSome = true → (execOp a.eval o).run P w = .ok (.enter f args) w) : OSim P μ h w o a k r := by
  obtain ⟨fn, h1, h2, h3, h4⟩ := hcall f vs h x k r μ w args hr hv hk
  intro next Q hn
  unfold Oper.wp
  rw [he fn h1 h2 h3]
  refine h4.mono fun e w' hh => ?_
  obtain ⟨v, h', x', cv, μ', q1, rfl, q2, q3, q4⟩ := hh
  exact hn _ _ _ _ _ _ q1 q2 q3 q4
theorem resolveM_ok {t : Nat} {name : String} {f : Nat} (hf : resolveM P t name = some f) (v : Value) (w : World) (n : Nat) : (method (n + 1) t v name).run P w = .ok (f, v) w := by
  unfold resolveM at hf
  split at hf
  · cases hf
  · rename_i i hi
    split at hf
    · cases hf
    · rename_i m hm
      split at hf
      · rename_i f' pr hp hfn
        have hpe : m.path = #[] := by simpa using hp
        split at hf
        · rename_i e hu
          injection hf with hf; subst hf
          simp [method, run_typeInfo hi, hm, hpe, hfn, follow, receiverAt, run_underlying hu, Place.get]
        · cases hf
        · rename_i d hnp hu
          injection hf with hf; subst hf
          simp only [method, Sem.run_bind, run_typeInfo hi, Result.andThen_ok, hm, hpe, hfn, follow, receiverAt]
          cases d <;> first | (exact absurd rfl (hnp _)) | (simp [run_underlying hu, follow, Place.get]; done) | skip
          all_goals simp [run_underlying hu, follow, Place.get]
        · cases hf
      · cases hf
theorem oper_ok {call : CALL β} (hcall : CallOK P call) (hr : HR μ h.get w) {o : Oper} {e : EOp} {xs : List Operand} (he : compEF P o.op = some (e, xs)) (hv : VRels μ vs (xs.map a.eval)) (hk : erun P call e vs h x k = some r) : OSim P μ h w o a k r := by
  unfold compEF at he
  split at he
  · -- assign
    rename_i y ho
    injection he with he; injection he with h1 h2; subst h1 h2
    refine EGood.sim ?_
    have : execOp a.eval o = Pure.pure (.value (a.eval y)) := by unfold execOp; rw [ho]
    rw [this]; exact assignE_ok hr hv hk
  · rename_i t y z ho
    split at he
    · rename_i n hn
      injection he with he; injection he with h1 h2; subst h1 h2
      refine EGood.sim ?_
      have : execOp a.eval o = (do Instr.storeAt t (a.eval y) (a.eval z); Pure.pure .skip) := by unfold execOp; rw [ho]
      rw [this]; exact storeE_ok hr hn hv hk
    · cases he
  · rename_i t m ky v ho
    split at he
    · rename_i kt et hu
      split at he
      · cases he
      · rename_i hke
        injection he with he; injection he with h1 h2; subst h1 h2
        refine EGood.sim ?_
        have : execOp a.eval o = (do Instr.mapUpdate t (a.eval m) (a.eval ky) (a.eval v); Pure.pure .skip) := by unfold execOp; rw [ho]
        rw [this]
        have hne : keyET (etOf P kt) ≠ .no := hke
        simp only [erun, keyET_self hne] at hk
        exact mapUpdE_ok hr hu hne hv hk
    · cases he
  · rename_i t m ky v ho
    split at he
    · rename_i kt et hu
      split at he
      · cases he
      · rename_i hke
        injection he with he; injection he with h1 h2; subst h1 h2
        refine EGood.sim ?_
        have : execOp a.eval o = (do Instr.mapUpdate t (a.eval m) (a.eval ky) (a.eval v); Pure.pure .skip) := by unfold execOp; rw [ho]
        rw [this]
        have hne : keyET (etOf P kt) ≠ .no := hke
        simp only [erun, keyET_self hne] at hk
        exact mapUpdE_ok hr hu hne hv hk
    · cases he
  · rename_i b as ts ho
    have hex : execOp a.eval o = builtin b ts o.type (as.map fun | .const _ => true | _ => false) (as.map a.eval) := by unfold execOp; rw [ho]; rfl
    unfold compBuiltinE at he
    split at he
    · rename_i y z t has ht
      split at he
      · rename_i e' u hu hu1
        split at he
        · rename_i i zs hi hz hss
          split at he
          · rename_i hzl
            injection he with he; injection he with h1 h2; subst h1 h2
            refine EGood.sim ?_
            rw [hex]
            have hm : as.map a.eval = #[a.eval y, a.eval z] := by rw [← Array.toList_inj]; simp [has]
            rw [hm]
            exact (appendE_ok hr ht hu1 hu hss hi hz hzl hv hk).up
          · cases he
        · cases he
      · cases he
    · rename_i y z t has ht
      split at he
      · rename_i e' hu
        split at he
        · rename_i n hn
          injection he with he; injection he with h1 h2; subst h1 h2
          refine EGood.sim ?_
          rw [hex]
          have hm : as.map a.eval = #[a.eval y, a.eval z] := by rw [← Array.toList_inj]; simp [has]
          rw [hm]
          exact (copyE_ok hr ht hu hn hv hk).up
        · cases he
      · cases he
    · cases he
  · -- a function
    rename_i f as ts ho
    injection he with he; injection he with h1 h2; subst h1 h2
    refine callSim hcall hr (args := as.map a.eval) (by simpa using hv) hk fun fn hf hn hb => ?_
    have : execOp a.eval o = callFunc f (#[] ++ as.map a.eval ++ #[]) := by unfold execOp; rw [ho]; rfl
    rw [this, run_callFunc hf hn hb]; simp
  · -- a function's value
    rename_i f as ts hnf ho
    injection he with he; injection he with h1 h2; subst h1 h2
    simp only [erun] at hk
    unfold callVE at hk
    split at hk
    · rename_i g fa ca vs'
      rw [appK_eq, appK_eq] at hk
      simp only [List.map_cons, VRels, VRel, List.cons.injEq] at hv
      obtain ⟨v1, r1, ⟨e1, rfl⟩, ⟨fx, cx, rfl, hfx, hcx⟩, hv⟩ := hv
      refine callSim hcall hr (args := fx ++ as.map a.eval ++ cx) (by simpa using (hfx.app hv).app hcx) hk fun fn hf hn hb => ?_
      have : execOp a.eval o = (do let d ← resolve a.eval ⟨.value f, as, ts⟩ o.type; invoke d.target d.args) := by unfold execOp; rw [ho]
      rw [this]
      simp [resolve, e1, Deferred.ofValue, invoke, run_callFunc hf hn hb]
    · cases hk
  · -- a method behind an interface
    rename_i rc nm as ts ho
    injection he with he; injection he with h1 h2; subst h1 h2
    simp only [erun] at hk
    unfold invokeE at hk
    split at hk
    · rename_i t v vs'
      simp only [List.map_cons, VRels, VRel, List.cons.injEq] at hv
      obtain ⟨v1, r1, ⟨e1, rfl⟩, ⟨y, rfl, hy⟩, hv⟩ := hv
      split at hk
      · rename_i f hf0
        refine callSim hcall hr (args := #[y] ++ as.map a.eval) (by simp only [Array.toList_append, VRels]; exact ⟨y, _, by simp; rfl, hy, by simpa using hv⟩) hk fun fn hf hn hb => ?_
        have : execOp a.eval o = (do let d ← resolve a.eval ⟨.invoke rc nm, as, ts⟩ o.type; invoke d.target d.args) := by unfold execOp; rw [ho]
        rw [this]
        have hm := resolveM_ok hf0 y w (P.types.size + 99)
        have hm' : (method (P.types.size + Made.depth) t y nm).run P w = .ok (f, y) w := hm
        have hcm : (callMethod (.iface t y) nm (as.map a.eval)).run P w = .ok (.enter f (#[y] ++ as.map a.eval)) w := by
          simp only [callMethod, Sem.run_bind, run_program, Result.andThen_ok, hm', run_callFunc hf hn hb]
        simp only [resolve, e1, pure_bind, invoke]
        have h0 : (#[Value.iface t y] ++ as.map a.eval)[0]? = some (.iface t y) := by
          rw [← Array.getElem?_toList, Array.toList_append]; rfl
        have h1 : (#[Value.iface t y] ++ as.map a.eval).extract 1 (#[Value.iface t y] ++ as.map a.eval).size = as.map a.eval := by
          rw [← Array.toList_inj]; simp
          exact List.take_of_length_le (by simp)
        rw [h0, h1]
        exact hcm
      · cases hk
    · cases hk
  · cases he
end
end Go.Proofs.Ytkejnhmhbmbhcaa.Eng
namespace Go.Proofs.Ytkejnhmhbmbhcaa.Eng
open Go
section
variable {β : Type} {P : Program} {r : β} {N : Nat}
structure SRel (μ : Inj) (N : Nat) (t : Tm) (h : Hp) (a : Act) (w : World) : Prop where
  tm : TRel μ N t a
  hp : HR μ h.get w
  df : a.defers = []
def Step (P : Program) (ops : Array Oper) (o : Oper) (a : Act) (w : World) (next : Act → World → Prop) (Q : Exit → Act → World → Prop) : Prop :=
  if Region.wanted o (yielded ops a.tmps) then o.wp P a w next Q ∨ (o.asks P a w ∧ LetsOut Q) else next (a.put o.dst undef) w
theorem dst_ok {μ : Inj} {t : Tm} {a : Act} (hN : N ≤ 512) (ht : TRel μ N t a) {d : Option Nat} {p : Option P3} (hd : compDst N d = some p) {v : AV} {cv : Value} (hv : VRel μ v cv) {k' : Tm → Option β} (hk : dstK p v t k' = some r) :
    ∃ t', k' t' = some r ∧ TRel μ N t' (a.put d cv) ∧ (a.put d cv).defers = a.defers := by
  cases d with
  | none =>
    simp only [compDst, Option.some.injEq] at hd; subst hd
    exact ⟨t, hk, ht, rfl⟩
  | some d =>
    simp only [compDst] at hd
    split at hd
    · rename_i hlt
      injection hd with hd; subst hd
      simp only [dstK, Tm.putK_eq] at hk
      exact ⟨_, hk, ht.put hlt hN hv, rfl⟩
    · cases hd
theorem guard_ok {μ : Inj} {t : Tm} {a : Act} (hN : N ≤ 512) (ht : TRel μ N t a) {ops : Array Oper} {o : Oper} {g : Option (P3 × Bool)} (hg : compGuard ops N o.guard = some g) {yes no : Option β} (hk : guardK g t yes no = some r) :
    (Region.wanted o (yielded ops a.tmps) = true ∧ yes = some r) ∨ (Region.wanted o (yielded ops a.tmps) = false ∧ no = some r) := by
  cases hgo : o.guard with
  | none =>
    rw [hgo] at hg
    simp only [compGuard, Option.some.injEq] at hg; subst hg
    exact .inl ⟨by simp [Region.wanted, hgo], hk⟩
  | some jb =>
    obtain ⟨j, b⟩ := jb
    rw [hgo] at hg
    simp only [compGuard] at hg
    split at hg
    · rename_i o' ho'
      split at hg
      · rename_i d hd
        split at hg
        · rename_i hlt
          injection hg with hg; subst hg
          have hv := ht.2 (.ofNat d)
          rw [P3.toNat_ofNat d (Nat.lt_of_lt_of_le hlt hN), Array.getD_eq_getD_getElem?] at hv
          have hsome : ∃ y, a.tmps[d]? = some y := ⟨a.tmps[d]'(by rw [ht.1]; exact hlt), by simp [ht.1, hlt]⟩
          obtain ⟨y, hy⟩ := hsome
          rw [hy] at hv
          simp only [Option.getD_some] at hv
          have hyl : yielded ops a.tmps j = match y with | .bool b => some b | _ => none := by
            simp only [yielded, ho', Option.bind_some, hd, hy]
            cases y <;> rfl
          simp only [guardK] at hk
          split at hk
          · rename_i bb hbb
            rw [hbb] at hv
            simp only [VRel] at hv; subst hv
            split at hk
            · rename_i e
              left; refine ⟨?_, hk⟩
              simp only [Region.wanted, hgo, hyl]; simpa using e
            · rename_i e
              right; refine ⟨?_, hk⟩
              simp only [Region.wanted, hgo, hyl]; simpa using e
          · rename_i bb gg hbb
            rw [hbb] at hv
            simp only [VRel] at hv; subst hv
            split at hk
            · rcases symFork_ok hk with ⟨e, hk⟩ | ⟨e, hk⟩
              · left; refine ⟨?_, hk⟩
                simp only [Region.wanted, hgo, hyl]; simpa using e
              · right; refine ⟨?_, hk⟩
                simp only [Region.wanted, hgo, hyl]; simpa using e
            · rcases symFork_ok hk with ⟨e, hk⟩ | ⟨e, hk⟩
              · right; refine ⟨?_, hk⟩
                simp only [Region.wanted, hgo, hyl]; simpa using e
              · left; refine ⟨?_, hk⟩
                simp only [Region.wanted, hgo, hyl]; simpa using e
          · rename_i l hl
            rw [hl] at hv
            simp only [VRel] at hv; obtain ⟨cs, rfl, _⟩ := hv
            right; refine ⟨?_, hk⟩
            simp only [Region.wanted, hgo, hyl]; rfl
          · cases hk
        · cases hg
      · cases hg
    · cases hg
theorem normP_ok {μ : Inj} {t : Tm} {a : Act} (ht : TRel μ N t a) {p : P3} {k : Tm → Option β} (hk : normP p t k = some r) : ∃ t', TRel μ N t' a ∧ k t' = some r := by
  unfold normP normV at hk
  split at hk
  · rename_i b g hb
    have hv := ht.2 p
    rw [hb] at hv
    simp only [VRel] at hv
    have key : ∀ v : AV, VRel μ v (.bool b) → TRel μ N (t.put p v) a := by
      intro v hvv
      refine ⟨ht.1, fun q => ?_⟩
      rw [Tm.get_put]
      split
      · rename_i e; subst e; rw [hv]; exact hvv
      · exact ht.2 q
    rcases symFork_ok hk with ⟨e, h1⟩ | ⟨e, h1⟩
    · rw [Tm.putK_eq] at h1; exact ⟨_, key (.bool true) (by simp only [VRel, e]), h1⟩
    · rw [Tm.putK_eq] at h1; exact ⟨_, key (.bool false) (by simp only [VRel, e]), h1⟩
  · exact ⟨t, ht, hk⟩
theorem normZ_ok {μ : Inj} {t : Tm} {a : Act} (ht : TRel μ N t a) {p : P3} {k : Tm → Option β} (hk : normZ p t k = some r) : ∃ t', TRel μ N t' a ∧ k t' = some r := by
  unfold normZ normZV at hk
  split at hk
  · rename_i kd n g hb
    have hv := ht.2 p
    rw [hb] at hv
    simp only [VRel] at hv
    rcases symFork_ok hk with ⟨e, h1⟩ | ⟨e, h1⟩
    · cases h1
    · rw [Tm.putK_eq] at h1
      refine ⟨_, ⟨ht.1, fun q => ?_⟩, h1⟩
      rw [Tm.get_put]
      split
      · rename_i e'; subst e'; rw [hv]; simp only [VRel]; exact ⟨trivial, of_decide_eq_false e⟩
      · exact ht.2 q
  · exact ⟨t, ht, hk⟩
theorem normS_ok {μ : Inj} {a : Act} {p : P3} : ∀ {l : List DIt} {t : Tm} {k : Tm → Option β}, TRel μ N t a → normS p l t k = some r → ∃ t', TRel μ N t' a ∧ k t' = some r
  | [], t, k, ht, hk => normZ_ok ht hk
  | .ne i o op last :: l, t, k, ht, hk => by
    simp only [normS] at hk
    split at hk
    · obtain ⟨t1, ht1, hk⟩ := normZ_ok ht hk
      exact normS_ok ht1 hk
    · exact normS_ok ht hk
  | .eff i o op :: l, t, k, ht, hk => by
    simp only [normS] at hk
    exact normS_ok ht hk
theorem normD_ok {μ : Inj} {a : Act} {all : List DIt} : ∀ {l : List DIt} {t : Tm} {k : Tm → Option β}, TRel μ N t a → normD all l t k = some r → ∃ t', TRel μ N t' a ∧ k t' = some r
  | [], t, k, ht, hk => ⟨t, ht, hk⟩
  | .ne i o op last :: l, t, k, ht, hk => by
    simp only [normD] at hk
    split at hk
    · obtain ⟨t1, ht1, hk⟩ := normS_ok ht hk
      exact normD_ok ht1 hk
    · exact normD_ok ht hk
  | .eff i o op :: l, t, k, ht, hk => by
    simp only [normD] at hk
    exact normD_ok ht hk
theorem normG_ok {μ : Inj} {t : Tm} {a : Act} (ht : TRel μ N t a) {g : Option (P3 × Bool)} {k : Tm → Option β} (hk : normG g t k = some r) : ∃ t', TRel μ N t' a ∧ k t' = some r := by
  cases g with
  | none => exact ⟨t, ht, hk⟩
  | some q => exact normP_ok ht hk
theorem normC_ok {μ : Inj} {t : Tm} {a : Act} (ht : TRel μ N t a) {c : COpd} {k : Tm → Option β} (hk : normC c t k = some r) : ∃ t', TRel μ N t' a ∧ k t' = some r := by
  cases c with
  | cst v => exact ⟨t, ht, hk⟩
  | tmp p => exact normP_ok ht hk
theorem opRun_ok {call : CALL β} (hcall : CallOK P call) {μ : Inj} {h : Hp} {w : World} {x : Bid} {vs : List AV} {k : EK β} {a : Act} (hr : HR μ h.get w) {o : Oper} {co : COp} {xs : List Operand}
    (hc : (∃ e, compEF P o.op = some (e, xs) ∧ co = .eff e) ∨ (co = .ne (compNE P o.op).1 ∧ xs = (compNE P o.op).2)) (hv : VRels μ vs (xs.map a.eval)) (hk : opRun P call co vs h x k = some r) : OSim P μ h w o a k r := by
  rcases hc with ⟨e, he, rfl⟩ | ⟨rfl, rfl⟩
  · exact oper_ok hcall hr he hv hk
  · simp only [opRun] at hk
    obtain ⟨v, ob, h1, cv, w', h2, h3⟩ := nrun_ok (P := P) (x := x) hr (fun v o hvo => hr.fresh (newK_fresh hvo (by simp))) (fun _ => rfl) (fun _ => rfl) hv hk
    obtain ⟨h', x', μ', q1, q2, q3, q4⟩ := h3.fr hr h1
    intro next Q hn
    unfold Oper.wp
    rw [h2]
    exact hn _ _ _ _ _ _ q1 q2 q3 q4
theorem operK_ok (hN : N ≤ 512) {call : CALL β} (hcall : CallOK P call) {ops : Array Oper} {o : Oper} {co : COper} (hc : compOper P N ops o = some co) {μ : Inj} {t : Tm} {h : Hp} {x : Bid} {a : Act} {w : World} (hs : SRel μ N t h a w) {k : KT β} (hk : operK P call co t h x k = some r)
    (next : Act → World → Prop) (Q : Exit → Act → World → Prop) (hn : ∀ t' h' x' a' w' μ', k t' h' x' = some r → SRel μ' N t' h' a' w' → Fr μ h.get w μ' h'.get w' → next a' w') : Step P ops o a w next Q := by
  unfold compOper at hc
  split at hc
  · rename_i d g hd hg
    have key : ∀ (op : COp) (xs : List Operand) (as : List COpd), compOpds xs = some as → ((∃ e, compEF P o.op = some (e, xs) ∧ op = .eff e) ∨ (op = .ne (compNE P o.op).1 ∧ xs = (compNE P o.op).2) ∨ (op = .ne .bad)) → co = ⟨d, g, op, as⟩ → Step P ops o a w next Q := by
      intro op xs as has hop hco
      subst hco
      unfold operK at hk
      unfold Step
      rcases guard_ok hN hs.tm hg hk with ⟨hw, hk⟩ | ⟨hw, hk⟩
      · rw [if_pos hw]; left
        obtain ⟨vs, hk, hvs⟩ := compOpds_ok hs.tm has hk
        have hsim : OSim P μ h w o a (fun v h x => dstK d v t fun t => k t h x) r := by
          rcases hop with hop | hop | rfl
          · exact opRun_ok hcall hs.hp (.inl hop) hvs hk
          · exact opRun_ok hcall hs.hp (.inr hop) hvs hk
          · simp [opRun, nrun, badF] at hk
        refine hsim next Q fun v h' x' cv w' μ' hkv hv hr' hf => ?_
        obtain ⟨t', hk', ht', hdf⟩ := dst_ok hN (hs.tm.mono hf.le) hd hv hkv
        exact hn _ _ _ _ _ _ hk' ⟨ht', hr', by rw [hdf]; exact hs.df⟩ hf
      · rw [hw]
        simp only [Bool.false_eq_true, if_false]
        obtain ⟨t', hk', ht', hdf⟩ := dst_ok hN hs.tm hd (v := .tup []) (cv := undef) (by simp only [VRel]; exact ⟨#[], rfl, by simp [VRels]⟩) hk
        exact hn _ _ _ _ _ _ hk' ⟨ht', hs.hp, by rw [hdf]; exact hs.df⟩ (Fr.refl _ _ _)
    split at hc
    · rename_i e xs he
      split at hc
      · rename_i as has
        injection hc with hc
        exact key _ xs as has (.inl ⟨e, he, rfl⟩) hc.symm
      · injection hc with hc
        exact key _ [] [] rfl (.inr (.inr rfl)) hc.symm
    · rename_i he
      split at hc
      · rename_i as has
        injection hc with hc
        exact key _ _ as has (.inr (.inl ⟨rfl, rfl⟩)) hc.symm
      · injection hc with hc
        exact key _ [] [] rfl (.inr (.inr rfl)) hc.symm
  · cases hc
theorem wpOps_cons {ops : Array Oper} {i : Nat} {o : Oper} (ho : ops[i]? = some o) {rest : List Nat} {a : Act} {w : World} {Q : Exit → Act → World → Prop} (hs : Step P ops o a w (wpOps P ops Q rest) Q) : wpOps P ops Q (i :: rest) a w := by
  simp only [wpOps, ho]; exact hs
theorem regsK_ok (hN : N ≤ 512) {call : CALL β} (hcall : CallOK P call) {ops : Array Oper} {Q : Exit → Act → World → Prop} : ∀ (l : List Oper) (cs : List COper) (i : Nat), ops.toList.drop i = l → compOpers P N ops l = some cs → ∀ {μ : Inj} {t : Tm} {h : Hp} {x : Bid} {a : Act} {w : World} {k : KT β},
    SRel μ N t h a w → regsK P call cs t h x k = some r → (∀ t' h' x' a' w' μ', k t' h' x' = some r → SRel μ' N t' h' a' w' → Fr μ h.get w μ' h'.get w' → Q .normal a' w') → wpOps P ops Q (List.range' i l.length) a w
  | [], cs, i, hl, hc, μ, t, h, x, a, w, k, hs, hk, hn => by
    simp only [compOpers, Option.some.injEq] at hc; subst hc
    exact hn _ _ _ _ _ _ hk hs (Fr.refl _ _ _)
  | o :: l, cs, i, hl, hc, μ, t, h, x, a, w, k, hs, hk, hn => by
    simp only [compOpers] at hc
    split at hc
    · rename_i c1 c2 h1 h2
      injection hc with hc; subst hc
      have ho : ops[i]? = some o := by
        have := congrArg (·[0]?) hl
        simp only [List.getElem?_drop, Nat.add_zero, List.getElem?_cons_zero, Array.getElem?_toList] at this
        exact this
      have hl' : ops.toList.drop (i + 1) = l := by
        have := congrArg (·.drop 1) hl
        simpa [List.drop_drop, Nat.add_comm] using this
      simp only [List.length_cons, List.range'_succ]
      simp only [regsK] at hk
      obtain ⟨t1, ht1, hk⟩ := normG_ok hs.tm hk
      have hs : SRel μ N t1 h a w := ⟨ht1, hs.hp, hs.df⟩
      refine wpOps_cons ho (operK_ok hN hcall h1 hs hk _ _ fun t' h' x' a' w' μ' hk' hs' hf => ?_)
      exact regsK_ok hN hcall l c2 (i + 1) hl' h2 hs' hk' fun t2 h2 x2 a2 w2 μ2 hk2 hs2 hf2 => hn _ _ _ _ _ _ hk2 hs2 (hf.trans hf2)
    · cases hc
end
end Go.Proofs.Ytkejnhmhbmbhcaa.Eng
namespace Go.Proofs.Ytkejnhmhbmbhcaa.Eng
open Go
def exOf : Ex → Exit
  | .nrm => .normal
  | .ext id => .exit id
  | .ret => .ret
def RegDOK (β : Type) (P : Program) : Prop := ∀ (call : CALL β) (N : Nat) (ops : Array Oper), N ≤ 512 → CallOK P call → ∀ its, compD P N ops = .regD its → ∀ {μ : Inj} {t : Tm} {h : Hp} {x : Bid} {a : Act} {w : World} {k : KT β} {r : β} {Q : Exit → Act → World → Prop} {id : Nat},
  SRel μ N t h a w → runD P call its 0 [] t h x k = some r → (∀ t' h' x' a' w' μ', k t' h' x' = some r → SRel μ' N t' h' a' w' → Fr μ h.get w μ' h'.get w' → Q .normal a' w') → (Code.region id ops true).wp P Q a w
section
variable {β : Type} {P : Program} {r : β}
def LoopWp (P : Program) (c : Code) (Q : Exit → Act → World → Prop) (a : Act) (w : World) : Prop :=
  ∀ (b : Frame) (k : List Item) (cs : List Frame), ∃ e a' w', Q e a' w' ∧ Arrives P (lone (b.at a (.code c :: .inLoop c :: k)) cs w) b k cs e a' w'
theorem loop_of {c : Code} {Q : Exit → Act → World → Prop} {a : Act} {w : World} (h : LoopWp P c Q a w) : (Code.loop c).wp P Q a w :=
  fun b k cs => let ⟨e, a', w', q, s⟩ := h b k cs; ⟨e, a', w', q, .of_steps (.one step_loop) s⟩
theorem loop_round {c : Code} {Q : Exit → Act → World → Prop} {a : Act} {w : World} (h : c.wp P (Exit.then (LoopWp P c Q) Q) a w) : LoopWp P c Q a w := by
  intro b k cs
  obtain ⟨e, a₁, w₁, hq, harr⟩ := h b (.inLoop c :: k) cs
  cases e with
  | normal =>
    obtain ⟨e₂, a₂, w₂, hq₂, harr₂⟩ := hq b k cs
    exact ⟨e₂, a₂, w₂, hq₂, .of_steps (Steps.trans harr (.one step_inLoop)) harr₂⟩
  | exit id => exact ⟨_, a₁, w₁, hq, .pass (x := .inLoop c) rfl (fun _ _ => .inl (by simp)) harr⟩
  | goto l => exact ⟨_, a₁, w₁, hq, .pass (x := .inLoop c) rfl (fun _ _ => .inl (by simp)) harr⟩
  | ret => exact ⟨_, a₁, w₁, hq, .pass (x := .inLoop c) rfl (fun _ _ => .inl (by simp)) harr⟩
  | panic ch => exact ⟨_, a₁, w₁, hq, .pass (x := .inLoop c) rfl (fun _ _ => .inl (by simp)) harr⟩
  | outgrown => exact ⟨_, a₁, w₁, hq, .pass (x := .inLoop c) rfl (fun _ _ => .inl (by simp)) harr⟩
def ExecOK (β : Type) (P : Program) (T : CALL β → CALL β) (n : Nat) : Prop := ∀ N, N ≤ 512 → ∀ (code : Code) (μ : Inj) (t : Tm) (h : Hp) (x : Bid) (a : Act) (w : World) (k : KX β) (r : β) (Q : Exit → Act → World → Prop),
  SRel μ N t h a w → execT P T n (compC P N code) t h x k = some r → (∀ e t' h' x' a' w' μ', k e t' h' x' = some r → SRel μ' N t' h' a' w' → Fr μ h.get w μ' h'.get w' → Q (exOf e) a' w') → code.wp P Q a w
def LoopOK (β : Type) (P : Program) (T : CALL β → CALL β) (n : Nat) : Prop := ∀ N, N ≤ 512 → ∀ (code : Code) (μ : Inj) (t : Tm) (h : Hp) (x : Bid) (a : Act) (w : World) (k : KX β) (r : β) (Q : Exit → Act → World → Prop),
  SRel μ N t h a w → execT P T n (.loop (compC P N code)) t h x k = some r → (∀ e t' h' x' a' w' μ', k e t' h' x' = some r → SRel μ' N t' h' a' w' → Fr μ h.get w μ' h'.get w' → Q (exOf e) a' w') → LoopWp P code Q a w
theorem putAll_ok : ∀ (vs : List AV) (i : Nat) (t : Tm) (k' : Tm → Option β), putAll vs i t k' = some r → i + vs.length ≤ 512 → ∃ t', k' t' = some r ∧ ∀ p : P3, t'.get p = if i ≤ p.toNat ∧ p.toNat < i + vs.length then vs.getD (p.toNat - i) .un else t.get p
  | [], i, t, k', hk, hl => ⟨t, hk, fun p => by rw [if_neg (by simp)]⟩
  | v :: vs, i, t, k', hk, hl => by
    simp only [putAll, Tm.putK_eq, natK_eq] at hk
    simp only [List.length_cons] at hl
    obtain ⟨t', h1, h2⟩ := putAll_ok vs (i + 1) _ k' hk (by omega)
    refine ⟨t', h1, fun p => ?_⟩
    rw [h2 p, Tm.get_put]
    have hi := P3.toNat_ofNat i (by omega)
    simp only [List.length_cons]
    by_cases e : p = .ofNat i
    · subst e
      rw [hi, if_neg (by omega), if_pos rfl, if_pos (by omega)]; simp
    · have hne : p.toNat ≠ i := fun e' => e (P3.toNat_inj (by rw [hi]; exact e'))
      rw [if_neg e]
      by_cases e2 : i + 1 ≤ p.toNat ∧ p.toNat < i + 1 + vs.length
      · rw [if_pos e2, if_pos (by omega)]
        obtain ⟨j, hj⟩ : ∃ j, p.toNat = i + 1 + j := ⟨p.toNat - (i + 1), by omega⟩
        rw [hj, show i + 1 + j - (i + 1) = j by omega, show i + 1 + j - i = j + 1 by omega]; simp
      · rw [if_neg e2, if_neg (by omega)]
def resVar (tmps : Array Value) : ResultVar → Sem Value
  | .tmp t => pure (tmps.getD t undef)
  | .cell p ty => do loadVar ty (← asAddr (tmps.getD p undef))
def oneV (vs : Array Value) : Value := if h : vs.size = 1 then vs[0] else .tuple vs
theorem resK_ok {N : Nat} (hN : N ≤ 512) {μ : Inj} {t : Tm} {h : Hp} {a : Act} {w : World} (hs : SRel μ N t h a w) : ∀ (rs : List ResultVar) (cs : List RV), compRes P N rs = some cs → ∀ (k' : List AV → Option β), resK cs t h k' = some r →
    ∃ vs vals, k' vs = some r ∧ VRels μ vs vals ∧ (rs.mapM (resVar a.tmps)).run P w = .ok vals w
  | [], cs, hc, k', hk => by
    simp only [compRes, Option.some.injEq] at hc; subst hc
    exact ⟨[], [], hk, by simp [VRels], by simp⟩
  | .tmp n :: rs, cs, hc, k', hk => by
    simp only [compRes] at hc
    split at hc
    · rename_i cr hcr
      split at hc
      · rename_i hn
        injection hc with hc; subst hc
        simp only [resK, avK_eq] at hk
        obtain ⟨vs, vals, h1, h2, h3⟩ := resK_ok hN hs rs cr hcr _ hk
        have hv := hs.tm.2 (.ofNat n)
        rw [P3.toNat_ofNat n (Nat.lt_of_lt_of_le hn hN)] at hv
        refine ⟨_, a.tmps.getD n undef :: vals, h1, by simp only [VRels]; exact ⟨_, _, rfl, hv, h2⟩, ?_⟩
        simp only [List.mapM_cons, resVar, Sem.run_bind, Sem.run_pure, Result.andThen_ok, h3]
      · cases hc
    · cases hc
  | .cell n ty :: rs, cs, hc, k', hk => by
    simp only [compRes] at hc
    split at hc
    · rename_i cr g hcr hg
      split at hc
      · rename_i hn
        injection hc with hc; subst hc
        simp only [resK] at hk
        split at hk
        · rename_i b o hp
          have hv := hs.tm.2 (.ofNat n)
          rw [P3.toNat_ofNat n (Nat.lt_of_lt_of_le hn hN), hp] at hv
          simp only [VRel] at hv
          obtain ⟨l, hl, hv⟩ := hv
          obtain ⟨c, hkn, hk⟩ := knownK_ok hk
          have hat := (hs.hp.ok b l hl).at hkn
          obtain ⟨v, cv, hk, hrun, hrel⟩ := run_loadVar_at hg hat hk
          obtain ⟨vs, vals, h1, h2, h3⟩ := resK_ok hN hs rs cr hcr _ hk
          refine ⟨_, cv :: vals, h1, by simp only [VRels]; exact ⟨_, _, rfl, hrel, h2⟩, ?_⟩
          simp only [List.mapM_cons, resVar, Sem.run_bind, hv, asAddr, Sem.run_pure, Result.andThen_ok, hrun, h3]
        · cases hk
      · cases hc
    · cases hc
theorem oneK_ok {μ : Inj} {vs : List AV} {vals : List Value} (hv : VRels μ vs vals) {k' : AV → Option β} (hk : oneK vs k' = some r) : ∃ v, k' v = some r ∧ VRel μ v (oneV vals.toArray) := by
  have hl := hv.length
  unfold oneK at hk
  split at hk
  · simp only [VRels] at hv
    obtain ⟨v1, r1, rfl, hv, rfl⟩ := hv
    exact ⟨_, hk, by simpa [oneV] using hv⟩
  · rename_i hne
    refine ⟨_, hk, ?_⟩
    unfold oneV
    rw [dif_neg]
    · simp only [VRel]; exact ⟨_, rfl, hv⟩
    · intro h1
      have : vs.length = 1 := by simpa [hl] using h1
      obtain ⟨v, rfl⟩ := List.length_eq_one_iff.1 this
      exact hne v rfl
theorem run_results {fn : Func} {tmps : Array Value} {w : World} {vals : List Value} (h : (fn.results.toList.mapM (resVar tmps)).run P w = .ok vals w) :
    (results fn tmps).run P w = .ok (oneV vals.toArray) w := by
  have e : results fn tmps = (do let vs ← fn.results.mapM (resVar tmps); pure (oneV vs)) := by
    unfold results oneV
    congr 1
  rw [e, Array.mapM_eq_mapM_toList]
  simp [h]
def TabOK (P : Program) (T : CALL β → CALL β) : Prop := ∀ call, CallOK P call → CallOK P (T call)
theorem callOf_ok {T : CALL β → CALL β} {n : Nat} (hex : ExecOK β P T n) : CallOK P (callOf P (execT (β := β) P T n)) := by
  intro f vs h x k r μ w args hr hv hk
  unfold callOf at hk
  split at hk
  · rename_i cf hcf
    unfold compFun at hcf
    split at hcf
    · cases hcf
    · rename_i fn hfn
      split at hcf
      · rename_i c rs hb hrs
        split at hcf
        · rename_i hc
          injection hcf with hcf; subst hcf
          obtain ⟨hN, hname⟩ := hc
          refine ⟨fn, hfn, hname, by rw [hb]; rfl, calls_of_wp hfn hb ?_⟩
          simp only [runFun] at hk
          split at hk
          · rename_i hle; rw [Nat.ble_eq] at hle
            obtain ⟨t', hk, ht'⟩ := putAll_ok vs 0 e3 _ hk (by omega)
            have hlen : vs.length = args.size := by simpa using hv.length
            have hs : SRel μ fn.ntmps t' h { tmps := args ++ Array.replicate (fn.ntmps - args.size) undef, defers := [] } w := by
              refine ⟨⟨by simp; omega, fun p => ?_⟩, hr, rfl⟩
              rw [ht' p, e3_get]
              by_cases hp : p.toNat < vs.length
              · rw [if_pos (by omega)]
                have hget : vs[p.toNat]? = some (vs.getD (p.toNat - 0) .un) := by simp [hp]
                obtain ⟨y, hy, hrel⟩ := hv.get hget
                rw [Array.getElem?_toList] at hy
                have : (args ++ Array.replicate (fn.ntmps - args.size) undef).getD p.toNat undef = y := by
                  rw [Array.getD_eq_getD_getElem?, Array.getElem?_append, if_pos (by omega), hy]; rfl
                simp only at this ⊢
                rw [this]; exact hrel
              · rw [if_neg (by omega)]; simp [VRel]
            refine hex fn.ntmps hN c μ t' h x _ w _ r _ hs hk fun e t2 h2 x2 a2 w2 μ2 hk2 hs2 hf2 => ?_
            have hfin : e ≠ .ext (match e with | .ext i => i | _ => 0) → ∃ (vs2 : List AV) (vals : List Value), (oneK vs2 fun v => k v h2 x2) = some r ∧ VRels μ2 vs2 vals ∧ (results fn a2.tmps).run P w2 = .ok (oneV vals.toArray) w2 := by
              intro hne
              cases e with
              | ext i => exact absurd rfl hne
              | nrm => obtain ⟨vs2, vals, q1, q2, q3⟩ := resK_ok hN hs2 _ _ hrs _ hk2; exact ⟨vs2, vals, q1, q2, run_results q3⟩
              | ret => obtain ⟨vs2, vals, q1, q2, q3⟩ := resK_ok hN hs2 _ _ hrs _ hk2; exact ⟨vs2, vals, q1, q2, run_results q3⟩
            cases e with
            | ext i => cases hk2
            | nrm =>
              obtain ⟨vs2, vals, q1, q2, q3⟩ := hfin (by simp)
              obtain ⟨v, q4, q5⟩ := oneK_ok q2 q1
              exact ⟨hs2.df, _, q3, v, h2, x2, _, μ2, q4, rfl, q5, hs2.hp, hf2⟩
            | ret =>
              obtain ⟨vs2, vals, q1, q2, q3⟩ := hfin (by simp)
              obtain ⟨v, q4, q5⟩ := oneK_ok q2 q1
              exact ⟨hs2.df, _, q3, v, h2, x2, _, μ2, q4, rfl, q5, hs2.hp, hf2⟩
          · cases hk
        · cases hcf
      · cases hcf
  · cases hk
theorem exec_step {T : CALL β → CALL β} {n : Nat} (hT : TabOK P T) (hD : RegDOK β P) (hex : ExecOK β P T n) (hlp : LoopOK β P T n) : ExecOK β P T (n + 1) := by
  intro N hN code μ t h x a w k r Q hs hk hn
  have hcall := hT _ (callOf_ok hex)
  cases code with
  | skip => exact wp_skip (hn .nrm _ _ _ _ _ _ hk hs (Fr.refl _ _ _))
  | label l => exact wp_label (hn .nrm _ _ _ _ _ _ hk hs (Fr.refl _ _ _))
  | region id ops d =>
    cases d with
    | false =>
      simp only [compC] at hk
      split at hk
      · rename_i l hl
        refine wp_region ?_
        rw [List.range_eq_range']
        have := regsK_ok hN hcall ops.toList l 0 (by simp) hl (Q := Q) hs hk fun t' h' x' a' w' μ' hk' hs' hf' => hn .nrm _ _ _ _ _ _ hk' hs' hf'
        simpa using this
      · cases hk
    | true =>
      simp only [compC] at hk
      cases hD' : compD P N ops with
      | regD its =>
        rw [hD'] at hk
        obtain ⟨t1, ht1, hk⟩ := normD_ok hs.tm hk
        have hs : SRel μ N t1 h a w := ⟨ht1, hs.hp, hs.df⟩
        exact hD _ N ops hN hcall its hD' hs hk fun t' h' x' a' w' μ' hk' hs' hf' => hn .nrm _ _ _ _ _ _ hk' hs' hf'
      | bad => rw [hD'] at hk; cases hk
      | _ =>
        unfold compD at hD'
        split at hD'
        · split at hD' <;> cases hD'
        · cases hD'
  | seq x1 y1 =>
    simp only [compC] at hk
    refine wp_seq (hex N hN x1 μ t h x a w _ r _ hs hk fun e t' h' x' a' w' μ' hk' hs' hf' => ?_)
    cases e with
    | nrm => exact hex N hN y1 μ' t' h' x' a' w' _ r _ hs' hk' fun e2 t2 h2 x2 a2 w2 μ2 hk2 hs2 hf2 => hn _ _ _ _ _ _ _ hk2 hs2 (hf'.trans hf2)
    | ext id => exact hn (.ext id) _ _ _ _ _ _ hk' hs' hf'
    | ret => exact hn .ret _ _ _ _ _ _ hk' hs' hf'
  | cond c x1 y1 =>
    simp only [compC] at hk
    split at hk
    · rename_i c' hc'
      obtain ⟨t1, ht1, hk⟩ := normC_ok hs.tm hk
      have hs : SRel μ N t1 h a w := ⟨ht1, hs.hp, hs.df⟩
      obtain ⟨v, hk, hv⟩ := compOpd_ok hs.tm hc' hk
      unfold condK at hk
      split at hk
      · simp only [VRel] at hv
        exact wp_cond_true hv (hex N hN x1 μ t1 h x a w _ r _ hs hk hn)
      · simp only [VRel] at hv
        exact wp_cond_false hv (hex N hN y1 μ t1 h x a w _ r _ hs hk hn)
      · simp only [VRel] at hv
        rcases symFork_ok hk with ⟨e, hk'⟩ | ⟨e, hk'⟩
        · rw [e] at hv; exact wp_cond_true hv (hex N hN x1 μ t1 h x a w _ r _ hs hk' hn)
        · rw [e] at hv; exact wp_cond_false hv (hex N hN y1 μ t1 h x a w _ r _ hs hk' hn)
      · cases hk
    · cases hk
  | block id c =>
    simp only [compC] at hk
    refine wp_block (hex N hN c μ t h x a w _ r _ hs hk fun e t' h' x' a' w' μ' hk' hs' hf' => ?_)
    cases e with
    | nrm => exact hn .nrm _ _ _ _ _ _ hk' hs' hf'
    | ext j =>
      simp only [blockK] at hk'
      cases hj : Nat.beq j id with
      | true =>
        rw [hj] at hk'
        rw [Nat.beq_eq] at hj; subst hj
        simp only [exOf, Exit.inBlock, if_true]
        exact hn .nrm _ _ _ _ _ _ hk' hs' hf'
      | false =>
        rw [hj] at hk'
        have hne : j ≠ id := fun e' => by rw [← Nat.beq_eq] at e'; rw [e'] at hj; cases hj
        simp only [exOf, Exit.inBlock, hne, if_false]
        exact hn (.ext j) _ _ _ _ _ _ hk' hs' hf'
    | ret => exact hn .ret _ _ _ _ _ _ hk' hs' hf'
  | loop c =>
    simp only [compC] at hk
    refine loop_of (loop_round (hex N hN c μ t h x a w _ r _ hs hk fun e t' h' x' a' w' μ' hk' hs' hf' => ?_))
    cases e with
    | nrm => exact hlp N hN c μ' t' h' x' a' w' _ r _ hs' hk' fun e2 t2 h2 x2 a2 w2 μ2 hk2 hs2 hf2 => hn _ _ _ _ _ _ _ hk2 hs2 (hf'.trans hf2)
    | ext id => exact hn (.ext id) _ _ _ _ _ _ hk' hs' hf'
    | ret => exact hn .ret _ _ _ _ _ _ hk' hs' hf'
  | exit id => exact wp_exit (hn (.ext id) _ _ _ _ _ _ hk hs (Fr.refl _ _ _))
  | ret => exact wp_ret (hn .ret _ _ _ _ _ _ hk hs (Fr.refl _ _ _))
  | scope c =>
    simp only [compC] at hk
    refine wp_scope_straight ?_
    have hk2 : execT P T n (compC P N c) t h x k = some r := by
      have h1 : execT P T n .skip t h x (seqK (execT P T n) (compC P N c) k) = some r := hk
      cases n with
      | zero => cases h1
      | succ n => exact h1
    refine hex N hN c μ t h x a w _ r _ hs hk2 fun e t' h' x' a' w' μ' hk' hs' hf' => ?_
    cases e with
    | nrm => exact hn .nrm _ _ _ _ _ _ hk' hs' hf'
    | ext j => exact hn (.ext j) _ _ _ _ _ _ hk' hs' hf'
    | ret => exact hn .ret _ _ _ _ _ _ hk' hs' hf'
  | rangeFunc f ps as bd => cases hk
  | goto l => cases hk
  | refuse s => cases hk
theorem loop_step {T : CALL β → CALL β} {n : Nat} (hex : ExecOK β P T n) (hlp : LoopOK β P T n) : LoopOK β P T (n + 1) := by
  intro N hN c μ t h x a w k r Q hs hk hn
  refine loop_round (hex N hN c μ t h x a w _ r _ hs hk fun e t' h' x' a' w' μ' hk' hs' hf' => ?_)
  cases e with
  | nrm => exact hlp N hN c μ' t' h' x' a' w' _ r _ hs' hk' fun e2 t2 h2 x2 a2 w2 μ2 hk2 hs2 hf2 => hn _ _ _ _ _ _ _ hk2 hs2 (hf'.trans hf2)
  | ext id => exact hn (.ext id) _ _ _ _ _ _ hk' hs' hf'
  | ret => exact hn .ret _ _ _ _ _ _ hk' hs' hf'
theorem exec_ok {T : CALL β → CALL β} (hT : TabOK P T) (hD : RegDOK β P) : ∀ n, ExecOK β P T n ∧ LoopOK β P T n
  | 0 => ⟨fun N hN code μ t h x a w k r Q hs hk hn => (by cases hk), fun N hN code μ t h x a w k r Q hs hk hn => (by cases hk)⟩
  | n + 1 => ⟨exec_step hT hD (exec_ok hT hD n).1 (exec_ok hT hD n).2, loop_step (exec_ok hT hD n).1 (exec_ok hT hD n).2⟩
end
theorem closed_call {P : Program} (hD : RegDOK AV P) (n f : Nat) (v : AV) (hrun : callOf P (exec P n) f [] f5 b0 (fun v _ _ => some v) = some v) (w : World) (hgl : GLW w) :
    Calls P f #[] w fun e w' => (∃ cv μ', e = .returned cv ∧ VRel μ' v cv) ∧ Go.RowKit.Below w.heap.size w w' := by
  have hc := callOf_ok (exec_ok (T := keepC) (fun _ h => h) hD n).1
  have hr : HR (fun _ => none) f5.get w := ⟨fun b l hb => (by cases hb), fun b b' l l' hb => (by cases hb), fun n l hn => ⟨hgl n l hn, fun hu => by obtain ⟨b, l', hb, _⟩ := hu; cases hb⟩⟩
  obtain ⟨fn, _, _, _, h⟩ := hc f [] f5 b0 _ v _ w #[] hr (by simp [VRels]) hrun
  refine h.mono fun e w' hh => ?_
  obtain ⟨v', h', x', cv, μ', q1, q2, q3, q4, q5⟩ := hh
  injection q1 with q1; subst q1
  exact ⟨⟨cv, μ', q2, q3⟩, ⟨q5.os, q5.tape, q5.output, q5.size, fun i hi => q5.same i hi fun hu => by obtain ⟨b, l, hb, _⟩ := hu; cases hb⟩⟩
end Go.Proofs.Ytkejnhmhbmbhcaa.Eng
