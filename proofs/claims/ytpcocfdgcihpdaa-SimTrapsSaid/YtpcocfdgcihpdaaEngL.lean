/-
  THE ENGINE, PART L: append, copy, a map's entry: told whole; all operations that write.
-/
import Derived.Test.YtpcocfdgcihpdaaEngK
namespace Go.Proofs.Ytpcocfdgcihpdaa.Eng
open Go
set_option linter.unusedVariables false
set_option linter.unusedSimpArgs false

section
variable {β : Type} {P : Program} {μ : Inj} {w : World} {r : β} {h : Hp} {x : Bid} {vs : List AV} {k : EK β}

def VGood {β : Type} (P : Program) (μ : Inj) (h : Hp) (w : World) (s : Sem Value) (k : EK β) (r : β) : Prop :=
  ∃ v h' x', k v h' x' = some r ∧ ∃ cv w' μ', s.run P w = .ok cv w' ∧ VRel μ' v cv ∧ HR μ' h'.get w' ∧ Fr μ h.get w μ' h'.get w'
theorem VGood.up {s : Sem Value} (hg : VGood P μ h w s k r) : EGood P μ h w (do Pure.pure (Next.value (← s)) : Sem Next) k r := by
  obtain ⟨v, h', x', h1, cv, w', μ', h2, h3⟩ := hg
  exact ⟨v, h', x', h1, .value cv, cv, w', μ', by simp [h2], .inl rfl, h3⟩

theorem appendE_ok (hr : HR μ h.get w) {ts : Array TypeId} {t u e ty : TypeId} {i : TypeInfo} {zs : List AV} (h0 : ts[0]? = some t) (h1 : ts[1]? = some u) (ht : P.underlying t = some (.slice e)) (hd : strOrSlice (P.underlying u) = true) (hi : P.info? e = some i) (hz : zeroP P e = some zs) (hzl : zs.length = i.size)
    {s a : Value} (hv : VRels μ vs [s, a]) (hk : appendE i.size i.bytes vs h x k = some r) : VGood P μ h w (Builtin.append_ ts ty #[s, a]) k r := by
  unfold appendE at hk
  split at hk
  · rename_i sA aA
    simp only [VRels, List.cons.injEq] at hv
    obtain ⟨s1, r1, ⟨rfl, rfl⟩, hs, a1, r2, ⟨rfl, _⟩, ha, _⟩ := hv
    obtain ⟨m, hk, hlen⟩ := lenA_ok (P := P) ha hk
    obtain ⟨src, vals, hk, hsrc, hfc⟩ := srcK_ok (P := P) hr ha hk
    split at hk
    · cases hk
    · rename_i hb
      simp only [Bool.and_eq_true, Nat.ble_eq, Nat.beq_eq] at hb
      obtain ⟨hb3, hb2, hsl, hok⟩ := hb
      have hvl : vals.length = m * i.size := by rw [← hsrc.length]; exact hsl
      split at hk
      · -- nil
        simp only [VRel] at hs; subst hs
        split at hk
        · exact ⟨_, _, _, hk, _, w, μ, run_append_nothing h0 h1 ht hd hi hlen hfc, by simp [VRel], hr, Fr.refl _ _ _⟩
        · rename_i m'
          obtain ⟨v, h', x', w', cv, μ', q1, q2, q3⟩ := growE_ok (ty := ty) hr h0 h1 ht hd hi hz hzl (base := none) (sLen := 0) (sCap := 0) hlen (by omega) (by omega) hb2 hb3 (old := []) (oldA := []) (by simp [VRels]) hsrc (by simp) hvl (fun w2 _ => by simp [Builtin.firstCells]) hfc hk
          exact ⟨v, h', x', q1, cv, w', μ', q2, q3⟩
      · rename_i b o n c _ _
        simp only [VRel, SlRel] at hs
        obtain ⟨l, hl, rfl⟩ := hs
        split at hk
        · cases hk
        · rename_i hbn; rw [Nat.ble_eq] at hbn
          split at hk
          · rename_i hbc; rw [Nat.ble_eq] at hbc
            obtain ⟨h', w', hk, hst, hr', hf, _⟩ := overObj_ok (P := P) hr hl hsrc hk
            rw [natK_eq] at hk
            refine ⟨_, _, _, hk, _, w', μ, run_append_room h0 h1 ht hd hi hlen hbc hfc (by rw [loc_add]; exact hst), ?_, hr', hf⟩
            simp only [VRel, SlRel]; exact ⟨l, hl, rfl⟩
          · rename_i hbc
            have hbc' : ¬ n + m ≤ c := fun e => by rw [← Nat.ble_eq] at e; rw [e] at hbc; cases hbc
            obtain ⟨c0, hkn, hk⟩ := knownK_ok hk
            obtain ⟨_, hk⟩ := dropK_ok hk
            obtain ⟨hn, hk⟩ := takeK_ok hk
            obtain ⟨old, p1, p2, p3⟩ := ((hr.ok b l hl).at hkn).load (P := P) (o := o) (m := n * i.size) (by simp at hn; omega)
            obtain ⟨v, h', x', w', cv, μ', q1, q2, q3⟩ := growE_ok (ty := ty) (base := some ⟨l.blk, l.base + o, none⟩) (sCap := c) hr h0 h1 ht hd hi hz hzl hlen (by omega) hbn hb2 hb3 p1 hsrc p2 hvl (fun w2 e => by simp only [Builtin.firstCells]; exact p3 w2 e) hfc hk
            exact ⟨v, h', x', q1, cv, w', μ', q2, q3⟩
      · rename_i b o n g _ _
        simp only [VRel, SlRel] at hs
        obtain ⟨l, hl, rfl, hcap⟩ := hs
        split at hk
        · cases hk
        · rename_i hbn; rw [Nat.ble_eq] at hbn
          split at hk
          · rename_i l0 sz hob
            split at hk
            · rename_i hsz
              simp only [Bool.and_eq_true, Nat.beq_eq] at hsz
              obtain ⟨rfl, hgo⟩ := hsz
              obtain ⟨_, hk⟩ := dropK_ok hk
              obtain ⟨hn, hk⟩ := takeK_ok hk
              rw [Hp.putK_eq] at hk
              have hor := hr.ok b l hl
              obtain ⟨old, p1, p2, p3⟩ := (hor.at (.inl ⟨i.size, hob⟩)).load (P := P) (o := o) (m := n * i.size) (by simp at hn; omega)
              -- the old name is dead
              have hr1 : HR μ (h.put b .dead).get w := by
                refine ⟨fun c m hc => ?_, fun c c' m m' hc hc' e1 e2 e3 => ?_⟩
                · by_cases e : c = b
                  · subst e; rw [Hp.get_put_self]; trivial
                  · rw [Hp.get_put_ne _ _ e]; exact hr.ok c m hc
                · by_cases e : c = b
                  · subst e; rw [Hp.get_put_self] at e1; cases e1
                  · by_cases e' : c' = b
                    · subst e'; rw [Hp.get_put_self] at e2; cases e2
                    · rw [Hp.get_put_ne _ _ e] at e1; rw [Hp.get_put_ne _ _ e'] at e2; exact hr.inj c c' m m' hc hc' e1 e2 e3
              have hf1 : Fr μ h.get w μ (h.put b .dead).get w := by
                refine ⟨Le.refl _, fun c e e' => absurd e e', rfl, rfl, rfl, Nat.le_refl _, fun _ _ _ => rfl, fun c hu => ?_, fun c hc => ?_⟩
                · obtain ⟨b', l', hb', hl', e⟩ := hu
                  by_cases e2 : b' = b
                  · subst e2; rw [Hp.get_put_self] at hl'; cases hl'
                  · rw [Hp.get_put_ne _ _ e2] at hl'; exact .inl ⟨b', l', hb', hl', e⟩
                · by_cases e : c = b
                  · subst e; rw [Hp.get_put_self]; intro e; cases e
                  · rw [Hp.get_put_ne _ _ e]; exact hc
              by_cases hroom : n + m ≤ l.cap - g
              · -- there is room
                obtain ⟨arr, t0, fr, hheap, hfr, hcapb, hrel⟩ : ObjRel μ w l (.opn l0 i.size) := by rw [← hob]; exact hor
                have hin : l.base + (o + n * i.size) + vals.length ≤ arr.size := by
                  have e1 : (g + (n + m)) * i.size ≤ l.cap * i.size := Nat.mul_le_mul_right _ (by omega)
                  rw [Nat.add_mul, Nat.add_mul] at e1
                  omega
                have hst := run_storeCells_cells (P := P) l.blk (l.base + (o + n * i.size)) vals 0 w (fun j hj => by simp [World.cell?, hheap]; omega) (fun j hj => by
                  have hf := hfr (l.base + (o + n * i.size) + j) (by omega)
                  simp only [World.frozen?, hheap]
                  rw [Bool.and_eq_false_iff]; simp only [decide_eq_false_iff_not, Nat.add_zero]
                  by_cases hle : fr.1 ≤ l.base + (o + n * i.size) + j
                  · right; exact fun hh => hf ⟨hle, hh⟩
                  · left; exact hle) (okCells_ok hok hsrc)
                simp only [Nat.add_zero] at hst
                obtain ⟨arr', hh, harr⟩ := setCells_heap l.blk vals (l.base + (o + n * i.size)) w arr t0 fr hheap hin
                obtain ⟨s1, s2, s3, s4⟩ := setCells_rest l.blk vals (l.base + (o + n * i.size)) w
                have sO := setCells_other l.blk vals (l.base + (o + n * i.size)) w
                have hasz : arr'.size = arr.size := by
                  rw [← Array.length_toList (xs := arr'), harr, over_length _ _ _ (by rw [Array.length_toList]; exact hin), Array.length_toList]
                unfold growE at hk
                obtain ⟨hx, y, hk⟩ := freshK_ok hk
                rw [appK_eq, natK_eq, Hp.putK_eq] at hk
                have hf0 := hr1.fresh hx
                have hxb : x ≠ b := fun e => by subst e; rw [hl] at hf0; cases hf0
                have hle := le_upd (x := x) ⟨l.blk, l.base + o, l.cap - g⟩ hf0
                have hx' : h.get x = .no := by rw [Hp.get_put_ne _ _ hxb] at hx; exact hx
                generalize hw' : w.setCells l.blk (l.base + (o + n * i.size)) vals = w' at *
                have hcase : ∀ c m, upd μ x ⟨l.blk, l.base + o, l.cap - g⟩ c = some m → (c = x ∧ m = ⟨l.blk, l.base + o, l.cap - g⟩) ∨ (c ≠ x ∧ μ c = some m) := by
                  intro c m hb
                  unfold upd at hb
                  split at hb
                  · rename_i e; injection hb with hb; exact .inl ⟨e, hb.symm⟩
                  · rename_i e; exact .inr ⟨e, hb⟩
                have hlv : ∀ c m, μ c = some m → live ((h.put b .dead).get c) = true → m.blk ≠ l.blk := by
                  intro c m hc hlc e
                  by_cases e2 : c = b
                  · subst e2; rw [Hp.get_put_self] at hlc; cases hlc
                  · rw [Hp.get_put_ne _ _ e2] at hlc
                    exact e2 (hr.inj c b m l hc hl hlc (by rw [hob]; rfl) e)
                refine ⟨_, _, _, hk, _, w', upd μ x ⟨l.blk, l.base + o, l.cap - g⟩, run_append_room h0 h1 ht hd hi hlen hroom hfc (by rw [loc_add]; exact hst), ?_, ⟨?_, ?_⟩, ⟨hle, ?_, s1, s2, s3, by omega, ?_, ?_, ?_⟩⟩
                · simp only [VRel, SlRel]; exact ⟨_, upd_self _ _ _, by simp, by simpa using hroom⟩
                · intro c m hc
                  rcases hcase c m hc with ⟨rfl, rfl⟩ | ⟨hne, hc⟩
                  · rw [Hp.get_put_self]
                    refine ⟨arr', t0, fr, hh, by rw [hasz]; exact hfr, ?_, ?_⟩
                    · rw [hasz]
                      have e1 : g * i.size + (l.cap - g) * i.size = l.cap * i.size := by rw [← Nat.add_mul]; congr 1; omega
                      show l.base + o + (l.cap - g) * i.size ≤ arr.size
                      omega
                    · have hl2 := hsrc.length
                      have hll : l0.length = min l0.length (arr.size - l.base) := by simpa using hrel.length
                      have hn' : n * i.size ≤ l0.length - o := by simpa using hn
                      have p4 := (hrel.drop o).take (n * i.size)
                      have e2 : ((arr'.toList.drop (l.base + o)).take (((l0.drop o).take (n * i.size)) ++ src).length) = ((((arr.toList.drop l.base).take l0.length).drop o).take (n * i.size)) ++ vals := by
                        apply List.ext_getElem?
                        intro j
                        have el : (((l0.drop o).take (n * i.size)) ++ src).length = n * i.size + vals.length := by simp; omega
                        rw [el, List.getElem?_take, List.getElem?_drop, harr, over_get _ _ _ (by rw [Array.length_toList]; exact hin), List.getElem?_append]
                        have el2 : ((((arr.toList.drop l.base).take l0.length).drop o).take (n * i.size)).length = n * i.size := by simp; omega
                        rw [el2]
                        by_cases j1 : j < n * i.size
                        · rw [if_pos (by omega), if_neg (by omega), if_pos j1, List.getElem?_take, if_pos j1, List.getElem?_drop, List.getElem?_take, if_pos (by omega), List.getElem?_drop]
                          congr 1; omega
                        · rw [if_neg j1]
                          by_cases j2 : j < n * i.size + vals.length
                          · rw [if_pos j2, if_pos (by omega)]; congr 1; omega
                          · rw [if_neg j2, List.getElem?_eq_none (by omega)]
                      rw [e2]
                      exact (p4.app hsrc).mono hle
                  · rw [Hp.get_put_ne _ _ hne]
                    refine ((hr1.ok c m hc).mono hle).of_block fun hlc => ?_
                    exact sO _ (hlv c m hc hlc)
                · intro c c' m m' hc hc' e1 e2 e3
                  rcases hcase c m hc with ⟨rfl, rfl⟩ | ⟨hne, gc⟩ <;> rcases hcase c' m' hc' with ⟨rfl, rfl⟩ | ⟨hne', gc'⟩
                  · rfl
                  · rw [Hp.get_put_ne _ _ hne'] at e2; exact absurd e3.symm (hlv c' m' gc' e2)
                  · rw [Hp.get_put_ne _ _ hne] at e1; exact absurd e3 (hlv c m gc e1)
                  · rw [Hp.get_put_ne _ _ hne] at e1; rw [Hp.get_put_ne _ _ hne'] at e2; exact hr1.inj c c' m m' gc gc' e1 e2 e3
                · intro c hc hc'
                  by_cases e : c = x
                  · subst e; exact hx'
                  · exact absurd (by unfold upd; rw [if_neg e]; exact hc) hc'
                · intro c _ hu
                  exact sO c fun e => hu ⟨b, l, hl, by rw [hob]; rfl, e.symm⟩
                · intro c hu
                  obtain ⟨b', l', hb', hl', e⟩ := hu
                  rcases hcase b' l' hb' with ⟨rfl, rfl⟩ | ⟨hne, gc⟩
                  · exact .inl ⟨b, l, hl, by rw [hob]; rfl, e⟩
                  · rw [Hp.get_put_ne _ _ hne] at hl'
                    by_cases e2 : b' = b
                    · subst e2; rw [Hp.get_put_self] at hl'; cases hl'
                    · rw [Hp.get_put_ne _ _ e2] at hl'; exact .inl ⟨b', l', gc, hl', e⟩
                · intro c hc
                  by_cases e : c = x
                  · subst e; rw [Hp.get_put_self]; intro e; cases e
                  · rw [Hp.get_put_ne _ _ e]
                    by_cases e2 : c = b
                    · subst e2; rw [Hp.get_put_self]; intro e; cases e
                    · rw [Hp.get_put_ne _ _ e2]; exact hc
              · obtain ⟨v, h', x', w', cv, μ', q1, q2, q3, q4, q5⟩ := growE_ok (ty := ty) (base := some ⟨l.blk, l.base + o, none⟩) (sCap := l.cap - g) hr1 h0 h1 ht hd hi hz hzl hlen (by omega) hbn hb2 hb3 p1 hsrc p2 hvl (fun w2 e => by simp only [Builtin.firstCells]; exact p3 w2 e) hfc hk
                exact ⟨v, h', x', q1, cv, w', μ', q2, q3, q4, hf1.trans q5⟩
            · cases hk
          · cases hk
      · cases hk
  · cases hk
end
end Go.Proofs.Ytpcocfdgcihpdaa.Eng
