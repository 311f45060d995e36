/-
  THE ENGINE, PART K: append, copy, clear; maps that are written.
-/
import Derived.Test.YtpcocfdgcihpdaaEngJ
namespace Go.Proofs.Ytpcocfdgcihpdaa.Eng
open Go
set_option linter.unusedVariables false
set_option linter.unusedSimpArgs false

section
variable {β : Type} {P : Program} {μ : Inj} {w : World} {r : β} {h : Hp} {x : Bid} {vs : List AV} {k : EK β}

theorem HR.fresh (hr : HR μ h.get w) (hx : h.get x = .no) : μ x = none := by
  cases e : μ x with
  | none => rfl
  | some l => have := hr.ok x l e; rw [hx] at this; exact this.elim

/-- a new block -/
theorem HR.push (hr : HR μ h.get w) (hx : h.get x = .no) {o : AObj} (ho : live o = true) {w' : World} {hob : Obj} (hw : w'.heap = w.heap.push hob) (h1 : w'.os = w.os) (h2 : w'.tape = w.tape) (h3 : w'.output = w.output) (c : Nat)
    (hrel : ObjRel (upd μ x ⟨w.heap.size, 0, c⟩) w' ⟨w.heap.size, 0, c⟩ o) : HR (upd μ x ⟨w.heap.size, 0, c⟩) (h.put x o).get w' ∧ Fr μ h.get w (upd μ x ⟨w.heap.size, 0, c⟩) (h.put x o).get w' := by
  have hf := hr.fresh hx
  have hle := le_upd (x := x) ⟨w.heap.size, 0, c⟩ hf
  have hold : ∀ i, i < w.heap.size → w'.heap[i]? = w.heap[i]? := fun i hi => by rw [hw, Array.getElem?_push, if_neg (by omega)]
  have hcase : ∀ b l, upd μ x ⟨w.heap.size, 0, c⟩ b = some l → (b = x ∧ l = ⟨w.heap.size, 0, c⟩) ∨ (b ≠ x ∧ μ b = some l) := by
    intro b l hb
    unfold upd at hb
    split at hb
    · rename_i e; injection hb with hb; exact .inl ⟨e, hb.symm⟩
    · rename_i e; exact .inr ⟨e, hb⟩
  refine ⟨⟨fun b l hb => ?_, fun b b' l l' hb hb' e1 e2 e3 => ?_⟩, ⟨hle, fun b hb hb' => ?_, h1, h2, h3, by rw [hw]; simp, fun i hi _ => hold i hi, fun i hu => ?_, fun b hb => ?_⟩⟩
  · rcases hcase b l hb with ⟨rfl, rfl⟩ | ⟨hne, hb⟩
    · rw [Hp.get_put_self]; exact hrel
    · rw [Hp.get_put_ne _ _ hne]
      exact ((hr.ok b l hb).mono hle).of_block fun hl => hold _ ((hr.ok b l hb).lt hl)
  · rcases hcase b l hb with ⟨rfl, rfl⟩ | ⟨hne, gb⟩ <;> rcases hcase b' l' hb' with ⟨rfl, rfl⟩ | ⟨hne', gb'⟩
    · rfl
    · rw [Hp.get_put_ne _ _ hne'] at e2; have := (hr.ok b' l' gb').lt e2; simp at e3; omega
    · rw [Hp.get_put_ne _ _ hne] at e1; have := (hr.ok b l gb).lt e1; simp at e3; omega
    · rw [Hp.get_put_ne _ _ hne] at e1; rw [Hp.get_put_ne _ _ hne'] at e2; exact hr.inj b b' l l' gb gb' e1 e2 e3
  · by_cases e : b = x
    · subst e; exact hx
    · exact absurd (by unfold upd; rw [if_neg e]; exact hb) hb'
  · obtain ⟨b, l, hb, hl, e⟩ := hu
    rcases hcase b l hb with ⟨rfl, rfl⟩ | ⟨hne, hb⟩
    · exact .inr (by simp at e; omega)
    · rw [Hp.get_put_ne _ _ hne] at hl; exact .inl ⟨b, l, hb, hl, e⟩
  · by_cases e : b = x
    · subst e; exact absurd hx hb
    · rw [Hp.get_put_ne _ _ e]; exact hb

theorem freshK_ok {k' : Bid → Option β} (hk : freshK h x k' = some r) : h.get x = .no ∧ ∃ y, k' y = some r := by
  unfold freshK at hk
  split at hk
  · rename_i e
    obtain ⟨c, hc⟩ := succK_ok x k'
    exact ⟨e, c, by rw [← hc]; exact hk⟩
  · cases hk

theorem At.load {l : Loc} {c : List AV} (ha : At μ w l c) {o m : Nat} (hm : o + m ≤ c.length) :
    ∃ vals : List Value, VRels μ ((c.drop o).take m) vals ∧ vals.length = m ∧ ∀ w2, w2.heap = w.heap → (loadCells ⟨l.blk, l.base + o, none⟩ m).run P w2 = .ok vals.toArray w2 := by
  obtain ⟨vals, hv, hc⟩ := ha
  have hl := hv.length
  refine ⟨(vals.drop o).take m, (hv.drop o).take m, by simp; omega, fun w2 hw2 => ?_⟩
  have := run_loadCells_list (P := P) (w := w2) ⟨l.blk, l.base + o, none⟩ ((vals.drop o).take m) (by
    intro j y hy
    rw [loc_add, List.getElem?_take] at *
    split at hy
    · rw [List.getElem?_drop] at hy
      have := (hc _ y hy).1
      simp only [World.cell?, hw2] at this ⊢; exact this
    · cases hy)
  have e : ((vals.drop o).take m).length = m := by simp; omega
  rw [e] at this; exact this

theorem lenA_ok {a : AV} {c : Value} (hv : VRel μ a c) {k' : Nat → Option β} (hk : lenA a k' = some r) : ∃ n, k' n = some r ∧ ∀ w, (Builtin.lenOf c).run P w = .ok n w := by
  unfold lenA at hk
  split at hk
  · simp only [VRel] at hv; subst hv; exact ⟨_, hk, fun w => rfl⟩
  · simp only [VRel] at hv; obtain ⟨s, rfl, rfl⟩ := hv
    rw [natK_eq] at hk
    exact ⟨_, hk, fun w => by simp [Builtin.lenOf]⟩
  · simp only [VRel] at hv; obtain ⟨l, hl, hs⟩ := hv; obtain ⟨a, cc, rfl, _⟩ := slice_len hs
    exact ⟨_, hk, fun w => rfl⟩
  · cases hk

theorem srcK_ok (hr : HR μ h.get w) {size n : Nat} {a : AV} {c : Value} (hv : VRel μ a c) {k' : List AV → Option β} (hk : srcK size h n a k' = some r) :
    ∃ src vals, k' src = some r ∧ VRels μ src vals ∧ ∀ w2, w2.heap = w.heap → (Builtin.firstCells size n c).run P w2 = .ok vals.toArray w2 := by
  unfold srcK at hk
  split at hk
  · split at hk
    · simp only [VRel] at hv; subst hv
      exact ⟨[], [], hk, by simp [VRels], fun w2 _ => by simp [Builtin.firstCells]⟩
    · cases hk
  · simp only [VRel] at hv; obtain ⟨s, rfl, rfl⟩ := hv
    obtain ⟨hn, hk⟩ := takeK_ok hk
    rw [← List.map_take] at hk
    obtain ⟨m, hk, _, hrel⟩ := u8s_ok _ _ hk
    refine ⟨m, _, hk, hrel μ, fun w2 _ => ?_⟩
    simp only [Builtin.firstCells, Sem.run_pure]
    congr 1
    rw [← Array.toList_inj]
    obtain ⟨⟨l⟩⟩ := s
    rw [show (ByteArray.mk { toList := l }).extract 0 n = ByteArray.mk ((l.drop 0).take (n - 0)).toArray from ByteArray.extract_mk l 0 n]
    simp
  · rename_i b o m cp
    split at hk
    · rename_i hb; rw [Nat.ble_eq] at hb
      simp only [VRel] at hv; obtain ⟨l, hl, hs⟩ := hv
      obtain ⟨a, cc, rfl, ha⟩ := slice_len hs
      unfold srcPart at hk
      split at hk
      · exact ⟨[], [], hk, by simp [VRels], fun w2 _ => by simp [Builtin.firstCells, loadCells, loadCellsFrom]⟩
      · rename_i n'
        obtain ⟨c0, hkn, hk⟩ := knownK_ok hk
        obtain ⟨_, hk⟩ := dropK_ok hk
        obtain ⟨hn, hk⟩ := takeK_ok hk
        obtain ⟨vals, h1, h2, h3⟩ := ((hr.ok b l hl).at hkn).load (P := P) (o := o) (m := (n' + 1) * size) (by simp at hn; omega)
        rw [ha (by omega)]
        exact ⟨_, vals, hk, h1, fun w2 hw2 => by simp only [Builtin.firstCells]; exact h3 w2 hw2⟩
    · cases hk
  · cases hk

/-- what append does where there is no room -/
theorem run_append_grows {ts : Array TypeId} {t u e ty : TypeId} {i : TypeInfo} {z : Value} (h0 : ts[0]? = some t) (h1 : ts[1]? = some u) (ht : P.underlying t = some (.slice e)) (hd : strOrSlice (P.underlying u) = true) (hi : P.info? e = some i) (hz : i.zero = some z)
    {base : Option Addr} {sLen sCap n : Nat} {c : Value} (hlen : ∀ w, (Builtin.lenOf c).run P w = .ok n w) (hneed : sCap < sLen + n) (hb1 : sLen ≤ 1000000) (hb2 : n ≤ 1000000) (hb3 : i.bytes ≤ 1024) {old new : List Value}
    (hold : ∀ w2, w2.heap = w.heap → (Builtin.firstCells i.size sLen (.slice base sLen sCap)).run P w2 = .ok old.toArray w2) (hnew : ∀ w2, w2.heap = w.heap → (Builtin.firstCells i.size n c).run P w2 = .ok new.toArray w2) :
    ∃ (cap : Nat) (arr : Array Value), sLen + n ≤ cap ∧ (Builtin.append_ ts ty #[.slice base sLen sCap, c]).run P w = .ok (.slice (some ⟨w.heap.size, 0, none⟩) (sLen + n) cap) (w.drew.alloc (.cells arr e)) ∧
      arr.toList = old ++ (new ++ (Builtin.zeroCells z.cells (cap - (sLen + n))).toList) := by
  have hcap := nextslicecap_le hneed
  have hk : Builtin.nextslicecap (sLen + n) sCap * i.bytes ≤ 281474976710656 := by
    calc Builtin.nextslicecap (sLen + n) sCap * i.bytes ≤ (2 * (sLen + n)) * 1024 := Nat.mul_le_mul hcap hb3
      _ ≤ 281474976710656 := by omega
  have hn : ¬ (sLen + n ≤ sCap) := by omega
  have h63' : ¬ (9223372036854775807 < ((sLen : Int) + (n : Int))) := by omega
  have h48' : ¬ (281474976710656 < Builtin.nextslicecap (sLen + n) sCap * i.bytes) := by omega
  have hfo := hold w.drew rfl
  have hf := hnew w.drew rfl
  refine ⟨grownCap w (sLen + n) sCap e, old.toArray ++ (new.toArray ++ Builtin.zeroCells z.cells (grownCap w (sLen + n) sCap e - (sLen + n))), grownCap_ge _ _ _ _, ?_, by simp⟩
  cases hu : P.underlying u with
  | none => rw [hu] at hd; cases hd
  | some d =>
    rw [hu] at hd
    cases d <;> first | (cases hd; done) | skip
    all_goals
      simp [Builtin.append_, h0, h1, run_underlying ht, run_underlying hu, sizeOf, run_typeInfo hi, zeroValue, hz, hlen, hn, h63', h48', Question.forced, hf, hfo, newRow, grownCap]
      try (congr 2; apply Array.ext'; simp [List.append_assoc])

/-- there is room: the elements are laid into it -/
theorem run_append_room {ts : Array TypeId} {t u e ty : TypeId} {i : TypeInfo} (h0 : ts[0]? = some t) (h1 : ts[1]? = some u) (ht : P.underlying t = some (.slice e)) (hd : strOrSlice (P.underlying u) = true) (hi : P.info? e = some i)
    {base : Addr} {sLen sCap n : Nat} {c : Value} (hlen : ∀ w, (Builtin.lenOf c).run P w = .ok n w) (hneed : sLen + n ≤ sCap) {new : List Value} {w' : World}
    (hnew : ∀ w2, w2.heap = w.heap → (Builtin.firstCells i.size n c).run P w2 = .ok new.toArray w2) (hst : (storeCells (base.add (sLen * i.size)) new).run P w = .ok () w') :
    (Builtin.append_ ts ty #[.slice (some base) sLen sCap, c]).run P w = .ok (.slice (some base) (sLen + n) sCap) w' := by
  have hf := hnew w rfl
  cases hu : P.underlying u with
  | none => rw [hu] at hd; cases hd
  | some d =>
    rw [hu] at hd
    cases d <;> first | (cases hd; done) | skip
    all_goals
      simp [Builtin.append_, h0, h1, run_underlying ht, run_underlying hu, sizeOf, run_typeInfo hi, hlen, hneed, hf, hst]
theorem run_append_nothing {ts : Array TypeId} {t u e ty : TypeId} {i : TypeInfo} (h0 : ts[0]? = some t) (h1 : ts[1]? = some u) (ht : P.underlying t = some (.slice e)) (hd : strOrSlice (P.underlying u) = true) (hi : P.info? e = some i)
    {c : Value} (hlen : ∀ w, (Builtin.lenOf c).run P w = .ok 0 w) {new : List Value} (hnew : ∀ w2, w2.heap = w.heap → (Builtin.firstCells i.size 0 c).run P w2 = .ok new.toArray w2) :
    (Builtin.append_ ts ty #[.slice none 0 0, c]).run P w = .ok (.slice none 0 0) w := by
  have hf := hnew w rfl
  cases hu : P.underlying u with
  | none => rw [hu] at hd; cases hd
  | some d =>
    rw [hu] at hd
    cases d <;> first | (cases hd; done) | skip
    all_goals
      simp [Builtin.append_, h0, h1, run_underlying ht, run_underlying hu, sizeOf, run_typeInfo hi, hlen, hf]

theorem size_zeros (z : Array Value) (n : Nat) : (Builtin.zeroCells z n).toList.length = n * z.size := by simp [Builtin.zeroCells]

theorem growE_ok (hr : HR μ h.get w) {ts : Array TypeId} {t u e ty : TypeId} {i : TypeInfo} {zs : List AV} (h0 : ts[0]? = some t) (h1 : ts[1]? = some u) (ht : P.underlying t = some (.slice e)) (hd : strOrSlice (P.underlying u) = true) (hi : P.info? e = some i) (hz : zeroP P e = some zs) (hzl : zs.length = i.size)
    {base : Option Addr} {sLen sCap n : Nat} {c : Value} (hlen : ∀ w, (Builtin.lenOf c).run P w = .ok n w) (hneed : sCap < sLen + n) (hb1 : sLen ≤ 1000000) (hb2 : n ≤ 1000000) (hb3 : i.bytes ≤ 1024) {old new : List Value} {oldA srcA : List AV} (ho : VRels μ oldA old) (hn : VRels μ srcA new)
    (hol : old.length = sLen * i.size) (hnl : new.length = n * i.size)
    (hold : ∀ w2, w2.heap = w.heap → (Builtin.firstCells i.size sLen (.slice base sLen sCap)).run P w2 = .ok old.toArray w2) (hnew : ∀ w2, w2.heap = w.heap → (Builtin.firstCells i.size n c).run P w2 = .ok new.toArray w2)
    (hk : growE i.size sLen n oldA srcA h x k = some r) :
    ∃ v h' x' w' cv μ', k v h' x' = some r ∧ (Builtin.append_ ts ty #[.slice base sLen sCap, c]).run P w = .ok cv w' ∧ VRel μ' v cv ∧ HR μ' h'.get w' ∧ Fr μ h.get w μ' h'.get w' := by
  obtain ⟨i', zv, hi', hiz, hzrel, _⟩ := zeroP_ok hz
  rw [hi] at hi'; injection hi' with hi'; subst hi'
  obtain ⟨cap, arr, hcap, hrun, harr⟩ := run_append_grows (w := w) (ty := ty) h0 h1 ht hd hi hiz hlen hneed hb1 hb2 hb3 hold hnew
  unfold growE at hk
  obtain ⟨hx, y, hk⟩ := freshK_ok hk
  rw [appK_eq, natK_eq, Hp.putK_eq] at hk
  have hf := hr.fresh hx
  have hzs : zv.cells.size = i.size := by have := (hzrel μ).length; simp at this; omega
  have hasz : arr.size = cap * i.size := by
    have e1 := congrArg List.length harr
    simp only [List.length_append, hol, hnl, Array.length_toList, size_zeroCells, hzs] at e1
    rw [e1, ← Nat.add_assoc, ← Nat.add_mul, ← Nat.add_mul]; congr 1; omega
  obtain ⟨h2, h3⟩ := hr.push hx (o := .opn (oldA ++ srcA) i.size) rfl (w' := w.drew.alloc (.cells arr e)) (hob := .cells arr e) rfl rfl rfl rfl cap (by
    refine ⟨arr, e, (0, 0), push_get _ _ _ rfl, ?_, by simp [hasz], ?_⟩
    · intro j _ hh; simp at hh
    · have hl := ho.length; have hl2 := hn.length
      have e1 : ((arr.toList.drop 0).take (oldA ++ srcA).length) = old ++ new := by
        rw [harr, List.drop_zero, ← List.append_assoc, List.take_append_of_le_length (by simp; omega), List.take_of_length_le (by simp; omega)]
      rw [e1]
      exact (ho.app hn).mono (le_upd _ hf))
  exact ⟨_, _, _, _, _, _, hk, hrun, by simp only [VRel, SlRel]; exact ⟨_, upd_self _ _ _, by simp, by simpa using hcap⟩, h2, h3⟩
end
end Go.Proofs.Ytpcocfdgcihpdaa.Eng
