/-
  THE ENGINE, PART D: each operation that writes nothing does in the model what the evaluator says.
-/
import Derived.Test.YtpcocfdgcihpdaaEngC
namespace Go.Proofs.Ytpcocfdgcihpdaa.Eng
open Go
set_option linter.unusedVariables false
set_option linter.unusedSimpArgs false

def upd (μ : Inj) (x : Bid) (l : Loc) : Inj := fun b => if b = x then some l else μ b
theorem le_upd {μ : Inj} {x : Bid} (l : Loc) (h : μ x = none) : Le μ (upd μ x l) := by
  intro b m hb
  unfold upd
  split
  · rename_i e; subst e; rw [h] at hb; cases hb
  · exact hb
theorem upd_self (μ : Inj) (x : Bid) (l : Loc) : upd μ x l x = some l := by simp [upd]

def NRes (μ : Inj) (w : World) (x : Bid) (ob : Option AObj) (v : AV) (cv : Value) (w' : World) : Prop :=
  w'.os = w.os ∧ w'.tape = w.tape ∧ w'.output = w.output ∧
  match ob with
  | none => w'.heap = w.heap ∧ VRel μ v cv
  | some o => live o = true ∧ ∃ (c : Nat) (ho : Obj), w'.heap = w.heap.push ho ∧ VRel (upd μ x ⟨w.heap.size, 0, c⟩) v cv ∧ ObjRel (upd μ x ⟨w.heap.size, 0, c⟩) w' ⟨w.heap.size, 0, c⟩ o

def NGood {β : Type} (P : Program) (μ : Inj) (w : World) (x : Bid) (s : Sem Value) (k : AV → Option AObj → Option β) (r : β) : Prop :=
  ∃ v ob, k v ob = some r ∧ ∃ cv w', s.run P w = .ok cv w' ∧ NRes μ w x ob v cv w'

section
variable {β : Type} {P : Program} {μ : Inj} {w : World} {x : Bid} {s : Sem Value} {k : AV → Option AObj → Option β} {r : β} {hp : Hp} {vs : List AV}

theorem NGood.pure {v : AV} {cv : Value} (h : k v none = some r) (hs : s.run P w = .ok cv w) (hv : VRel μ v cv) : NGood P μ w x s k r :=
  ⟨v, none, h, cv, w, hs, rfl, rfl, rfl, rfl, hv⟩
/-- a new block -/
theorem NGood.new {v : AV} {o : AObj} {cv : Value} {ho : Obj} {w1 : World} (c : Nat) (h : k v (some o) = some r) (hs : s.run P w = .ok cv w1) (hw : w1.heap = w.heap.push ho) (h1 : w1.os = w.os) (h2 : w1.tape = w.tape) (h3 : w1.output = w.output)
    (hl : live o = true) (hv : VRel (upd μ x ⟨w.heap.size, 0, c⟩) v cv) (hob : ObjRel (upd μ x ⟨w.heap.size, 0, c⟩) w1 ⟨w.heap.size, 0, c⟩ o) : NGood P μ w x s k r :=
  ⟨v, some o, h, cv, w1, hs, h1, h2, h3, hl, c, ho, hw, hv, hob⟩

theorem run_underlying {t : TypeId} {d : TypeDesc} (h : P.underlying t = some d) (w : World) : (underlying t).run P w = .ok d w := by simp [underlying, h]
theorem run_typeInfo {t : TypeId} {i : TypeInfo} (h : P.info? t = some i) (w : World) : (typeInfo t).run P w = .ok i w := by simp [typeInfo, h]
theorem run_sizeOf {t : TypeId} {n : Nat} (h : sizeP P t = some n) (w : World) : (sizeOf t).run P w = .ok n w := by
  unfold sizeP at h; rw [Option.map_eq_some_iff] at h; obtain ⟨i, hi, rfl⟩ := h
  simp [sizeOf, run_typeInfo hi]
theorem run_isAgg {t : TypeId} {b : Bool} (h : isAggP P t = some b) (w : World) : (isAgg t).run P w = .ok b w := by
  unfold isAggP at h; rw [Option.map_eq_some_iff] at h; obtain ⟨d, hd, rfl⟩ := h
  simp only [isAgg, Sem.run_bind, run_underlying hd, Result.andThen_ok]
  split <;> simp

theorem scalarAV_ok {v : Value} {a : AV} (h : scalarAV v = some a) (μ : Inj) : VRel μ a v ∧ (∀ cs, v ≠ .agg cs) ∧ v.oneCell' = true := by
  unfold scalarAV at h
  split at h <;> first | (cases h; done) | skip
  all_goals (injection h with h; subst h; refine ⟨?_, by simp, rfl⟩; simp [VRel])
theorem scalarsAV_ok : ∀ {l : List Value} {a : List AV}, scalarsAV l = some a → ∀ μ : Inj, VRels μ a l ∧ ∀ v ∈ l, v.oneCell' = true
  | [], _, h, μ => by simp only [scalarsAV, Option.some.injEq] at h; subst h; simp [VRels]
  | v :: l, _, h, μ => by
    simp only [scalarsAV] at h
    split at h
    · rename_i a b ha hb
      injection h with h; subst h
      refine ⟨?_, ?_⟩
      · simp only [VRels]; exact ⟨v, l, rfl, (scalarAV_ok ha μ).1, (scalarsAV_ok hb μ).1⟩
      · intro u hu
        rcases List.mem_cons.1 hu with rfl | hu
        · exact (scalarAV_ok ha μ).2.2
        · exact (scalarsAV_ok hb μ).2 u hu
    · cases h
theorem toAV_ok {v : Value} {a : AV} (h : toAV v = some a) (μ : Inj) : VRel μ a v := by
  unfold toAV at h
  split at h
  · split at h
    · rename_i cs l hl
      injection h with h; subst h
      simp only [VRel]; exact ⟨_, rfl, (scalarsAV_ok hl μ).1⟩
    · cases h
  · exact (scalarAV_ok h μ).1
theorem zeroP_ok {t : TypeId} {z : List AV} (h : zeroP P t = some z) : ∃ i v, P.info? t = some i ∧ i.zero = some v ∧ (∀ μ, VRels μ z v.cells.toList) ∧ ∀ u ∈ v.cells.toList, u.oneCell' = true := by
  unfold zeroP at h
  split at h
  · rename_i i hi
    split at h
    · rename_i v hv
      exact ⟨i, v, hi, hv, fun μ => (scalarsAV_ok h μ).1, (scalarsAV_ok h (fun _ => none)).2⟩
    · cases h
  · cases h
theorem run_zeroValue {t : TypeId} {i : TypeInfo} {v : Value} (hi : P.info? t = some i) (hv : i.zero = some v) (w : World) : (zeroValue t).run P w = .ok v w := by
  simp [zeroValue, run_typeInfo hi, hv]
theorem zeroV_ok {t : TypeId} {z : AV} (h : zeroV P t = some z) : ∃ v, (∀ w, (zeroValue t).run P w = .ok v w) ∧ ∀ μ, VRel μ z v := by
  unfold zeroV at h
  split at h
  · rename_i i hi
    split at h
    · rename_i v hv
      exact ⟨v, fun w => run_zeroValue hi hv w, toAV_ok h⟩
    · cases h
  · cases h

/-- cells that are known -/
def At (μ : Inj) (w : World) (l : Loc) (c : List AV) : Prop :=
  ∃ vals : List Value, VRels μ c vals ∧ ∀ j y, vals[j]? = some y → w.cell? ⟨l.blk, l.base + j, none⟩ = some y ∧ w.frozen? ⟨l.blk, l.base + j, none⟩ = false
theorem ObjRel.at {l : Loc} {o : AObj} {c : List AV} (h : ObjRel μ w l o) (hk : (∃ sz, o = .opn c sz) ∨ o = .cells c) : At μ w l c := by
  rcases hk with ⟨sz, rfl⟩ | rfl
  · obtain ⟨arr, t, fr, h2, h3, h4, h5⟩ := h
    refine ⟨_, h5, fun j y hy => ?_⟩
    rw [List.getElem?_take] at hy
    split at hy
    · rw [List.getElem?_drop, Array.getElem?_toList] at hy
      have hlt : l.base + j < arr.size := by
        rcases Nat.lt_or_ge (l.base + j) arr.size with h | h
        · exact h
        · simp [Array.getElem?_eq_none h] at hy
      refine ⟨by simp [World.cell?, h2, hy], ?_⟩
      have hf := h3 _ hlt
      simp only [World.frozen?, h2]
      rw [Bool.and_eq_false_iff]
      simp only [decide_eq_false_iff_not]
      by_cases hle : fr.1 ≤ l.base + j
      · right; exact fun hh => hf ⟨hle, hh⟩
      · left; exact hle
    · cases hy
  · obtain ⟨h1, arr, t, h2, h3⟩ := h
    refine ⟨_, h3, fun j y hy => ?_⟩
    rw [Array.getElem?_toList] at hy
    rw [h1, Nat.zero_add]
    exact ⟨by simp [World.cell?, h2, hy], by simp [World.frozen?, h2]⟩
theorem knownK_ok {o : AObj} {k' : List AV → Option β} (h : knownK o k' = some r) : ∃ c, ((∃ sz, o = .opn c sz) ∨ o = .cells c) ∧ k' c = some r := by
  cases o with
  | cells c => exact ⟨c, .inr rfl, h⟩
  | opn c sz => exact ⟨c, .inl ⟨sz, rfl⟩, h⟩
  | no => cases h
  | dead => cases h
  | map _ _ => cases h

theorem loc_add (l : Loc) (o j : Nat) : (⟨l.blk, l.base + o, none⟩ : Addr).add j = ⟨l.blk, l.base + (o + j), none⟩ := by
  unfold Addr.add; split
  · simp_all
  · simp; omega

/-- a variable is read -/
theorem run_loadVar_at {t : TypeId} {g : Option Nat} (hg : aggP P t = some g) {l : Loc} {c : List AV} (ha : At μ w l c) {o : Nat} {k' : AV → Option β} (h : partK c o g k' = some r) :
    ∃ v cv, k' v = some r ∧ (loadVar t ⟨l.blk, l.base + o, none⟩).run P w = .ok cv w ∧ VRel μ v cv := by
  obtain ⟨vals, hv, hc⟩ := ha
  unfold aggP at hg
  split at hg
  · rename_i n h1 h2
    injection hg with hg; subst hg
    simp only [partK] at h
    obtain ⟨h3, h⟩ := dropK_ok h
    obtain ⟨h4, h⟩ := takeK_ok h
    have hrel := (hv.drop o).take n
    refine ⟨_, .agg ((vals.drop o).take n).toArray, h, ?_, by simp only [VRel]; exact ⟨_, rfl, by simpa using hrel⟩⟩
    have hlen : ((vals.drop o).take n).length = n := by rw [← hrel.length]; simp at h4 ⊢; omega
    have hl := run_loadCells_list (P := P) (w := w) ⟨l.blk, l.base + o, none⟩ ((vals.drop o).take n) (by
      intro j y hy
      rw [loc_add]
      rw [List.getElem?_take] at hy
      split at hy
      · rw [List.getElem?_drop] at hy; exact (hc _ y hy).1
      · cases hy)
    rw [hlen] at hl
    simp [loadVar, run_isAgg h1, run_sizeOf h2, hl]
  · rename_i h1 h2
    injection hg with hg; subst hg
    simp only [partK] at h
    obtain ⟨a, ha, h⟩ := getK_ok h
    rw [avK_eq] at h
    obtain ⟨y, hy, hr⟩ := hv.get ha
    exact ⟨a, y, h, by simp [loadVar, run_isAgg h1, (hc _ y hy).1], hr⟩
  · cases hg

theorem loadF_ok (hr : HR μ hp.get w) {t : TypeId} {g : Option Nat} (hg : aggP P t = some g) {c : Value} (hv : VRels μ vs [c]) (h : loadF g vs hp x k = some r) :
    NGood P μ w x (Instr.loadAt t c) k r := by
  unfold loadF at h
  split at h
  · rename_i b o
    simp only [VRels, VRel, List.cons.injEq] at hv
    obtain ⟨v, rr, ⟨rfl, rfl⟩, ⟨l, hl, rfl⟩, _⟩ := hv
    obtain ⟨c, hk, h⟩ := knownK_ok h
    have hat := (hr.ok b l hl).at hk
    obtain ⟨v, cv, hk', hrun, hrel⟩ := run_loadVar_at hg hat h
    exact .pure hk' (by simp [Instr.loadAt, Instr.sureAddr, hrun]) hrel
  · cases h

theorem mvF_ok {c : Value} (hv : VRels μ vs [c]) (h : mvF vs hp x k = some r) : NGood P μ w x (pure c) k r := by
  unfold mvF at h
  split at h
  · simp only [VRels, List.cons.injEq] at hv
    obtain ⟨v, rr, ⟨rfl, rfl⟩, hv, _⟩ := hv
    exact .pure h rfl hv
  · cases h
theorem pickF_ok {c a b : Value} (hv : VRels μ vs [c, a, b]) (h : pickF vs hp x k = some r) :
    NGood P μ w x (do pure (if ← asBool c then a else b)) k r := by
  unfold pickF at h
  split at h
  · simp only [VRels, VRel, List.cons.injEq] at hv
    obtain ⟨v, rr, ⟨rfl, rfl⟩, rfl, v2, r2, ⟨rfl, rfl⟩, h2, v3, r3, ⟨rfl, rfl⟩, h3, _⟩ := hv
    exact .pure h (by simp [asBool]) h2
  · simp only [VRels, VRel, List.cons.injEq] at hv
    obtain ⟨v, rr, ⟨rfl, rfl⟩, rfl, v2, r2, ⟨rfl, rfl⟩, h2, v3, r3, ⟨rfl, rfl⟩, h3, _⟩ := hv
    exact .pure h (by simp [asBool]) h3
  · simp only [VRels, VRel, List.cons.injEq] at hv
    obtain ⟨v, rr, ⟨rfl, rfl⟩, rfl, v2, r2, ⟨rfl, rfl⟩, h2, v3, r3, ⟨rfl, rfl⟩, h3, _⟩ := hv
    rcases symFork_ok h with ⟨e, h⟩ | ⟨e, h⟩
    · exact .pure h (by simp [asBool, e]) h2
    · exact .pure h (by simp [asBool, e]) h3
  · cases h

theorem push_get (w1 w : World) (o : Obj) (h : w1.heap = w.heap.push o) : w1.heap[w.heap.size]? = some o := by rw [h]; simp

/-- a new block of known cells -/
theorem NGood.cells {v : AV} {c : List AV} {cv : Value} {arr : Array Value} {t : TypeId} {w1 : World} (hx : ∀ v o, k v (some o) = some r → μ x = none) (h : k v (some (.cells c)) = some r) (hs : s.run P w = .ok cv w1) (hw : w1 = w.alloc (.cells arr t))
    (hv : VRel (upd μ x ⟨w.heap.size, 0, 0⟩) v cv) (hc : VRels μ c arr.toList) : NGood P μ w x s k r := by
  subst hw
  exact .new 0 h hs rfl rfl rfl rfl rfl hv ⟨rfl, arr, t, push_get _ _ _ rfl, hc.mono (le_upd _ (hx _ _ h))⟩

theorem allocF_ok (hx : ∀ v o, k v (some o) = some r → μ x = none) {t : TypeId} {z : List AV} (hz : zeroP P t = some z) (hv : VRels μ vs []) (h : allocF z vs hp x k = some r) :
    NGood P μ w x (Instr.alloc t true (.tuple #[])) k r := by
  obtain ⟨i, v, hi, hiz, hrel, _⟩ := zeroP_ok hz
  unfold allocF at h
  split at h
  · refine .cells hx h (cv := .pointer (some ⟨w.heap.size, 0, none⟩)) (w1 := w.alloc (.cells v.cells t)) (t := t) (arr := v.cells) ?_ rfl ?_ (hrel μ)
    · simp only [Instr.alloc, Sem.run_bind, run_zeroValue hi hiz, Result.andThen_ok]
      simp [newVar, newRow]
    · simp only [VRel]; exact ⟨_, upd_self _ _ _, rfl⟩
  · cases h
theorem cellsK_ok {v : AV} {cv : Value} (hv : VRel μ v cv) {k' : List AV → Option β} (h : cellsK v k' = some r) : ∃ l, k' l = some r ∧ VRels μ l cv.cells.toList := by
  unfold cellsK at h
  split at h
  · simp only [VRel] at hv; obtain ⟨cs, rfl, hv⟩ := hv; exact ⟨_, h, hv⟩
  · cases h
  · cases h
  · rename_i h1 h2 h3
    refine ⟨_, h, ?_⟩
    have e : cv.cells = #[cv] := by
      cases v <;> simp only [VRel] at hv
      case un => exact absurd rfl h2
      case agg => exact absurd rfl (h1 _)
      case tup => exact absurd rfl (h3 _)
      all_goals (try (subst hv; rfl))
      case str => obtain ⟨_, rfl, _⟩ := hv; rfl
      case nz => obtain ⟨rfl, _⟩ := hv; rfl
      case ptr => obtain ⟨_, _, rfl⟩ := hv; rfl
      case slice b o n c =>
        obtain ⟨l, _, hs⟩ := hv
        cases c with
        | ex => simp only [SlRel] at hs; subst hs; rfl
        | op => simp only [SlRel] at hs; obtain ⟨rfl, _⟩ := hs; rfl
        | em => simp only [SlRel] at hs; obtain ⟨_, _, _, rfl⟩ := hs; rfl
      case map => obtain ⟨_, _, rfl⟩ := hv; rfl
      case func => obtain ⟨_, _, rfl, _⟩ := hv; rfl
      case iface => obtain ⟨_, rfl, _⟩ := hv; rfl
    rw [e]; simp only [VRels]; exact ⟨cv, [], rfl, hv, rfl⟩
theorem boxF_ok (hx : ∀ v o, k v (some o) = some r → μ x = none) {t : TypeId} {c : Value} (hv : VRels μ vs [c]) (h : boxF vs hp x k = some r) : NGood P μ w x (Instr.box t c) k r := by
  unfold boxF at h
  split at h
  · simp only [VRels, List.cons.injEq] at hv
    obtain ⟨v, rr, ⟨rfl, rfl⟩, hv, _⟩ := hv
    obtain ⟨l, h, hl⟩ := cellsK_ok hv h
    refine .cells hx h (cv := .pointer (some ⟨w.heap.size, 0, none⟩)) (w1 := w.alloc (.cells c.cells t)) (t := t) (arr := c.cells) ?_ rfl ?_ hl
    · simp [Instr.box, newVar, newRow]
    · simp only [VRel]; exact ⟨_, upd_self _ _ _, rfl⟩
  · cases h
end
end Go.Proofs.Ytpcocfdgcihpdaa.Eng
