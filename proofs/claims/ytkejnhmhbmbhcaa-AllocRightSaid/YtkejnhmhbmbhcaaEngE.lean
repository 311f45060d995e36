/-
  THE ENGINE, PART C: what a value of the evaluator says of a value of the model; the evaluator's small steps told.
-/
import Derived.Test.YtkejnhmhbmbhcaaEngB
import Derived.Laws.Cells
import Derived.Laws.Append
import Derived.Laws.IdiomCopy
import Derived.Laws.StructEq
import Derived.Laws.BytesString
import Derived.Lib.ConvBytes
import Derived.Laws.Tables
import Derived.Laws.MakeOwn
import Derived.Laws.Pointers
import Derived.Scope
set_option maxHeartbeats 64000000
set_option maxRecDepth 1000000
set_option linter.unusedVariables false
set_option linter.unusedSimpArgs false
set_option maxHeartbeats 64000000
set_option maxHeartbeats 64000000
set_option maxHeartbeats 64000000
set_option maxHeartbeats 64000000
namespace Go.Proofs.Ytkejnhmhbmbhcaa.Eng
open Go
/-! ### nodes -/
theorem upd_eq {α β : Type} (d : D8) (x : α) (k : N8 α → Option β) (n : N8 α) : N8.upd d x k n = k (N8.set x d n) := by
  cases n; cases d <;> rfl
theorem sel_set {α : Type} (d e : D8) (x : α) (n : N8 α) : N8.sel e (N8.set x d n) = if e = d then x else N8.sel e n := by
  cases n; cases d <;> cases e <;> rfl
theorem D8.toNat_lt (d : D8) : d.toNat < 8 := by cases d <;> decide
theorem D8.toNat_inj {d e : D8} (h : d.toNat = e.toNat) : d = e := by cases d <;> cases e <;> first | rfl | (simp [D8.toNat] at h)
theorem D8.toNat_fromNat (n : Nat) (h : n < 8) : (D8.fromNat n).toNat = n := by
  match n, h with
  | 0, _ => rfl | 1, _ => rfl | 2, _ => rfl | 3, _ => rfl | 4, _ => rfl | 5, _ => rfl | 6, _ => rfl | 7, _ => rfl
theorem P3.toNat_inj {p q : P3} (h : p.toNat = q.toNat) : p = q := by
  have a := p.x.toNat_lt; have b := p.y.toNat_lt; have c := p.z.toNat_lt
  have a' := q.x.toNat_lt; have b' := q.y.toNat_lt; have c' := q.z.toNat_lt
  unfold P3.toNat at h
  have h1 : p.x = q.x := D8.toNat_inj (by omega)
  have h2 : p.y = q.y := D8.toNat_inj (by omega)
  have h3 : p.z = q.z := D8.toNat_inj (by omega)
  cases p; cases q; simp_all
theorem P3.toNat_ofNat (n : Nat) (h : n < 512) : (P3.ofNat n).toNat = n := by
  unfold P3.ofNat P3.toNat
  rw [D8.toNat_fromNat _ (by omega), D8.toNat_fromNat _ (by omega), D8.toNat_fromNat _ (by omega)]; omega
theorem D8.beq_iff (a b : D8) : a.beq b = true ↔ a = b := by
  unfold D8.beq; rw [Nat.beq_eq]
  exact ⟨D8.toNat_inj, fun h => by rw [h]⟩
theorem Bid.beq_iff (a b : Bid) : a.beq b = true ↔ a = b := by
  cases a; cases b
  simp only [Bid.beq, Bool.and_eq_true, D8.beq_iff, Bid.mk.injEq]
  constructor
  · rintro ⟨h1, h2, h3, h4, h5⟩; exact ⟨h5, h4, h3, h2, h1⟩
  · rintro ⟨h1, h2, h3, h4, h5⟩; exact ⟨h5, h4, h3, h2, h1⟩
theorem Tm.putK_eq {β : Type} (p : P3) (v : AV) (t : Tm) (k : Tm → Option β) : Tm.putK p v t k = k (t.put p v) := by
  cases p; simp only [Tm.putK, Tm.putP, upd_eq, Tm.put]
theorem Tm.get_put (p q : P3) (v : AV) (t : Tm) : (t.put p v).get q = if q = p then v else t.get q := by
  obtain ⟨x, y, z⟩ := p; obtain ⟨x', y', z'⟩ := q
  simp only [Tm.put, Tm.get, sel_set, P3.mk.injEq]
  by_cases hx : x' = x
  · subst hx
    by_cases hy : y' = y
    · subst hy
      by_cases hz : z' = z
      · subst hz; simp [sel_set]
      · simp [sel_set, hz]
    · simp [sel_set, hy]
  · simp [hx]
theorem Hp.putK_eq {β : Type} (b : Bid) (o : AObj) (h : Hp) (k : Hp → Option β) : Hp.putK b o h k = k (h.put b o) := by
  cases b; simp only [Hp.putK, Hp.putP, upd_eq, Hp.put]
theorem Hp.get_put (b c : Bid) (o : AObj) (h : Hp) : (h.put b o).get c = if c = b then o else h.get c := by
  obtain ⟨x, y, z, u, v⟩ := b; obtain ⟨x', y', z', u', v'⟩ := c
  simp only [Hp.put, Hp.get, sel_set, Bid.mk.injEq]
  by_cases hx : x' = x
  · subst hx
    by_cases hy : y' = y
    · subst hy
      by_cases hz : z' = z
      · subst hz
        by_cases hu : u' = u
        · subst hu
          by_cases hv : v' = v
          · subst hv; simp [sel_set]
          · simp [sel_set, hv]
        · simp [sel_set, hu]
      · simp [sel_set, hz]
    · simp [sel_set, hy]
  · simp [hx]
theorem sel_all {α : Type} (d : D8) (a : α) : N8.sel d ⟨a, a, a, a, a, a, a, a⟩ = a := by cases d <;> rfl
theorem e3_get (p : P3) : e3.get p = .un := by
  obtain ⟨x, y, z⟩ := p
  simp only [Tm.get, e3, e2, e1, sel_all]
theorem succK_ok {β : Type} (b : Bid) (k : Bid → Option β) : ∃ c, Bid.succK b k = k c := by
  obtain ⟨x, y, z, u, v⟩ := b
  unfold Bid.succK
  repeat' (first | exact ⟨_, rfl⟩ | split)
/-! ### numbers and lists, worked out -/
section
variable {α β : Type}
@[simp] theorem natK_eq (n : Nat) (k : Nat → Option β) : natK n k = k n := by cases n <;> rfl
@[simp] theorem intK_eq (n : Int) (k : Int → Option β) : intK n k = k n := by cases n <;> simp [intK]
@[simp] theorem boolK_eq (b : Bool) (k : Bool → Option β) : boolK b k = k b := by cases b <;> rfl
@[simp] theorem avK_eq (v : AV) (k : AV → Option β) : avK v k = k v := by cases v <;> rfl
theorem getK_ok {l : List α} {n : Nat} {k : α → Option β} {r : β} (h : getK l n k = some r) : ∃ a, l[n]? = some a ∧ k a = some r := by
  induction l generalizing n with
  | nil => simp [getK] at h
  | cons a l ih =>
    cases n with
    | zero => exact ⟨a, rfl, h⟩
    | succ n => obtain ⟨b, hb, hk⟩ := ih (n := n) h; exact ⟨b, by simpa using hb, hk⟩
theorem setK_ok {l : List α} {n : Nat} {v : α} {k : List α → Option β} {r : β} (h : setK l n v k = some r) : n < l.length ∧ k (l.set n v) = some r := by
  induction l generalizing n k with
  | nil => simp [setK] at h
  | cons a l ih =>
    cases n with
    | zero => exact ⟨by simp, h⟩
    | succ n => obtain ⟨hb, hk⟩ := ih (n := n) h; exact ⟨by simpa using hb, hk⟩
theorem dropK_ok {n : Nat} {l : List α} {k : List α → Option β} {r : β} (h : dropK n l k = some r) : n ≤ l.length ∧ k (l.drop n) = some r := by
  induction n generalizing l with
  | zero => exact ⟨by simp, h⟩
  | succ n ih =>
    cases l with
    | nil => simp [dropK] at h
    | cons a l => obtain ⟨h1, h2⟩ := ih (l := l) h; exact ⟨by simpa using h1, h2⟩
theorem takeK_ok {n : Nat} {l : List α} {k : List α → Option β} {r : β} (h : takeK n l k = some r) : n ≤ l.length ∧ k (l.take n) = some r := by
  induction n generalizing l k with
  | zero => exact ⟨by simp, h⟩
  | succ n ih =>
    cases l with
    | nil => simp [takeK] at h
    | cons a l => obtain ⟨h1, h2⟩ := ih (l := l) h; exact ⟨by simpa using h1, h2⟩
theorem appK_eq (l m : List α) (k : List α → Option β) : appK l m k = k (l ++ m) := by
  induction l generalizing k with
  | nil => rfl
  | cons a l ih => simp [appK, ih]
def over (l : List α) (o : Nat) (m : List α) : List α := l.take o ++ (m ++ l.drop (o + m.length))
theorem overK_ok {l : List α} {o : Nat} {m : List α} {k : List α → Option β} {r : β} (h : overK l o m k = some r) : o + m.length ≤ l.length ∧ k (over l o m) = some r := by
  induction o generalizing l k with
  | zero =>
    rw [overK.eq_def] at h
    simp only at h
    obtain ⟨h1, h2⟩ := dropK_ok h
    rw [appK_eq] at h2
    refine ⟨by omega, ?_⟩
    simp only [over, List.take_zero, List.nil_append, Nat.zero_add]; exact h2
  | succ o ih =>
    cases l with
    | nil => simp [overK] at h
    | cons a l =>
      obtain ⟨h1, h2⟩ := ih (l := l) h
      refine ⟨by simp; omega, ?_⟩
      have e : o + 1 + m.length = (o + m.length) + 1 := by omega
      simp only [over, List.take_succ_cons, List.cons_append, e, List.drop_succ_cons]; exact h2
theorem repK_eq (n : Nat) (z : List α) (k : List α → Option β) : repK n z k = k ((List.replicate n z).flatten) := by
  induction n generalizing k with
  | zero => rfl
  | succ n ih => simp only [repK, ih, appK_eq, List.replicate_succ, List.flatten_cons]
end
theorem intEq_eq (a b : Int) : intEq a b = (a == b) := by
  cases a <;> cases b <;> simp only [intEq] <;> rw [Bool.eq_iff_iff] <;> simp [Nat.beq_eq]
  omega
theorem intLe_eq (a b : Int) : intLe a b = decide (a ≤ b) := by
  cases a <;> cases b <;> simp only [intLe] <;> rw [Bool.eq_iff_iff] <;> simp only [Nat.ble_eq, decide_eq_true_eq, Int.ofNat_eq_natCast, true_iff, Bool.false_eq_true, false_iff] <;> omega
theorem intLt_eq (a b : Int) : intLt a b = decide (a < b) := by
  unfold intLt; rw [intLe_eq, Bool.eq_iff_iff]; simp
theorem kindEq_iff (a b : IntKind) : kindEq a b = true ↔ a = b := by cases a <;> cases b <;> simp [kindEq, kindCode]
theorem strEq_eq (a b : List Nat) : strEq a b = (a == b) := by
  induction a generalizing b with
  | nil => cases b <;> rfl
  | cons x a ih => cases b with
    | nil => rfl
    | cons y b =>
      simp only [strEq, ih]
      rw [Bool.eq_iff_iff]; simp [Nat.beq_eq]
theorem wrapSlow_eq {β : Type} (kd : IntKind) (n : Int) (k : Int → Option β) : wrapSlow kd n k = k (kd.wrap n) := by simp [wrapSlow]
theorem wrap_pos (kd : IntKind) (m : Nat) (h : m ≤ hiOf kd) : kd.wrap (m : Int) = (m : Int) := by
  cases kd <;> simp only [hiOf] at h
  · exact IntWalk.i8_in _ (by omega)
  · exact IntWalk.i16_in _ (by omega)
  · exact IntWalk.i32_in _ (by omega)
  · exact IntWalk.i64_in _ (by omega)
  · exact IntWalk.u8_in _ (by omega)
  · exact IntWalk.u16_in _ (by omega)
  · exact IntWalk.u32_in _ (by omega)
  · exact IntWalk.u64_in _ (by omega)
theorem wrap_neg (kd : IntKind) (m : Nat) (h0 : kd.signed = true) (h : m ≤ hiOf kd) : kd.wrap (Int.negSucc m) = Int.negSucc m := by
  cases kd <;> simp only [hiOf] at h
  · exact IntWalk.i8_in _ (by omega)
  · exact IntWalk.i16_in _ (by omega)
  · exact IntWalk.i32_in _ (by omega)
  · exact IntWalk.i64_in _ (by omega)
  · cases h0
  · cases h0
  · cases h0
  · cases h0
theorem wrapPos_eq {β : Type} (kd : IntKind) (m : Nat) (k : Int → Option β) : wrapPos kd m k = k (kd.wrap (.ofNat m)) := by
  unfold wrapPos
  split
  · rename_i h
    rw [Nat.ble_eq] at h
    rw [Int.ofNat_eq_natCast, wrap_pos kd m h]
  · exact wrapSlow_eq _ _ _
theorem wrapNeg_eq {β : Type} (kd : IntKind) (m : Nat) (k : Int → Option β) : wrapNeg kd m k = k (kd.wrap (.negSucc m)) := by
  unfold wrapNeg
  split
  · rename_i h
    rw [Bool.and_eq_true, Nat.ble_eq] at h
    obtain ⟨h0, h⟩ := h
    rw [wrap_neg kd m h0 h]
  · exact wrapSlow_eq _ _ _
@[simp] theorem wrapK_eq {β : Type} (kd : IntKind) (n : Int) (k : Int → Option β) : wrapK kd n k = k (kd.wrap n) := by
  cases n with
  | ofNat m => simp [wrapK, wrapPos_eq]
  | negSucc m => simp [wrapK, wrapNeg_eq]
/-! ### the relation -/
structure Loc where
  blk : Nat
  base : Nat
  cap : Nat
abbrev Inj := Bid → Option Loc
def SlRel (l : Loc) (o n : Nat) : Cap → Value → Prop
  | .ex c, v => v = .slice (some ⟨l.blk, l.base + o, none⟩) n c
  | .op g, v => v = .slice (some ⟨l.blk, l.base + o, none⟩) n (l.cap - g) ∧ g + n ≤ l.cap
  | .em, v => n = 0 ∧ ∃ a c, v = .slice (some a) 0 c
mutual
def VRel (μ : Inj) : AV → Value → Prop
  | .un, _ => True
  | .bool b, v => v = .bool b
  | .int k n, v => v = .int k n
  | .sint k n _, v => v = .int k n
  | .nz k n _, v => v = .int k n ∧ n ≠ 0
  | .sbool b _, v => v = .bool b
  | .str s, v => ∃ t : ByteArray, v = .string t ∧ t.data.toList.map UInt8.toNat = s
  | .ptr b o, v => ∃ l, μ b = some l ∧ v = .pointer (some ⟨l.blk, l.base + o, none⟩)
  | .nilp, v => v = .pointer none
  | .slice b o n c, v => ∃ l, μ b = some l ∧ SlRel l o n c v
  | .nils, v => v = .slice none 0 0
  | .map b, v => ∃ l, μ b = some l ∧ v = .map (some l.blk)
  | .nilm, v => v = .map none
  | .func fn a b, v => ∃ x y : Array Value, v = .func fn x y ∧ VRels μ a x.toList ∧ VRels μ b y.toList
  | .nilf, v => v = .nilFunc
  | .iface t a, v => ∃ x, v = .iface t x ∧ VRel μ a x
  | .nili, v => v = .nilIface
  | .agg l, v => ∃ cs : Array Value, v = .agg cs ∧ VRels μ l cs.toList
  | .tup l, v => ∃ cs : Array Value, v = .tuple cs ∧ VRels μ l cs.toList
def VRels (μ : Inj) : List AV → List Value → Prop
  | [], vs => vs = []
  | a :: l, vs => ∃ v r, vs = v :: r ∧ VRel μ a v ∧ VRels μ l r
end
def Le (μ ν : Inj) : Prop := ∀ b l, μ b = some l → ν b = some l
theorem Le.refl (μ : Inj) : Le μ μ := fun _ _ h => h
theorem Le.trans {a b c : Inj} (h : Le a b) (k : Le b c) : Le a c := fun x l hx => k x l (h x l hx)
mutual
theorem VRel.mono {μ ν : Inj} (h : Le μ ν) : ∀ (a : AV) (v : Value), VRel μ a v → VRel ν a v
  | .un, _, _ => by simp [VRel]
  | .bool _, _, hv => by simpa only [VRel] using hv
  | .int _ _, _, hv => by simpa only [VRel] using hv
  | .sint _ _ _, _, hv => by simpa only [VRel] using hv
  | .nz _ _ _, _, hv => by simpa only [VRel] using hv
  | .sbool _ _, _, hv => by simpa only [VRel] using hv
  | .str _, _, hv => by simpa only [VRel] using hv
  | .ptr b o, v, hv => by simp only [VRel] at hv ⊢; obtain ⟨l, h1, h2⟩ := hv; exact ⟨l, h b l h1, h2⟩
  | .nilp, _, hv => by simpa only [VRel] using hv
  | .slice b o n c, v, hv => by simp only [VRel] at hv ⊢; obtain ⟨l, h1, h2⟩ := hv; exact ⟨l, h b l h1, h2⟩
  | .nils, _, hv => by simpa only [VRel] using hv
  | .map b, v, hv => by simp only [VRel] at hv ⊢; obtain ⟨l, h1, h2⟩ := hv; exact ⟨l, h b l h1, h2⟩
  | .nilm, _, hv => by simpa only [VRel] using hv
  | .func fn a b, v, hv => by
    simp only [VRel] at hv ⊢; obtain ⟨x, y, h1, h2, h3⟩ := hv
    exact ⟨x, y, h1, VRels.mono h a _ h2, VRels.mono h b _ h3⟩
  | .nilf, _, hv => by simpa only [VRel] using hv
  | .iface t a, v, hv => by simp only [VRel] at hv ⊢; obtain ⟨x, h1, h2⟩ := hv; exact ⟨x, h1, VRel.mono h a _ h2⟩
  | .nili, _, hv => by simpa only [VRel] using hv
  | .agg l, v, hv => by simp only [VRel] at hv ⊢; obtain ⟨x, h1, h2⟩ := hv; exact ⟨x, h1, VRels.mono h l _ h2⟩
  | .tup l, v, hv => by simp only [VRel] at hv ⊢; obtain ⟨x, h1, h2⟩ := hv; exact ⟨x, h1, VRels.mono h l _ h2⟩
theorem VRels.mono {μ ν : Inj} (h : Le μ ν) : ∀ (a : List AV) (v : List Value), VRels μ a v → VRels ν a v
  | [], _, hv => by simpa only [VRels] using hv
  | a :: l, v, hv => by
    simp only [VRels] at hv ⊢; obtain ⟨x, r, h1, h2, h3⟩ := hv
    exact ⟨x, r, h1, VRel.mono h a _ h2, VRels.mono h l _ h3⟩
end
theorem VRels.length {μ : Inj} : ∀ {a : List AV} {v : List Value}, VRels μ a v → a.length = v.length
  | [], _, h => by simp only [VRels] at h; subst h; rfl
  | _ :: l, _, h => by simp only [VRels] at h; obtain ⟨x, r, rfl, _, h3⟩ := h; simp [VRels.length h3]
theorem VRels.get {μ : Inj} : ∀ {a : List AV} {v : List Value}, VRels μ a v → ∀ {n : Nat} {x : AV}, a[n]? = some x → ∃ y, v[n]? = some y ∧ VRel μ x y
  | [], _, h, n, x, hx => by simp at hx
  | a :: l, _, h, n, x, hx => by
    simp only [VRels] at h; obtain ⟨y, r, rfl, h2, h3⟩ := h
    cases n with
    | zero => simp at hx; subst hx; exact ⟨y, rfl, h2⟩
    | succ n => simp at hx; obtain ⟨z, hz, hr⟩ := VRels.get h3 hx; exact ⟨z, by simpa using hz, hr⟩
theorem VRels.app {μ : Inj} : ∀ {a b : List AV} {v w : List Value}, VRels μ a v → VRels μ b w → VRels μ (a ++ b) (v ++ w)
  | [], _, _, _, h, k => by simp only [VRels] at h; subst h; simpa using k
  | a :: l, _, _, _, h, k => by
    simp only [VRels] at h; obtain ⟨y, r, rfl, h2, h3⟩ := h
    simp only [List.cons_append, VRels]; exact ⟨y, _, rfl, h2, VRels.app h3 k⟩
theorem VRels.drop {μ : Inj} : ∀ {a : List AV} {v : List Value} (n : Nat), VRels μ a v → VRels μ (a.drop n) (v.drop n)
  | _, _, 0, h => by simpa using h
  | [], _, n + 1, h => by simp only [VRels] at h; subst h; simp [VRels]
  | a :: l, _, n + 1, h => by simp only [VRels] at h; obtain ⟨y, r, rfl, h2, h3⟩ := h; simpa using VRels.drop n h3
theorem VRels.take {μ : Inj} : ∀ {a : List AV} {v : List Value} (n : Nat), VRels μ a v → VRels μ (a.take n) (v.take n)
  | _, _, 0, h => by simp [VRels]
  | [], _, n + 1, h => by simp only [VRels] at h; subst h; simp [VRels]
  | a :: l, _, n + 1, h => by simp only [VRels] at h; obtain ⟨y, r, rfl, h2, h3⟩ := h; simp only [List.take_succ_cons, VRels]; exact ⟨y, _, rfl, h2, VRels.take n h3⟩
theorem VRels.over {μ : Inj} {a b : List AV} {v w : List Value} (o : Nat) (h : VRels μ a v) (k : VRels μ b w) : VRels μ (over a o b) (over v o w) := by
  unfold Eng.over; rw [← k.length]; exact (h.take o).app (k.app (h.drop _))
theorem VRels.flat {μ : Inj} {a : List AV} {v : List Value} (h : VRels μ a v) : ∀ n, VRels μ ((List.replicate n a).flatten) ((List.replicate n v).flatten)
  | 0 => by simp [VRels]
  | n + 1 => by simp only [List.replicate_succ, List.flatten_cons]; exact h.app (h.flat n)
theorem VRels.repl {μ : Inj} {a : List AV} {v : List Value} (h : VRels μ a v) : ∀ n, VRels μ (repL n a) ((List.replicate n v).flatten)
  | 0 => by simp [VRels, repL]
  | n + 1 => by simp only [List.replicate_succ, List.flatten_cons, repL]; exact h.app (h.repl n)
/-! ### what is not worked out -/
theorem symFork_ok {β : Type} {g : Nat} {b : Bool} {x y : Option β} {r : β} (h : symFork g b x y = some r) : (b = true ∧ x = some r) ∨ (b = false ∧ y = some r) := by
  unfold symFork tagB at h
  split at h
  · cases b
    · exact .inr ⟨rfl, h⟩
    · exact .inl ⟨rfl, h⟩
  · cases b
    · cases h
    · exact .inl ⟨rfl, h⟩
  · cases b
    · exact .inr ⟨rfl, h⟩
    · cases h
theorem forkI_ok {β : Type} {r : β} {g : Nat} : ∀ {n : Nat} {i : Int} {k : Nat → Option β}, forkI g n i k = some r → ∃ j : Nat, j < n ∧ i = (j : Int) ∧ k j = some r
  | 0, i, k, h => by simp [forkI] at h
  | n + 1, i, k, h => by
    rcases symFork_ok h with ⟨h1, h⟩ | ⟨_, h⟩
    · exact ⟨n, by omega, by simpa using h1, h⟩
    · obtain ⟨j, h1, h2, h3⟩ := forkI_ok h; exact ⟨j, by omega, h2, h3⟩
theorem intOf_ok {β : Type} {μ : Inj} {r : β} {a : AV} {v : Value} {k : IntKind → Int → Nat → Option β} (hv : VRel μ a v) (h : intOf a k = some r) : ∃ kd n g, v = .int kd n ∧ k kd n g = some r := by
  unfold intOf at h
  split at h
  · simp only [VRel] at hv; exact ⟨_, _, _, hv, h⟩
  · simp only [VRel] at hv; exact ⟨_, _, _, hv, h⟩
  · simp only [VRel] at hv; exact ⟨_, _, _, hv.1, h⟩
  · cases h
theorem truthOf_ok {β : Type} {μ : Inj} {r : β} {a : AV} {v : Value} {k : Bool → Nat → Option β} (hv : VRel μ a v) (h : truthOf a k = some r) : ∃ b g, v = .bool b ∧ k b g = some r := by
  unfold truthOf at h
  split at h
  · simp only [VRel] at hv; exact ⟨_, _, hv, h⟩
  · simp only [VRel] at hv; exact ⟨_, _, hv, h⟩
  · cases h
/-! ### memory -/
def unfrozen (n : Nat) (fr : Nat × Nat) : Prop := ∀ i, i < n → ¬ (fr.1 ≤ i ∧ i < fr.2)
def ERels (μ : Inj) : List (AV × AV × Nat) → List MapEntry → Prop
  | [], es => es = []
  | (k, v, n) :: l, es => ∃ e r, es = e :: r ∧ VRel μ k e.key ∧ VRel μ v e.val ∧ e.born = n ∧ ERels μ l r
theorem ERels.mono {μ ν : Inj} (h : Le μ ν) : ∀ (l : List (AV × AV × Nat)) (es : List MapEntry), ERels μ l es → ERels ν l es
  | [], _, hv => by simpa only [ERels] using hv
  | (k, v, n) :: l, es, hv => by
    simp only [ERels] at hv ⊢
    obtain ⟨e, r, h1, h2, h3, h4, h5⟩ := hv
    exact ⟨e, r, h1, VRel.mono h _ _ h2, VRel.mono h _ _ h3, h4, ERels.mono h l _ h5⟩
def ObjRel (μ : Inj) (w : World) (l : Loc) : AObj → Prop
  | .no => False
  | .dead => True
  | .cells c => l.base = 0 ∧ ∃ (arr : Array Value) (t : TypeId), w.heap[l.blk]? = some (.cells arr t (0, 0)) ∧ VRels μ c arr.toList
  | .opn c sz => ∃ (arr : Array Value) (t : TypeId) (fr : Nat × Nat), w.heap[l.blk]? = some (.cells arr t fr) ∧ unfrozen arr.size fr ∧ l.base + l.cap * sz ≤ arr.size ∧
      VRels μ c ((arr.toList.drop l.base).take c.length)
  | .map es clock => ∃ ents : Array MapEntry, w.heap[l.blk]? = some (.map ents clock) ∧ ERels μ es ents.toList
def live : AObj → Bool
  | .no => false
  | .dead => false
  | _ => true
theorem ObjRel.mono {μ ν : Inj} (h : Le μ ν) {w : World} {l : Loc} {o : AObj} (hr : ObjRel μ w l o) : ObjRel ν w l o := by
  cases o with
  | no => exact hr
  | dead => trivial
  | cells c => obtain ⟨h1, arr, t, h2, h3⟩ := hr; exact ⟨h1, arr, t, h2, h3.mono h⟩
  | opn c sz => obtain ⟨arr, t, fr, h2, h3, h4, h5⟩ := hr; exact ⟨arr, t, fr, h2, h3, h4, h5.mono h⟩
  | map es c => obtain ⟨ents, h2, h3⟩ := hr; exact ⟨ents, h2, h3.mono h⟩
theorem ObjRel.of_block {μ : Inj} {w w' : World} {l : Loc} {o : AObj} (hr : ObjRel μ w l o) (hb : live o = true → w'.heap[l.blk]? = w.heap[l.blk]?) : ObjRel μ w' l o := by
  cases o with
  | no => exact hr
  | dead => trivial
  | cells c => have := hb rfl; obtain ⟨h1, arr, t, h2, h3⟩ := hr; exact ⟨h1, arr, t, this.trans h2, h3⟩
  | opn c sz => have := hb rfl; obtain ⟨arr, t, fr, h2, h3, h4, h5⟩ := hr; exact ⟨arr, t, fr, this.trans h2, h3, h4, h5⟩
  | map es c => have := hb rfl; obtain ⟨ents, h2, h3⟩ := hr; exact ⟨ents, this.trans h2, h3⟩
theorem ObjRel.lt {μ : Inj} {w : World} {l : Loc} {o : AObj} (hr : ObjRel μ w l o) (hl : live o = true) : l.blk < w.heap.size := by
  have key : ∀ {x : Obj}, w.heap[l.blk]? = some x → l.blk < w.heap.size := fun {x} hx => by
    rcases Nat.lt_or_ge l.blk w.heap.size with h | h
    · exact h
    · simp [Array.getElem?_eq_none h] at hx
  cases o with
  | no => simp [live] at hl
  | dead => simp [live] at hl
  | cells c => obtain ⟨h1, arr, t, h2, h3⟩ := hr; exact key h2
  | opn c sz => obtain ⟨arr, t, fr, h2, h3, h4, h5⟩ := hr; exact key h2
  | map es c => obtain ⟨ents, h2, h3⟩ := hr; exact key h2
def Used (μ : Inj) (g : Bid → AObj) (c : Nat) : Prop := ∃ b l, μ b = some l ∧ live (g b) = true ∧ l.blk = c
def GlobAt (w : World) (n : Nat) (l : List (List Nat)) : Prop := n < w.heap.size ∧ ∀ i s, l[i]? = some s → w.cell? ⟨n, i, none⟩ = some (.string ⟨(s.map UInt8.ofNat).toArray⟩)
def GLW (w : World) : Prop := ∀ n l, globStr n = some l → GlobAt w n l
def GL (μ : Inj) (g : Bid → AObj) (w : World) : Prop := ∀ n l, globStr n = some l → GlobAt w n l ∧ ¬ Used μ g n
structure HR (μ : Inj) (g : Bid → AObj) (w : World) : Prop where
  ok : ∀ b l, μ b = some l → ObjRel μ w l (g b)
  inj : ∀ b b' l l', μ b = some l → μ b' = some l' → live (g b) = true → live (g b') = true → l.blk = l'.blk → b = b'
  gl : GL μ g w
theorem GlobAt.keep {w w' : World} {n : Nat} {l : List (List Nat)} (h : GlobAt w n l) (hs : w.heap.size ≤ w'.heap.size) (hb : w'.heap[n]? = w.heap[n]?) : GlobAt w' n l :=
  ⟨Nat.lt_of_lt_of_le h.1 hs, fun i s hi => by have := h.2 i s hi; unfold World.cell? at this ⊢; rw [hb]; exact this⟩
theorem GL.sub {μ μ' : Inj} {g g' : Bid → AObj} {w : World} (h : GL μ g w) (hu : ∀ c, Used μ' g' c → Used μ g c) : GL μ' g' w := fun n l hn => ⟨(h n l hn).1, fun hc => (h n l hn).2 (hu n hc)⟩
structure Drew (w w' : World) : Prop where
  heap : w'.heap = w.heap
  os : w'.os = w.os
  tape : w'.tape = w.tape
  output : w'.output = w.output
theorem Drew.refl (w : World) : Drew w w := ⟨rfl, rfl, rfl, rfl⟩
theorem HR.drew {μ : Inj} {g : Bid → AObj} {w w' : World} (h : HR μ g w) (d : Drew w w') : HR μ g w' :=
  ⟨fun b l hb => (h.ok b l hb).of_block (fun _ => by rw [d.heap]), h.inj, fun n l hn => ⟨(h.gl n l hn).1.keep (by rw [d.heap]; exact Nat.le_refl _) (by rw [d.heap]), (h.gl n l hn).2⟩⟩
structure Fr (μ : Inj) (g : Bid → AObj) (w : World) (μ' : Inj) (g' : Bid → AObj) (w' : World) : Prop where
  le : Le μ μ'
  new : ∀ b, μ b = none → μ' b ≠ none → g b = .no
  os : w'.os = w.os
  tape : w'.tape = w.tape
  output : w'.output = w.output
  size : w.heap.size ≤ w'.heap.size
  same : ∀ c, c < w.heap.size → ¬ Used μ g c → w'.heap[c]? = w.heap[c]?
  used : ∀ c, Used μ' g' c → Used μ g c ∨ w.heap.size ≤ c
  pres : ∀ b, g b ≠ .no → g' b ≠ .no
theorem GL.fr {μ μ' : Inj} {g g' : Bid → AObj} {w w' : World} (h : GL μ g w) (f : Fr μ g w μ' g' w') : GL μ' g' w' := fun n l hn =>
  have hg := h n l hn
  ⟨hg.1.keep f.size (f.same n hg.1.1 hg.2), fun hu => (f.used n hu).elim hg.2 fun hle => Nat.lt_irrefl _ (Nat.lt_of_lt_of_le hg.1.1 hle)⟩
theorem HR.pair {μ μ' : Inj} {g g' : Bid → AObj} {w w' : World} (h : GL μ g w) (ok : ∀ b l, μ' b = some l → ObjRel μ' w' l (g' b))
    (inj : ∀ b b' l l', μ' b = some l → μ' b' = some l' → live (g' b) = true → live (g' b') = true → l.blk = l'.blk → b = b') (f : Fr μ g w μ' g' w') : HR μ' g' w' ∧ Fr μ g w μ' g' w' := ⟨⟨ok, inj, h.fr f⟩, f⟩
theorem Fr.refl (μ : Inj) (g : Bid → AObj) (w : World) : Fr μ g w μ g w :=
  ⟨Le.refl _, fun b h h' => absurd h h', rfl, rfl, rfl, Nat.le_refl _, fun _ _ _ => rfl, fun c h => .inl h, fun _ h => h⟩
theorem Fr.trans {μ1 μ2 μ3 : Inj} {g1 g2 g3 : Bid → AObj} {w1 w2 w3 : World} (h : Fr μ1 g1 w1 μ2 g2 w2) (k : Fr μ2 g2 w2 μ3 g3 w3) : Fr μ1 g1 w1 μ3 g3 w3 where
  le := h.le.trans k.le
  new := fun b hb hb' => by
    cases h2 : μ2 b with
    | none =>
      have := k.new b h2 hb'
      by_cases hg : g1 b = .no
      · exact hg
      · exact absurd this (h.pres b hg)
    | some l => exact h.new b hb (by rw [h2]; simp)
  os := k.os.trans h.os
  tape := k.tape.trans h.tape
  output := k.output.trans h.output
  size := Nat.le_trans h.size k.size
  same := fun c hc hu => by
    rw [k.same c (Nat.lt_of_lt_of_le hc h.size) (fun hu' => by
      rcases h.used c hu' with h1 | h1
      · exact hu h1
      · omega), h.same c hc hu]
  used := fun c hu => by
    rcases k.used c hu with h1 | h1
    · exact h.used c h1
    · exact .inr (Nat.le_trans h.size h1)
  pres := fun b hb => k.pres b (h.pres b hb)
theorem Fr.drew {μ : Inj} {g : Bid → AObj} {w w' : World} (d : Drew w w') : Fr μ g w μ g w' :=
  ⟨Le.refl _, fun b h h' => absurd h h', d.os, d.tape, d.output, by rw [d.heap]; exact Nat.le_refl _, fun c _ _ => by rw [d.heap], fun c h => .inl h, fun _ h => h⟩
end Go.Proofs.Ytkejnhmhbmbhcaa.Eng
namespace Go.Proofs.Ytkejnhmhbmbhcaa.Eng
open Go
def upd (μ : Inj) (x : Bid) (l : Loc) : Inj := fun b => if b = x then some l else μ b
theorem le_upd {μ : Inj} {x : Bid} (l : Loc) (h : μ x = none) : Le μ (upd μ x l) := by
  intro b m hb
  unfold upd
  split
  · rename_i e; subst e; rw [h] at hb; cases hb
  · exact hb
theorem upd_self (μ : Inj) (x : Bid) (l : Loc) : upd μ x l x = some l := by simp [upd]
def NRes (μ : Inj) (w : World) (x : Bid) (ob : Option AObj) (v : AV) (cv : Value) (w' : World) : Prop :=
  w'.os = w.os ∧ w'.tape = w.tape ∧ w'.output = w.output ∧
  match ob with
  | none => w'.heap = w.heap ∧ VRel μ v cv
  | some o => live o = true ∧ ∃ (c : Nat) (ho : Obj), w'.heap = w.heap.push ho ∧ VRel (upd μ x ⟨w.heap.size, 0, c⟩) v cv ∧ ObjRel (upd μ x ⟨w.heap.size, 0, c⟩) w' ⟨w.heap.size, 0, c⟩ o
def NGood {β : Type} (P : Program) (μ : Inj) (w : World) (x : Bid) (s : Sem Value) (k : AV → Option AObj → Option β) (r : β) : Prop :=
  ∃ v ob, k v ob = some r ∧ ∃ cv w', s.run P w = .ok cv w' ∧ NRes μ w x ob v cv w'
section
variable {β : Type} {P : Program} {μ : Inj} {w : World} {x : Bid} {s : Sem Value} {k : AV → Option AObj → Option β} {r : β} {hp : Hp} {vs : List AV}
theorem NGood.pure {v : AV} {cv : Value} (h : k v none = some r) (hs : s.run P w = .ok cv w) (hv : VRel μ v cv) : NGood P μ w x s k r :=
  ⟨v, none, h, cv, w, hs, rfl, rfl, rfl, rfl, hv⟩
theorem NGood.new {v : AV} {o : AObj} {cv : Value} {ho : Obj} {w1 : World} (c : Nat) (h : k v (some o) = some r) (hs : s.run P w = .ok cv w1) (hw : w1.heap = w.heap.push ho) (h1 : w1.os = w.os) (h2 : w1.tape = w.tape) (h3 : w1.output = w.output)
    (hl : live o = true) (hv : VRel (upd μ x ⟨w.heap.size, 0, c⟩) v cv) (hob : ObjRel (upd μ x ⟨w.heap.size, 0, c⟩) w1 ⟨w.heap.size, 0, c⟩ o) : NGood P μ w x s k r :=
  ⟨v, some o, h, cv, w1, hs, h1, h2, h3, hl, c, ho, hw, hv, hob⟩
theorem run_underlying {t : TypeId} {d : TypeDesc} (h : P.underlying t = some d) (w : World) : (underlying t).run P w = .ok d w := by simp [underlying, h]
theorem run_typeInfo {t : TypeId} {i : TypeInfo} (h : P.info? t = some i) (w : World) : (typeInfo t).run P w = .ok i w := by simp [typeInfo, h]
theorem run_sizeOf {t : TypeId} {n : Nat} (h : sizeP P t = some n) (w : World) : (sizeOf t).run P w = .ok n w := by
  unfold sizeP at h; rw [Option.map_eq_some_iff] at h; obtain ⟨i, hi, rfl⟩ := h
  simp [sizeOf, run_typeInfo hi]
theorem run_isAgg {t : TypeId} {b : Bool} (h : isAggP P t = some b) (w : World) : (isAgg t).run P w = .ok b w := by
  unfold isAggP at h; rw [Option.map_eq_some_iff] at h; obtain ⟨d, hd, rfl⟩ := h
  simp only [isAgg, Sem.run_bind, run_underlying hd, Result.andThen_ok]
  split <;> simp
theorem scalarAV_ok {v : Value} {a : AV} (h : scalarAV v = some a) (μ : Inj) : VRel μ a v ∧ (∀ cs, v ≠ .agg cs) ∧ v.oneCell' = true := by
  unfold scalarAV at h
  split at h <;> first | (cases h; done) | skip
  all_goals (injection h with h; subst h; refine ⟨?_, by simp, rfl⟩; simp [VRel])
theorem scalarsAV_ok : ∀ {l : List Value} {a : List AV}, scalarsAV l = some a → ∀ μ : Inj, VRels μ a l ∧ ∀ v ∈ l, v.oneCell' = true
  | [], _, h, μ => by simp only [scalarsAV, Option.some.injEq] at h; subst h; simp [VRels]
  | v :: l, _, h, μ => by
    simp only [scalarsAV] at h
    split at h
    · rename_i a b ha hb
      injection h with h; subst h
      refine ⟨?_, ?_⟩
      · simp only [VRels]; exact ⟨v, l, rfl, (scalarAV_ok ha μ).1, (scalarsAV_ok hb μ).1⟩
      · intro u hu
        rcases List.mem_cons.1 hu with rfl | hu
        · exact (scalarAV_ok ha μ).2.2
        · exact (scalarsAV_ok hb μ).2 u hu
    · cases h
theorem toAV_ok {v : Value} {a : AV} (h : toAV v = some a) (μ : Inj) : VRel μ a v := by
  unfold toAV at h
  split at h
  · split at h
    · rename_i cs l hl
      injection h with h; subst h
      simp only [VRel]; exact ⟨_, rfl, (scalarsAV_ok hl μ).1⟩
    · cases h
  · exact (scalarAV_ok h μ).1
theorem zeroP_ok {t : TypeId} {z : List AV} (h : zeroP P t = some z) : ∃ i v, P.info? t = some i ∧ i.zero = some v ∧ (∀ μ, VRels μ z v.cells.toList) ∧ ∀ u ∈ v.cells.toList, u.oneCell' = true := by
  unfold zeroP at h
  split at h
  · rename_i i hi
    split at h
    · rename_i v hv
      exact ⟨i, v, hi, hv, fun μ => (scalarsAV_ok h μ).1, (scalarsAV_ok h (fun _ => none)).2⟩
    · cases h
  · cases h
theorem run_zeroValue {t : TypeId} {i : TypeInfo} {v : Value} (hi : P.info? t = some i) (hv : i.zero = some v) (w : World) : (zeroValue t).run P w = .ok v w := by
  simp [zeroValue, run_typeInfo hi, hv]
theorem zeroV_ok {t : TypeId} {z : AV} (h : zeroV P t = some z) : ∃ v, (∀ w, (zeroValue t).run P w = .ok v w) ∧ ∀ μ, VRel μ z v := by
  unfold zeroV at h
  split at h
  · rename_i i hi
    split at h
    · rename_i v hv
      exact ⟨v, fun w => run_zeroValue hi hv w, toAV_ok h⟩
    · cases h
  · cases h
def At (μ : Inj) (w : World) (l : Loc) (c : List AV) : Prop :=
  ∃ vals : List Value, VRels μ c vals ∧ ∀ j y, vals[j]? = some y → w.cell? ⟨l.blk, l.base + j, none⟩ = some y ∧ w.frozen? ⟨l.blk, l.base + j, none⟩ = false
theorem ObjRel.at {l : Loc} {o : AObj} {c : List AV} (h : ObjRel μ w l o) (hk : (∃ sz, o = .opn c sz) ∨ o = .cells c) : At μ w l c := by
  rcases hk with ⟨sz, rfl⟩ | rfl
  · obtain ⟨arr, t, fr, h2, h3, h4, h5⟩ := h
    refine ⟨_, h5, fun j y hy => ?_⟩
    rw [List.getElem?_take] at hy
    split at hy
    · rw [List.getElem?_drop, Array.getElem?_toList] at hy
      have hlt : l.base + j < arr.size := by
        rcases Nat.lt_or_ge (l.base + j) arr.size with h | h
        · exact h
        · simp [Array.getElem?_eq_none h] at hy
      refine ⟨by simp [World.cell?, h2, hy], ?_⟩
      have hf := h3 _ hlt
      simp only [World.frozen?, h2]
      rw [Bool.and_eq_false_iff]
      simp only [decide_eq_false_iff_not]
      by_cases hle : fr.1 ≤ l.base + j
      · right; exact fun hh => hf ⟨hle, hh⟩
      · left; exact hle
    · cases hy
  · obtain ⟨h1, arr, t, h2, h3⟩ := h
    refine ⟨_, h3, fun j y hy => ?_⟩
    rw [Array.getElem?_toList] at hy
    rw [h1, Nat.zero_add]
    exact ⟨by simp [World.cell?, h2, hy], by simp [World.frozen?, h2]⟩
theorem knownK_ok {o : AObj} {k' : List AV → Option β} (h : knownK o k' = some r) : ∃ c, ((∃ sz, o = .opn c sz) ∨ o = .cells c) ∧ k' c = some r := by
  cases o with
  | cells c => exact ⟨c, .inr rfl, h⟩
  | opn c sz => exact ⟨c, .inl ⟨sz, rfl⟩, h⟩
  | no => cases h
  | dead => cases h
  | map _ _ => cases h
theorem loc_add (l : Loc) (o j : Nat) : (⟨l.blk, l.base + o, none⟩ : Addr).add j = ⟨l.blk, l.base + (o + j), none⟩ := by
  unfold Addr.add; split
  · simp_all
  · simp; omega
theorem run_loadVar_at {t : TypeId} {g : Option Nat} (hg : aggP P t = some g) {l : Loc} {c : List AV} (ha : At μ w l c) {o : Nat} {k' : AV → Option β} (h : partK c o g k' = some r) :
    ∃ v cv, k' v = some r ∧ (loadVar t ⟨l.blk, l.base + o, none⟩).run P w = .ok cv w ∧ VRel μ v cv := by
  obtain ⟨vals, hv, hc⟩ := ha
  unfold aggP at hg
  split at hg
  · rename_i n h1 h2
    injection hg with hg; subst hg
    simp only [partK] at h
    obtain ⟨h3, h⟩ := dropK_ok h
    obtain ⟨h4, h⟩ := takeK_ok h
    have hrel := (hv.drop o).take n
    refine ⟨_, .agg ((vals.drop o).take n).toArray, h, ?_, by simp only [VRel]; exact ⟨_, rfl, by simpa using hrel⟩⟩
    have hlen : ((vals.drop o).take n).length = n := by rw [← hrel.length]; simp at h4 ⊢; omega
    have hl := run_loadCells_list (P := P) (w := w) ⟨l.blk, l.base + o, none⟩ ((vals.drop o).take n) (by
      intro j y hy
      rw [loc_add]
      rw [List.getElem?_take] at hy
      split at hy
      · rw [List.getElem?_drop] at hy; exact (hc _ y hy).1
      · cases hy)
    rw [hlen] at hl
    simp [loadVar, run_isAgg h1, run_sizeOf h2, hl]
  · rename_i h1 h2
    injection hg with hg; subst hg
    simp only [partK] at h
    obtain ⟨a, ha, h⟩ := getK_ok h
    rw [avK_eq] at h
    obtain ⟨y, hy, hr⟩ := hv.get ha
    exact ⟨a, y, h, by simp [loadVar, run_isAgg h1, (hc _ y hy).1], hr⟩
  · cases hg
theorem loadF_ok (hr : HR μ hp.get w) {t : TypeId} {g : Option Nat} (hg : aggP P t = some g) {c : Value} (hv : VRels μ vs [c]) (h : loadF g vs hp x k = some r) :
    NGood P μ w x (Instr.loadAt t c) k r := by
  unfold loadF at h
  split at h
  · rename_i b o
    simp only [VRels, VRel, List.cons.injEq] at hv
    obtain ⟨v, rr, ⟨rfl, rfl⟩, ⟨l, hl, rfl⟩, _⟩ := hv
    obtain ⟨c, hk, h⟩ := knownK_ok h
    have hat := (hr.ok b l hl).at hk
    obtain ⟨v, cv, hk', hrun, hrel⟩ := run_loadVar_at hg hat h
    exact .pure hk' (by simp [Instr.loadAt, Instr.sureAddr, hrun]) hrel
  · cases h
theorem globF_ok {n : Nat} {l : List (List Nat)} (hg : GlobAt w n l) {t : TypeId} {m : Nat} (hm : aggP P t = some (some m)) (hlen : l.length = m) {c : Value} (hc : c = .pointer (some ⟨n, 0, none⟩)) (hv : VRels μ vs [globVal l]) (h : mvF vs hp x k = some r) :
    NGood P μ w x (Instr.loadAt t c) k r := by
  unfold mvF at h
  split at h
  · simp only [VRels, List.cons.injEq] at hv
    obtain ⟨v, rr, ⟨e, rfl⟩, hv, _⟩ := hv
    subst hc
    refine .pure (cv := globVal l) h ?_ (by rw [e]; exact hv)
    unfold aggP at hm
    split at hm
    · rename_i n' h1 h2
      injection hm with hm; injection hm with hm; subst hm
      have hl := run_loadCells_list (P := P) (w := w) ⟨n, 0, none⟩ (l.map fun s => Value.string ⟨(s.map UInt8.ofNat).toArray⟩) (by
        intro j y hy
        rw [Go.WideShapes.add_plain, Nat.zero_add]
        rw [List.getElem?_map, Option.map_eq_some_iff] at hy
        obtain ⟨s, hs, rfl⟩ := hy
        exact hg.2 j s hs)
      rw [List.length_map, hlen] at hl
      simp [Instr.loadAt, Instr.sureAddr, loadVar, run_isAgg h1, run_sizeOf h2, hl, globVal]
    · cases hm
    · cases hm
  · cases h
theorem mvF_ok {c : Value} (hv : VRels μ vs [c]) (h : mvF vs hp x k = some r) : NGood P μ w x (pure c) k r := by
  unfold mvF at h
  split at h
  · simp only [VRels, List.cons.injEq] at hv
    obtain ⟨v, rr, ⟨rfl, rfl⟩, hv, _⟩ := hv
    exact .pure h rfl hv
  · cases h
theorem pickF_ok {c a b : Value} (hv : VRels μ vs [c, a, b]) (h : pickF vs hp x k = some r) :
    NGood P μ w x (do pure (if ← asBool c then a else b)) k r := by
  unfold pickF at h
  split at h
  · simp only [VRels, VRel, List.cons.injEq] at hv
    obtain ⟨v, rr, ⟨rfl, rfl⟩, rfl, v2, r2, ⟨rfl, rfl⟩, h2, v3, r3, ⟨rfl, rfl⟩, h3, _⟩ := hv
    exact .pure h (by simp [asBool]) h2
  · simp only [VRels, VRel, List.cons.injEq] at hv
    obtain ⟨v, rr, ⟨rfl, rfl⟩, rfl, v2, r2, ⟨rfl, rfl⟩, h2, v3, r3, ⟨rfl, rfl⟩, h3, _⟩ := hv
    exact .pure h (by simp [asBool]) h3
  · simp only [VRels, VRel, List.cons.injEq] at hv
    obtain ⟨v, rr, ⟨rfl, rfl⟩, rfl, v2, r2, ⟨rfl, rfl⟩, h2, v3, r3, ⟨rfl, rfl⟩, h3, _⟩ := hv
    rcases symFork_ok h with ⟨e, h⟩ | ⟨e, h⟩
    · exact .pure h (by simp [asBool, e]) h2
    · exact .pure h (by simp [asBool, e]) h3
  · cases h
theorem push_get (w1 w : World) (o : Obj) (h : w1.heap = w.heap.push o) : w1.heap[w.heap.size]? = some o := by rw [h]; simp
theorem NGood.cells {v : AV} {c : List AV} {cv : Value} {arr : Array Value} {t : TypeId} {w1 : World} (hx : ∀ v o, k v (some o) = some r → μ x = none) (h : k v (some (.cells c)) = some r) (hs : s.run P w = .ok cv w1) (hw : w1 = w.alloc (.cells arr t))
    (hv : VRel (upd μ x ⟨w.heap.size, 0, 0⟩) v cv) (hc : VRels μ c arr.toList) : NGood P μ w x s k r := by
  subst hw
  exact .new 0 h hs rfl rfl rfl rfl rfl hv ⟨rfl, arr, t, push_get _ _ _ rfl, hc.mono (le_upd _ (hx _ _ h))⟩
theorem allocF_ok (hx : ∀ v o, k v (some o) = some r → μ x = none) {t : TypeId} {z : List AV} (hz : zeroP P t = some z) (hv : VRels μ vs []) (h : allocF z vs hp x k = some r) :
    NGood P μ w x (Instr.alloc t true (.tuple #[])) k r := by
  obtain ⟨i, v, hi, hiz, hrel, _⟩ := zeroP_ok hz
  unfold allocF at h
  split at h
  · refine .cells hx h (cv := .pointer (some ⟨w.heap.size, 0, none⟩)) (w1 := w.alloc (.cells v.cells t)) (t := t) (arr := v.cells) ?_ rfl ?_ (hrel μ)
    · simp only [Instr.alloc, Sem.run_bind, run_zeroValue hi hiz, Result.andThen_ok]
      simp [newVar, newRow]
    · simp only [VRel]; exact ⟨_, upd_self _ _ _, rfl⟩
  · cases h
theorem cellsK_ok {v : AV} {cv : Value} (hv : VRel μ v cv) {k' : List AV → Option β} (h : cellsK v k' = some r) : ∃ l, k' l = some r ∧ VRels μ l cv.cells.toList := by
  unfold cellsK at h
  split at h
  · simp only [VRel] at hv; obtain ⟨cs, rfl, hv⟩ := hv; exact ⟨_, h, hv⟩
  · cases h
  · cases h
  · rename_i h1 h2 h3
    refine ⟨_, h, ?_⟩
    have e : cv.cells = #[cv] := by
      cases v <;> simp only [VRel] at hv
      case un => exact absurd rfl h2
      case agg => exact absurd rfl (h1 _)
      case tup => exact absurd rfl (h3 _)
      all_goals (try (subst hv; rfl))
      case str => obtain ⟨_, rfl, _⟩ := hv; rfl
      case nz => obtain ⟨rfl, _⟩ := hv; rfl
      case ptr => obtain ⟨_, _, rfl⟩ := hv; rfl
      case slice b o n c =>
        obtain ⟨l, _, hs⟩ := hv
        cases c with
        | ex => simp only [SlRel] at hs; subst hs; rfl
        | op => simp only [SlRel] at hs; obtain ⟨rfl, _⟩ := hs; rfl
        | em => simp only [SlRel] at hs; obtain ⟨_, _, _, rfl⟩ := hs; rfl
      case map => obtain ⟨_, _, rfl⟩ := hv; rfl
      case func => obtain ⟨_, _, rfl, _⟩ := hv; rfl
      case iface => obtain ⟨_, rfl, _⟩ := hv; rfl
    rw [e]; simp only [VRels]; exact ⟨cv, [], rfl, hv, rfl⟩
theorem boxF_ok (hx : ∀ v o, k v (some o) = some r → μ x = none) {t : TypeId} {c : Value} (hv : VRels μ vs [c]) (h : boxF vs hp x k = some r) : NGood P μ w x (Instr.box t c) k r := by
  unfold boxF at h
  split at h
  · simp only [VRels, List.cons.injEq] at hv
    obtain ⟨v, rr, ⟨rfl, rfl⟩, hv, _⟩ := hv
    obtain ⟨l, h, hl⟩ := cellsK_ok hv h
    refine .cells hx h (cv := .pointer (some ⟨w.heap.size, 0, none⟩)) (w1 := w.alloc (.cells c.cells t)) (t := t) (arr := c.cells) ?_ rfl ?_ hl
    · simp [Instr.box, newVar, newRow]
    · simp only [VRel]; exact ⟨_, upd_self _ _ _, rfl⟩
  · cases h
end
end Go.Proofs.Ytkejnhmhbmbhcaa.Eng
namespace Go.Proofs.Ytkejnhmhbmbhcaa.Eng
open Go
theorem over_length {α : Type} (L : List α) (o : Nat) (m : List α) (h : o + m.length ≤ L.length) : (over L o m).length = L.length := by
  simp [over]; omega
theorem over_get {α : Type} (L : List α) (o : Nat) (m : List α) (h : o + m.length ≤ L.length) (i : Nat) :
    (over L o m)[i]? = if o ≤ i ∧ i < o + m.length then m[i - o]? else L[i]? := by
  unfold over
  rw [List.getElem?_append, List.getElem?_append]
  simp only [List.length_take, List.getElem?_take, List.getElem?_drop]
  have e : min o L.length = o := by omega
  rw [e]
  by_cases h1 : i < o
  · rw [if_pos h1, if_pos h1, if_neg (by omega)]
  · rw [if_neg h1]
    by_cases h2 : i - o < m.length
    · rw [if_pos h2, if_pos (by omega)]
    · rw [if_neg h2, if_neg (by omega)]; congr 1; omega
theorem over_cons {α : Type} (L : List α) (o : Nat) (c : α) (m : List α) (h : o + (m.length + 1) ≤ L.length) : over L o (c :: m) = over (L.set o c) (o + 1) m := by
  apply List.ext_getElem?
  intro i
  rw [over_get _ _ _ (by simpa using h), over_get _ _ _ (by simp; omega)]
  simp only [List.length_cons, List.getElem?_set]
  by_cases h1 : o = i
  · subst h1; rw [if_pos (by omega), if_neg (by omega), if_pos rfl, if_pos (by omega)]; simp
  · by_cases h2 : o + 1 ≤ i ∧ i < o + 1 + m.length
    · rw [if_pos (by omega), if_pos h2]
      obtain ⟨j, rfl⟩ : ∃ j, i = o + 1 + j := ⟨i - (o + 1), by omega⟩
      rw [show o + 1 + j - o = j + 1 by omega, show o + 1 + j - (o + 1) = j by omega]; simp
    · rw [if_neg (by omega), if_neg h2, if_neg h1]
theorem over_nil {α : Type} (L : List α) (o : Nat) : over L o [] = L := by simp [over]
theorem foldl_over : ∀ (l : List Value) (j0 off : Nat) (arr : Array Value), off + j0 + l.length ≤ arr.size →
    ((l.zipIdx j0).foldl (fun cs p => cs.setIfInBounds (off + p.2) p.1) arr).toList = over arr.toList (off + j0) l
  | [], j0, off, arr, _ => by simp [over_nil]
  | c :: l, j0, off, arr, h => by
    simp only [List.length_cons] at h
    simp only [List.zipIdx_cons, List.foldl_cons]
    rw [foldl_over l (j0 + 1) off _ (by simp; omega)]
    rw [over_cons _ _ _ _ (by simp; omega), Array.toList_setIfInBounds]
    rfl
section
variable {β : Type} {P : Program} {μ : Inj} {w : World} {x : Bid} {s : Sem Value} {k : AV → Option AObj → Option β} {r : β} {hp : Hp} {vs : List AV}
theorem fillK_ok (f : Nat → Option (Nat × Nat)) : ∀ (ps : List (Nat × Nat)) (parts : List (Nat × Value)) (vs z : List AV) (cells : Array Value) (k' : List AV → Option β),
    parts.map (fun p => f p.1) = ps.map some → VRels μ vs (parts.map (·.2)) → VRels μ z cells.toList → fillK ps vs z k' = some r →
    ∃ z', k' z' = some r ∧ ∃ cells', Instr.fill f cells parts = some cells' ∧ VRels μ z' cells'.toList
  | [], parts, vs, z, cells, k', hp, hv, hz, h => by
    have hparts : parts = [] := by simpa using hp
    subst hparts
    simp only [List.map_nil, VRels] at hv
    cases vs with
    | nil => exact ⟨z, h, cells, rfl, hz⟩
    | cons _ _ => simp only [VRels] at hv; obtain ⟨_, _, hh, _⟩ := hv; cases hh
  | (off, size) :: ps, [], vs, z, cells, k', hp, hv, hz, h => by simp at hp
  | (off, size) :: ps, (i, v) :: parts, vs, z, cells, k', hp, hv, hz, h => by
    simp only [List.map_cons, List.cons.injEq] at hp
    obtain ⟨hp1, hp2⟩ := hp
    cases vs with
    | nil => simp [fillK] at h
    | cons a vs =>
      simp only [List.map_cons, VRels, List.cons.injEq] at hv
      obtain ⟨v', r', ⟨rfl, rfl⟩, ha, hv⟩ := hv
      simp only [fillK] at h
      obtain ⟨l, h, hl⟩ := cellsK_ok ha h
      split at h
      · rename_i hsz
        rw [Nat.beq_eq] at hsz
        obtain ⟨hb, h⟩ := overK_ok h
        have hlen := hl.length
        have hzl := hz.length
        have hz' : VRels μ (over z off l) (v.cells.zipIdx.foldl (fun cs p => cs.setIfInBounds (off + p.2) p.1) cells).toList := by
          have := foldl_over v.cells.toList 0 off cells (by simp at hlen hzl ⊢; omega)
          rw [← Array.foldl_toList, Array.toList_zipIdx, this, Nat.add_zero]
          exact hz.over off hl
        obtain ⟨z', hk, cells', hf, hz''⟩ := fillK_ok f ps parts vs _ _ k' hp2 hv hz' h
        refine ⟨z', hk, cells', ?_, hz''⟩
        simp only [Instr.fill, hp1]
        rw [if_neg]
        · exact hf
        · simp at hlen hzl ⊢; omega
      · cases h
theorem places_ok : ∀ (fs : List Field), allSized P fs = true → ∃ places, fs.mapM (fun f : Field => (P.info? f.type).map fun i => (f.offset, i.size)) = some places ∧
    ∀ (i : Nat) (f : Field) (n : Nat), fs[i]? = some f → sizeP P f.type = some n → places[i]? = some (f.offset, n)
  | [], _ => ⟨[], rfl, by simp⟩
  | f :: fs, h => by
    simp only [allSized, Bool.and_eq_true] at h
    obtain ⟨h1, h2⟩ := h
    obtain ⟨places, hp, hq⟩ := places_ok fs h2
    unfold sizeP at h1
    cases hi : P.info? f.type with
    | none => simp [hi] at h1
    | some inf =>
      refine ⟨(f.offset, inf.size) :: places, by simp [hi, hp], ?_⟩
      intro i g n hg hn
      cases i with
      | zero =>
        simp at hg; subst hg
        simp [sizeP, hi] at hn; subst hn; rfl
      | succ i => simp at hg; simpa using hq i g n hg hn
theorem placesS_ok {fs : List Field} {places : List (Nat × Nat)} (hq : ∀ (i : Nat) (f : Field) (n : Nat), fs[i]? = some f → sizeP P f.type = some n → places[i]? = some (f.offset, n)) :
    ∀ (parts : List (Nat × Operand)) (ps : List (Nat × Nat)), placesS P fs parts = some ps → ∀ ρ : Operand → Value, (parts.map fun p => (p.1, ρ p.2)).map (fun p => places.toArray[p.1]?) = ps.map some
  | [], ps, h, ρ => by simp only [placesS, Option.some.injEq] at h; subst h; rfl
  | (i, o) :: parts, ps, h, ρ => by
    simp only [placesS] at h
    split at h
    · rename_i f l hf hl
      split at h
      · rename_i n hn
        injection h with h; subst h
        have := placesS_ok hq parts l hl ρ
        simp only [List.map_cons, List.cons.injEq]
        exact ⟨by simpa using hq i f n hf hn, this⟩
      · cases h
    · cases h
theorem placesA_ok (n : Nat) : ∀ (parts : List (Nat × Operand)) (ρ : Operand → Value), (parts.map fun p => (p.1, ρ p.2)).map (fun p => some (p.1 * n, n)) = (placesA n parts).map some
  | [], ρ => rfl
  | (i, o) :: parts, ρ => by simp only [List.map_cons, placesA, List.cons.injEq, true_and]; exact placesA_ok n parts ρ
theorem compBuild_ok {t : TypeId} {parts : Array (Nat × Operand)} {ρ : Operand → Value} (hv : VRels μ vs ((compBuild P t parts.toList).2.map ρ)) (h : nrun (compBuild P t parts.toList).1 vs hp x k = some r) :
    NGood P μ w x (Instr.build t (parts.map fun p => (p.1, ρ p.2))) k r := by
  unfold compBuild at hv h
  have hmap : (parts.map fun p => (p.1, ρ p.2)).toList = parts.toList.map fun p => (p.1, ρ p.2) := by simp
  split at h
  · rename_i fs z hu hz
    rw [hu, hz] at hv
    simp only at hv
    split at h
    · rename_i ps ha hps
      rw [ha, hps] at hv
      obtain ⟨inf, zv, hi, hiz, hrel, _⟩ := zeroP_ok hz
      obtain ⟨places, hpl, hq⟩ := places_ok fs.toList ha
      simp only [nrun, buildF] at h
      obtain ⟨z', hk, cells', hf, hz'⟩ := fillK_ok (places.toArray[·]?) ps (parts.toList.map fun p => (p.1, ρ p.2)) vs z zv.cells _ (placesS_ok hq _ _ hps ρ) (by simpa [List.map_map, Function.comp_def] using hv) (hrel μ) h
      refine .pure hk (run_build w t _ cells' ?_) (by simp only [VRel]; exact ⟨_, rfl, hz'⟩)
      rw [hmap]; simp only [Program.built, hi, hu, hiz, hpl]; exact hf
    · simp [bad, nrun, badF] at h
  · rename_i n e z hu hz
    rw [hu, hz] at hv
    simp only at hv
    split at h
    · rename_i sz hsz
      rw [hsz] at hv
      obtain ⟨inf, zv, hi, hiz, hrel, _⟩ := zeroP_ok hz
      unfold sizeP at hsz; rw [Option.map_eq_some_iff] at hsz; obtain ⟨ie, hie, rfl⟩ := hsz
      simp only [nrun, buildF] at h
      obtain ⟨z', hk, cells', hf, hz'⟩ := fillK_ok (fun i => some (i * ie.size, ie.size)) _ (parts.toList.map fun p => (p.1, ρ p.2)) vs z zv.cells _ (placesA_ok ie.size parts.toList ρ) (by simpa [List.map_map, Function.comp_def] using hv) (hrel μ) h
      refine .pure hk (run_build w t _ cells' ?_) (by simp only [VRel]; exact ⟨_, rfl, hz'⟩)
      rw [hmap]; simp only [Program.built, hi, hu, hiz, hie]; exact hf
    · simp [bad, nrun, badF] at h
  · simp [bad, nrun, badF] at h
theorem flat_get (z : Array Value) (hz : z.size ≠ 0) : ∀ (n i : Nat), i < n * z.size → ((List.replicate n z.toList).flatten)[i]? = some (z[i % z.size]!)
  | 0, i, h => by omega
  | n + 1, i, h => by
    have e : (n + 1) * z.size = n * z.size + z.size := by rw [Nat.add_mul]; omega
    rw [List.replicate_succ, List.flatten_cons, List.getElem?_append]
    split
    · rename_i hl
      have hl' : i < z.size := by simpa using hl
      rw [Nat.mod_eq_of_lt hl', Array.getElem?_toList]
      simp [hl']
    · rename_i hl
      have hl' : z.size ≤ i := by simpa using hl
      have := flat_get z hz n (i - z.size) (by omega)
      rw [Array.length_toList, this]
      congr 2
      rw [Nat.mod_eq_sub_mod hl']
theorem cyc_eq (z : Array Value) (hz : z.size ≠ 0) (n : Nat) : ((Array.range (n * z.size)).map (z[· % z.size]!)).toList = (List.replicate n z.toList).flatten := by
  apply List.ext_getElem?
  intro i
  by_cases h : i < n * z.size
  · rw [flat_get z hz n i h]
    simp [h]
  · rw [List.getElem?_eq_none (by simp; omega), List.getElem?_eq_none]
    simp [List.length_flatten, List.map_replicate, List.sum_replicate_nat]; omega
theorem compBuildSlice_ok (hx : ∀ v o, k v (some o) = some r → μ x = none) {t len : Nat} {parts : Array (Nat × Operand)} {ρ : Operand → Value} (hv : VRels μ vs ((compBuildSlice P t len parts.toList).2.map ρ)) (h : nrun (compBuildSlice P t len parts.toList).1 vs hp x k = some r) :
    NGood P μ w x (Instr.buildSlice t len (parts.map fun p => (p.1, ρ p.2))) k r := by
  unfold compBuildSlice at hv h
  have hmap : (parts.map fun p => (p.1, ρ p.2)).toList = parts.toList.map fun p => (p.1, ρ p.2) := by simp
  split at h
  · rename_i e hu
    rw [hu] at hv
    simp only at hv
    split at h
    · rename_i n z hn hz
      rw [hn, hz] at hv
      simp only at hv
      split at h
      · rename_i hc
        rw [if_pos hc] at hv
        obtain ⟨hc1, hc2, hc3⟩ := hc
        obtain ⟨inf, zv, hi, hiz, hrel, _⟩ := zeroP_ok hz
        have hzl : zv.cells.size = n := by have := (hrel μ).length; simp at this; omega
        simp only [nrun, buildSliceF] at h
        have hzr : VRels μ (repL len z) ((Array.range (len * n)).map (zv.cells[· % zv.cells.size]!)).toList := by
          rw [← hzl, cyc_eq _ (by omega)]; exact (hrel μ).repl len
        obtain ⟨z', hk, cells', hf, hz'⟩ := fillK_ok (fun i => some (i * n, n)) _ (parts.toList.map fun p => (p.1, ρ p.2)) vs _ _ _ (placesA_ok n parts.toList ρ) (by simpa [List.map_map, Function.comp_def] using hv) hzr h
        refine .cells hx hk (cv := .slice (some ⟨w.heap.size, 0, none⟩) len len) (w1 := w.alloc (.cells cells' e)) (t := e) (arr := cells') ?_ rfl ?_ hz'
        · have hf' := hf
          rw [← hmap] at hf'
          by_cases hl : len * n = 0
          · have hl0 : len = 0 := by rcases Nat.mul_eq_zero.1 hl with h | h; exact h; exact absurd h hc2
            subst hl0
            have e0 : ∀ f : Nat → Value, (Array.range (0 * n)).map f = #[] := by intro f; simp
            rw [e0] at hf'
            simp only [Instr.buildSlice, Sem.run_bind, run_underlying hu, Result.andThen_ok, run_sizeOf hn]
            rw [if_neg (by omega), if_pos hl]
            simp only [Sem.run_bind, Sem.run_pure, Result.andThen_ok, e0, hf', newRow, run_newObj]
            rfl
          · simp only [Instr.buildSlice, Sem.run_bind, run_underlying hu, Result.andThen_ok, run_sizeOf hn]
            rw [if_neg (by omega), if_neg hl]
            simp only [Sem.run_bind, Sem.run_pure, Result.andThen_ok, run_zeroValue hi hiz, hf', newRow, run_newObj]
            rfl
        · simp only [VRel, SlRel]; exact ⟨_, upd_self _ _ _, rfl⟩
      · simp [bad, nrun, badF] at h
    · simp [bad, nrun, badF] at h
  · simp [bad, nrun, badF] at h
end
end Go.Proofs.Ytkejnhmhbmbhcaa.Eng
