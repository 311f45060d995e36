/-
  THE ENGINE, PART W: calls that make bytes (and a number): their contract out of a run, and how a contract stands in for the call in later runs.
-/
import Derived.Test.YtpcocfdgcihpdaaEngZ
namespace Go.Proofs.Ytpcocfdgcihpdaa.Eng
open Go Go.RowKit
set_option linter.unusedVariables false
set_option linter.unusedSimpArgs false

def cellsI {γ : Type} : List AV → (List Int → Option γ) → Option γ
  | [], k => k []
  | .int .u8 n :: l, k => cellsI l fun l => k (n :: l)
  | .sint .u8 n _ :: l, k => cellsI l fun l => k (n :: l)
  | _, _ => none
theorem cellsI_ok {γ : Type} {μ : Inj} {r : γ} : ∀ {l : List AV} {vs : List Value} {k : List Int → Option γ}, VRels μ l vs → cellsI l k = some r → ∃ bs : List Int, k bs = some r ∧ vs = bs.map (Value.int .u8)
  | [], vs, k, hv, h => by simp only [VRels] at hv; exact ⟨[], h, by rw [hv]; rfl⟩
  | a :: l, vs, k, hv, h => by
    simp only [VRels] at hv
    obtain ⟨v, vs, rfl, h1, h2⟩ := hv
    unfold cellsI at h
    split at h
    · rename_i e; cases e
    · rename_i n l' e
      injection e with e1 e2; subst e1 e2
      simp only [VRel] at h1; subst h1
      obtain ⟨bs, h3, rfl⟩ := cellsI_ok h2 h
      exact ⟨n :: bs, h3, by simp⟩
    · rename_i n g l' e
      injection e with e1 e2; subst e1 e2
      simp only [VRel] at h1; subst h1
      obtain ⟨bs, h3, rfl⟩ := cellsI_ok h2 h
      exact ⟨n :: bs, h3, by simp⟩
    · cases h
def neK (e : Int) : List Int → Option (Int × List Int)
  | [] => none
  | a :: l => some (e, a :: l)
/-- what is read off an answer: the number, the bytes -/
def outK : EK (Int × List Int) := fun v h _ => match v with
  | .tup [.nils, .int .i64 e] => some (e, [])
  | .tup [.slice b 0 n (.op 0), .int .i64 e] => match h.get b with
    | .opn l 1 => match Nat.beq l.length n with
      | true => cellsI l fun l => neK e l
      | false => none
    | _ => none
  | .tup [.slice b 0 n (.ex m), .int .i64 e] => match h.get b with
    | .cells l => match Nat.beq l.length n && Nat.beq m n with
      | true => cellsI l fun l => neK e l
      | false => none
    | _ => none
  | _ => none
/-- the bytes lie in new memory -/
def BytesAt (w w' : World) (bs : List Int) (v : Value) : Prop :=
  ∃ (blk base cap : Nat) (arr : Array Value) (t : TypeId) (fr : Nat × Nat), v = .slice (some ⟨blk, base, none⟩) bs.length cap ∧ w.heap.size ≤ blk ∧ w'.heap[blk]? = some (.cells arr t fr) ∧ unfrozen arr.size fr ∧
    bs.length ≤ cap ∧ base + cap ≤ arr.size ∧ (arr.toList.drop base).take bs.length = bs.map (Value.int .u8)
def BytesRes (w w' : World) (e : Int) (bs : List Int) (cv : Value) : Prop :=
  (bs = [] ∧ cv = .tuple #[.slice none 0 0, .int .i64 e]) ∨ (bs ≠ [] ∧ ∃ v, BytesAt w w' bs v ∧ cv = .tuple #[v, .int .i64 e])

theorem tup2 {μ : Inj} {a b : AV} {cv : Value} (h : VRel μ (.tup [a, b]) cv) : ∃ x y, cv = .tuple #[x, y] ∧ VRel μ a x ∧ VRel μ b y := by
  simp only [VRel, VRels] at h
  obtain ⟨cs, rfl, x, r, h1, hx, y, r2, rfl, hy, rfl⟩ := h
  refine ⟨x, y, ?_, hx, hy⟩
  congr 1
  exact Array.toList_inj.1 (by simpa using h1)
theorem outK_ok {w w' : World} {v : AV} {h : Hp} {x : Bid} {μ : Inj} {cv : Value} {e : Int} {bs : List Int} (hk : outK v h x = some (e, bs)) (hv : VRel μ v cv) (hr : HR μ h.get w') (hf : Fr (fun _ => none) f5.get w μ h.get w') : BytesRes w w' e bs cv := by
  have hnew : ∀ b l, μ b = some l → live (h.get b) = true → w.heap.size ≤ l.blk := by
    intro b l hb hl
    rcases hf.used l.blk ⟨b, l, hb, hl, rfl⟩ with ⟨_, _, hu, _⟩ | hu
    · cases hu
    · exact hu
  unfold outK at hk
  split at hk
  · rename_i e0
    obtain ⟨p, q, rfl, hp, hq⟩ := tup2 hv
    simp only [VRel] at hp hq
    subst hp hq
    injection hk with hk; injection hk with h1 h2; subst h1 h2
    exact .inl ⟨rfl, rfl⟩
  · rename_i b n e0
    obtain ⟨p, q, rfl, hp, hq⟩ := tup2 hv
    simp only [VRel, SlRel] at hp hq
    obtain ⟨l, hl, hp1, hp2⟩ := hp
    subst hp1 hq
    split at hk
    · rename_i c hc
      split at hk
      · rename_i hn; rw [Nat.beq_eq] at hn
        have hob := hr.ok b l hl
        rw [hc] at hob
        obtain ⟨arr, t, fr, h1, h2, h3, h4⟩ := hob
        obtain ⟨bs', h5, h6⟩ := cellsI_ok h4 hk
        have h5' : bs' ≠ [] ∧ (e0, bs') = (e, bs) := by cases bs' <;> simp [neK] at h5 ⊢; exact h5
        obtain ⟨hne, h5⟩ := h5'
        injection h5 with h7 h8; subst h7 h8
        have hlen : c.length = bs'.length := by have := congrArg List.length h6; have h9 := h4.length; simp only [List.length_map] at this; omega
        refine .inr ⟨hne, _, ⟨l.blk, l.base, l.cap, arr, t, fr, ?_, hnew b l hl (by rw [hc]; rfl), h1, h2, by omega, by omega, by rw [← hlen]; exact h6⟩, rfl⟩
        simp only [Nat.add_zero, Nat.sub_zero]; rw [← hlen, hn]
      · cases hk
    · cases hk
  · rename_i b n m e0
    obtain ⟨p, q, rfl, hp, hq⟩ := tup2 hv
    simp only [VRel, SlRel] at hp hq
    obtain ⟨l, hl, hp1⟩ := hp
    subst hp1 hq
    split at hk
    · rename_i c hc
      split at hk
      · rename_i hn; rw [Bool.and_eq_true, Nat.beq_eq, Nat.beq_eq] at hn
        have hob := hr.ok b l hl
        rw [hc] at hob
        obtain ⟨hb0, arr, t, h1, h4⟩ := hob
        obtain ⟨bs', h5, h6⟩ := cellsI_ok h4 hk
        have h5' : bs' ≠ [] ∧ (e0, bs') = (e, bs) := by cases bs' <;> simp [neK] at h5 ⊢; exact h5
        obtain ⟨hne, h5⟩ := h5'
        injection h5 with h7 h8; subst h7 h8
        have hlen : c.length = bs'.length := by have := congrArg List.length h6; have h9 := h4.length; simp only [List.length_map] at this; omega
        have hsz : arr.size = bs'.length := by have := congrArg List.length h6; simpa using this
        refine .inr ⟨hne, _, ⟨l.blk, 0, m, arr, t, (0, 0), ?_, hnew b l hl (by rw [hc]; rfl), h1, ?_, by omega, by omega, ?_⟩, rfl⟩
        · rw [hb0]; simp only [Nat.add_zero]; rw [← hlen, hn.1]
        · intro i _ hh; exact absurd hh.2 (Nat.not_lt_zero _)
        · rw [List.drop_zero, h6, List.take_of_length_le (by simp)]
      · cases hk
    · cases hk
  · cases hk
/-- THE CONTRACT of a call that makes bytes -/
theorem bytes_call {P : Program} {n f : Nat} {vs : List AV} {e : Int} {bs : List Int} (hrun : fcallOf P (fexec P n) f vs f5 b0 outK = some (e, bs)) (w : World) (args : Array Value) (hv : VRels (fun _ => none) vs args.toList) :
    Calls P f args w fun en w' => (∃ cv, en = .returned cv ∧ BytesRes w w' e bs cv) ∧ Below w.heap.size w w' := by
  refine (calledF n f vs outK _ hrun w args hv).mono fun en w' h => ?_
  obtain ⟨⟨v, h', x', cv, μ', h1, rfl, h2, h3, h4⟩, hb⟩ := h
  exact ⟨⟨cv, rfl, outK_ok h1 h2 h3 h4⟩, hb⟩

/-! ### a contract stands in for the call -/
section
variable {β : Type}
def mkCells : List Int → (List AV → Option β) → Option β
  | [], k => k []
  | n :: l, k => intK n fun n => mkCells l fun l => k (.int .u8 n :: l)
theorem mkCells_eq : ∀ (l : List Int) (k : List AV → Option β), mkCells l k = k (l.map (AV.int .u8))
  | [], k => rfl
  | n :: l, k => by simp only [mkCells, intK_eq, mkCells_eq l]; rfl
def resT (e : Int) (bs : List Int) (h : Hp) (x : Bid) (k : EK β) : Option β := match bs with
  | [] => intK e fun e => k (.tup [.nils, .int .i64 e]) h x
  | _ :: _ => mkCells bs fun l => natK l.length fun m => intK e fun e => freshK h x fun y => Hp.putK x (.opn l 1) h fun h => k (.tup [.slice x 0 m (.op 0), .int .i64 e]) h y
theorem rels_ints {μ : Inj} : ∀ (l : List Int), VRels μ (l.map (AV.int .u8)) (l.map (Value.int .u8))
  | [] => by simp [VRels]
  | a :: l => by simp only [List.map_cons, VRels, VRel]; exact ⟨_, _, rfl, rfl, rels_ints l⟩
theorem resT_ok {r : β} {μ : Inj} {h : Hp} {x : Bid} {w w' : World} {k : EK β} {e : Int} {bs : List Int} {cv : Value} (hr : HR μ h.get w) (hk : resT e bs h x k = some r) (hb : Below w.heap.size w w') (hc : BytesRes w w' e bs cv) :
    ∃ v h' x' μ', k v h' x' = some r ∧ VRel μ' v cv ∧ HR μ' h'.get w' ∧ Fr μ h.get w μ' h'.get w' := by
  have hold : ∀ {b l}, μ b = some l → ObjRel μ w' l (h.get b) := fun {b l} hbl => (hr.ok b l hbl).of_block fun hl => hb.block l.blk ((hr.ok b l hbl).lt hl)
  unfold resT at hk
  split at hk
  · rw [intK_eq] at hk
    rcases hc with ⟨_, rfl⟩ | ⟨hne, v, ⟨blk, base, cap, arr, t, fr, rfl, h1, h2, h3, h4, h5, h6⟩, rfl⟩
    · exact ⟨_, _, _, μ, hk, by simp only [VRel, VRels]; exact ⟨_, rfl, _, _, rfl, rfl, _, _, rfl, rfl, rfl⟩, ⟨fun b l hbl => hold hbl, hr.inj⟩, ⟨Le.refl _, fun b h h' => absurd h h', hb.os, hb.tape, hb.output, hb.size, fun c hc _ => hb.block c hc, fun c h => .inl h, fun _ h => h⟩⟩
    · exact absurd rfl hne
  · rename_i b0' bs0
    rcases hc with ⟨h0, _⟩ | ⟨hne, v, ⟨blk, base, cap, arr, t, fr, rfl, h1, h2, h3, h4, h5, h6⟩, rfl⟩
    · cases h0
    rw [mkCells_eq, natK_eq, intK_eq] at hk
    unfold freshK at hk
    split at hk
    · rename_i hno
      obtain ⟨y, hy⟩ := succK_ok x (fun y => Hp.putK x (.opn ((b0' :: bs0).map (AV.int .u8)) 1) h fun h => k (.tup [.slice x 0 ((b0' :: bs0).map (AV.int .u8)).length (.op 0), .int .i64 e]) h y)
      rw [hy, Hp.putK_eq] at hk
      have hx : μ x = none := by
        cases hm : μ x with
        | none => rfl
        | some l => have := hr.ok x l hm; rw [hno] at this; exact this.elim
      refine ⟨_, _, _, upd μ x ⟨blk, base, cap⟩, hk, ?_, ⟨fun b l hbl => ?_, fun b b' l l' hbl hbl' hv hv' he => ?_⟩, ⟨le_upd _ hx, fun b hb1 hb2 => ?_, hb.os, hb.tape, hb.output, hb.size, fun c hc _ => hb.block c hc, fun c hu => ?_, fun b hb1 => ?_⟩⟩
      · simp only [VRel, VRels, SlRel]
        refine ⟨_, rfl, _, _, rfl, ⟨_, upd_self _ _ _, ?_, by simp only [List.length_map]; omega⟩, _, _, rfl, rfl, rfl⟩
        simp
      · rw [Hp.get_put]
        unfold upd at hbl
        split at hbl
        · rename_i e'; subst e'
          injection hbl with hbl; subst hbl
          rw [if_pos rfl]
          refine ⟨arr, t, fr, h2, h3, (show base + cap * 1 ≤ arr.size by omega), ?_⟩
          rw [List.length_map, h6]
          exact rels_ints _
        · rename_i e'
          rw [if_neg e']
          exact (hold hbl).mono (le_upd _ hx)
      · rw [Hp.get_put] at hv hv'
        unfold upd at hbl hbl'
        by_cases e1 : b = x
        · by_cases e2 : b' = x
          · rw [e1, e2]
          · rw [if_pos e1] at hbl; rw [if_neg e2] at hbl' hv'
            injection hbl with hbl; subst hbl
            have := (hr.ok b' l' hbl').lt hv'
            simp only at he; omega
        · by_cases e2 : b' = x
          · rw [if_neg e1] at hbl hv; rw [if_pos e2] at hbl'
            injection hbl' with hbl'; subst hbl'
            have := (hr.ok b l hbl).lt hv
            simp only at he; omega
          · rw [if_neg e1] at hbl hv; rw [if_neg e2] at hbl' hv'
            exact hr.inj b b' l l' hbl hbl' hv hv' he
      · unfold upd at hb2
        split at hb2
        · rename_i e'; rw [e']; exact hno
        · exact absurd hb1 hb2
      · obtain ⟨b, l, hbl, hv, rfl⟩ := hu
        rw [Hp.get_put] at hv
        unfold upd at hbl
        split at hbl
        · injection hbl with hbl; subst hbl; exact .inr h1
        · rename_i e'; rw [if_neg e'] at hv; exact .inl ⟨b, l, hbl, hv, rfl⟩
      · rw [Hp.get_put]
        split
        · simp
        · exact hb1
    · cases hk
end
end Go.Proofs.Ytpcocfdgcihpdaa.Eng
