/-
  append of so many zeros ('append(s, make([]T, n)...)') to a slice that the call owns; both kinds of append as one step of a region that draws its order.
-/
import Derived.Test.YtondggcbldnhcaaGreatRows
import Derived.WalkKit
import Derived.Laws.AppendOwnNone
namespace Go.Proofs.YtondggcbldnhcaaGreat.irx
open Go Go.RowKit
set_option linter.unusedVariables false
set_option linter.unusedSimpArgs false
section
variable {P : Program} (w : World)
/-- so many zeros are put behind what is owned (elements of one cell) -/
theorem run_append_zeros (base : Nat) (t ti ty e : TypeId) (kd : IntKind) (i : TypeInfo) (z : Value) (bytes : Nat) (ht : P.underlying t = some (.slice e)) (hti : P.underlying ti = some (.int kd)) (hi : P.info? e = some i) (hz : i.zero = some z)
    (hsize : i.size = 1) (hby : i.bytes = bytes) (hzc : z.cells = #[z]) (hz1 : z.oneCell' = true)
    (v : Value) (n : Nat) (xs : List Value) (hown : w.ownsRow base e 1 v n xs) (m : Nat) (h63 : n + m ≤ 1048576) (hb8 : bytes ≤ 64) (hbase : base ≤ w.heap.size) :
    ∃ v' w', (Builtin.append_ #[t, ti] ty #[v, .int .i64 (m : Int)]).run P w = .ok v' w' ∧ w'.ownsRow base e 1 v' (n + m) (xs ++ List.replicate m z) ∧ w.grownBy w' v.ownBlock := by
  subst hby
  have hw : IntKind.i64.wrap (m : Int) = m := by rw [IntKind.wrap_i64]; omega
  have hm0 : ¬ ((m : Int) < 0) := by omega
  have hw0 : IntKind.i64.wrap 0 = 0 := by rw [IntKind.wrap_i64]; omega
  have hmb : ¬ (281474976710656 < (m : Int) * (i.bytes : Int)) := by
    have : (m : Int) * (i.bytes : Int) ≤ 1048576 * 64 := Int.mul_le_mul (by omega) (by omega) (by omega) (by omega)
    omega
  have hlenx : xs.length = n := by have := hown.1; omega
  have hzs : Builtin.zeroCells z.cells m = (List.replicate m z).toArray := by
    rw [hzc]
    apply Array.ext'
    rw [← toList_madeCells_one z m]
    simp [Builtin.zeroCells, madeCells]
  have grown : ∀ (old : Nat), old < n + m → ∀ (row : Option Nat),
      (w.drew.alloc (.cells (xs.toArray ++ (List.replicate m z).toArray ++ Builtin.zeroCells z.cells (grownCap w (n + m) old e - (n + m))) e)).ownsRow base e 1
        (.slice (some ⟨w.heap.size, 0, none⟩) (n + m) (grownCap w (n + m) old e)) (n + m) (xs ++ List.replicate m z) ∧
      w.grownBy (w.drew.alloc (.cells (xs.toArray ++ (List.replicate m z).toArray ++ Builtin.zeroCells z.cells (grownCap w (n + m) old e - (n + m))) e)) row := by
    intro old ho row
    have hge := grownCap_ge w (n + m) old e
    have hcm : grownCap w (n + m) old e ≤ maxLen := grownCap_le_maxLen w (n + m) old e (by unfold maxLen; omega)
    refine ⟨⟨by simp [hlenx], .inr ⟨w.heap.size, _, _, rfl, hbase, heap_alloc_new w.drew _, hge, hcm, ?_, ?_⟩⟩, ⟨rfl, rfl, rfl, by simp, fun k hk _ => Below.heap_alloc w.drew _ k hk⟩⟩
    · simp only [Array.size_append, List.size_toArray, size_zeroCells, hzc, hlenx, List.length_replicate]
      simp
      omega
    · simp only [Array.toList_append, List.append_assoc, Nat.mul_one]
      rw [← List.append_assoc]
      have : n + m = (xs ++ List.replicate m z).length := by simp [hlenx]
      rw [this]
      exact List.take_left
  have hgrowrun : ∀ (b : Option Addr) (cap : Nat), cap < n + m → (∀ j u, xs[j]? = some u → ∃ a, b = some a ∧ w.cell? (a.add j) = some u) → m ≠ 0 →
      (Builtin.append_ #[t, ti] ty #[.slice b n cap, .int .i64 (m : Int)]).run P w = .ok (.slice (some ⟨w.heap.size, 0, none⟩) (n + m) (grownCap w (n + m) cap e)) (w.drew.alloc (.cells (xs.toArray ++ (List.replicate m z).toArray ++ Builtin.zeroCells z.cells (grownCap w (n + m) cap e - (n + m))) e)) := by
    intro b cap hcap hold hm
    have hn : ¬ (n + m ≤ cap) := by omega
    have h63' : ¬ (9223372036854775807 < ((n : Int) + (m : Int))) := by omega
    have h48' : ¬ (281474976710656 < Builtin.nextslicecap (n + m) cap * i.bytes) := by
      have := nextslicecap_le (need := n + m) (old := cap) (by omega)
      have : Builtin.nextslicecap (n + m) cap * i.bytes ≤ (2 * (n + m)) * 64 := Nat.mul_le_mul this hb8
      omega
    have hfo : (Builtin.firstCells 1 n (.slice b n cap)).run P w.drew = .ok xs.toArray w.drew := by
      cases b with
      | none =>
        have hx : xs = [] := by
          cases xs with
          | nil => rfl
          | cons x r => obtain ⟨a, ha, _⟩ := hold 0 x rfl; cases ha
        subst hx
        simp at hlenx
        subst hlenx
        exact run_firstCells_none w.drew 1 0 0 cap
      | some a => exact run_firstCells_some (P := P) w.drew 1 n a n cap xs (by omega) (fun j u hj => by obtain ⟨a', ha, hc⟩ := hold j u hj; injection ha with ha; subst ha; simpa using hc)
    simp [Builtin.append_, run_underlying ht, run_underlying hti, sizeOf, typeInfo, zeroValue, hi, hz, hn, h63', h48', hsize, hm, hw, hm0, hmb, asInt, asIntOf, Question.forced, hfo, newRow, grownCap, hzs]
  rcases hown.2 with ⟨rfl, rfl⟩ | ⟨g, cap, cur, rfl, hbg, hg, hnc, hcm, hcs, htake⟩
  · have hx : xs = [] := List.eq_nil_of_length_eq_zero hlenx
    subst hx
    by_cases hm : m = 0
    · subst hm
      refine ⟨.slice none 0 0, w, ?_, World.ownsRow_nil w base e 1, ⟨rfl, rfl, rfl, Nat.le_refl _, fun _ _ _ => rfl⟩⟩
      simp [Builtin.append_, run_underlying ht, run_underlying hti, sizeOf, typeInfo, hi, hsize, asInt, asIntOf, hw0]
    · have hr := hgrowrun none 0 (by omega) (fun j u hj => by simp at hj) hm
      have hgr := grown 0 (by omega) (Value.ownBlock (.slice none 0 0))
      exact ⟨_, _, hr, hgr.1, hgr.2⟩
  · by_cases hroom : n + m ≤ cap
    · have hcs' : cur.size = cap := by omega
      have hst := run_storeCells_at P g n e (List.replicate m z) 0 cur w hg (by simp; omega) (fun u hu => by rw [List.eq_of_mem_replicate hu]; exact hz1)
      simp only [Nat.add_zero] at hst
      refine ⟨.slice (some ⟨g, 0, none⟩) (n + m) cap, w.setRow g (cur.toList.take n ++ List.replicate m z ++ cur.toList.drop (n + (List.replicate m z).length)).toArray, ?_, ⟨by simp [hlenx], .inr ⟨g, cap, _, rfl, hbg, setRow_heap w g cur _ e _ hg, hroom, hcm, ?_, ?_⟩⟩, ⟨rfl, rfl, rfl, by simp, fun k _ hk => setRow_other w g k _ (fun e => hk (by simp [Value.ownBlock, e]))⟩⟩
      · by_cases hm : m = 0
        · subst hm
          have hroom' : n ≤ cap := by omega
          have hst' : (storeCells ⟨g, n, none⟩ []).run P w = .ok () (w.setRow g (cur.toList.take n ++ [] ++ cur.toList.drop n).toArray) := by simpa using hst
          simp [Builtin.append_, run_underlying ht, run_underlying hti, sizeOf, typeInfo, hi, hsize, asInt, asIntOf, hw0, hroom', Addr.add_lit]
          simp only [List.append_nil, List.take_append_drop, Array.toArray_toList] at hst'
          rw [hst']
          simp [Result.andThen]
        · simp [Builtin.append_, run_underlying ht, run_underlying hti, sizeOf, typeInfo, zeroValue, hi, hz, hsize, asInt, asIntOf, hw, hm0, hmb, hm, hroom, Addr.add_lit, hzs, hst]
      · simp only [List.size_toArray, List.length_append, List.length_take, List.length_drop, Array.length_toList, List.length_replicate]
        omega
      · have h1 : cur.toList.take n = xs := by simpa using htake
        rw [h1, Nat.mul_one, List.append_assoc, ← List.append_assoc]
        have h2 : n + m = (xs ++ List.replicate m z).length := by simp [hlenx]
        rw [h2]
        exact List.take_left
    · have holds : ∀ j u, xs[j]? = some u → w.cell? ((⟨g, 0, none⟩ : Addr).add j) = some u := hown.cells (g := g) rfl
      have hr := hgrowrun (some ⟨g, 0, none⟩) cap (by omega) (fun j u hj => ⟨_, rfl, holds j u hj⟩) (by omega)
      have hgr := grown cap (by omega) (Value.ownBlock (.slice (some ⟨g, 0, none⟩) n cap))
      exact ⟨_, _, hr, hgr.1, hgr.2⟩
end
/-- as one step of a region that draws its order -/
theorem step_append_zeros {P : Program} {ops : Array Oper} {o : Oper} {a : Act} {w : World} {K : Act → World → Prop} {Q : Exit → Act → World → Prop} {E : Prop} (hgd : o.guard = none) (s x : Operand) (t ti : TypeId)
    (ho : o.op = .call { callee := .builtin .append, args := #[s, x], argTypes := #[t, ti] })
    (base : Nat) (e : TypeId) (kd : IntKind) (i : TypeInfo) (z : Value) (bytes : Nat) (ht : P.underlying t = some (.slice e)) (hti : P.underlying ti = some (.int kd)) (hi : P.info? e = some i) (hz : i.zero = some z)
    (hsize : i.size = 1) (hby : i.bytes = bytes) (hzc : z.cells = #[z]) (hz1 : z.oneCell' = true)
    (v : Value) (n : Nat) (xs : List Value) (hs : a.eval s = v) (hown : w.ownsRow base e 1 v n xs) (m : Nat) (hx : a.eval x = .int .i64 (m : Int)) (h63 : n + m ≤ 1048576) (hb8 : bytes ≤ 64) (hbase : base ≤ w.heap.size)
    (h : ∀ v' w', Hid (w'.ownsRow base e 1 v' (n + m) (xs ++ List.replicate m z)) → w.grownBy w' v.ownBlock → K (a.put o.dst v') w') :
    if Region.wanted o (yielded ops a.tmps) = true then Oper.wp P o a w K Q else E := by
  have hw : Region.wanted o (yielded ops a.tmps) = true := by simp [Region.wanted, hgd]
  rw [if_pos hw]
  obtain ⟨v', w', hr, h2, h3⟩ := run_append_zeros (P := P) w base t ti o.type e kd i z bytes ht hti hi hz hsize hby hzc hz1 v n xs hown m h63 hb8 hbase
  unfold Oper.wp execOp
  simp only [ho, resolve, invoke, builtin, Sem.run_bind, Sem.run_pure, Result.andThen_ok, List.map_toArray, List.map_cons, List.map_nil, hs, hx, hr]
  exact h v' w' h2 h3
theorem step_append_own {P : Program} {ops : Array Oper} {o : Oper} {a : Act} {w : World} {K : Act → World → Prop} {Q : Exit → Act → World → Prop} {E : Prop} (hgd : o.guard = none) (s x : Operand) (t : TypeId)
    (ho : o.op = .call { callee := .builtin .append, args := #[s, x], argTypes := #[t, t] })
    (base : Nat) (e : TypeId) (i : TypeInfo) (z : Value) (size bytes : Nat) (ht : P.underlying t = some (.slice e)) (hi : P.info? e = some i) (hz : i.zero = some z)
    (hsize : i.size = size) (hby : i.bytes = bytes) (hzs : z.cells.size = size) (hsz : 0 < size)
    (v : Value) (n : Nat) (xs : List Value) (hs : a.eval s = v) (hown : w.ownsRow base e size v n xs)
    (ad : Option Addr) (m c : Nat) (news : List Value) (hx : a.eval x = .slice ad m c) (hl : news.length = m * size) (hnews : 0 < m → ∃ q, ad = some q ∧ ∀ j u, news[j]? = some u → w.cell? (q.add j) = some u) (h1 : ∀ u ∈ news, u.oneCell' = true) (hnone : ad = none → m = 0 ∧ c = 0)
    (h63 : n + m ≤ maxLen) (hbytes : (n + m) * bytes ≤ 140737488355328) (hbase : base ≤ w.heap.size)
    (h : ∀ v' w', Hid (w'.ownsRow base e size v' (n + m) (xs ++ news)) → w.grownBy w' v.ownBlock → K (a.put o.dst v') w') :
    if Region.wanted o (yielded ops a.tmps) = true then Oper.wp P o a w K Q else E := by
  have hw : Region.wanted o (yielded ops a.tmps) = true := by simp [Region.wanted, hgd]
  rw [if_pos hw]
  cases ad with
  | some q =>
    have hn : ∀ j u, news[j]? = some u → w.cell? (q.add j) = some u := by
      intro j u hj
      have hm : 0 < m := by
        apply Nat.pos_of_ne_zero
        intro h0
        subst h0
        have : news = [] := List.eq_nil_of_length_eq_zero (by simpa using hl)
        rw [this] at hj; simp at hj
      obtain ⟨q', e1, e2⟩ := hnews hm
      injection e1 with e1
      subst e1
      exact e2 j u hj
    exact wp_append_own w s x t ho base e i z size bytes ht hi hz hsize hby hzs hsz v n xs hs hown q m c news hx hl hn h1 h63 hbytes hbase (fun v' w' h2 h3 _ => h v' w' h2 h3)
  | none =>
    obtain ⟨rfl, rfl⟩ := hnone rfl
    have hnn : news = [] := List.eq_nil_of_length_eq_zero (by simpa using hl)
    subst hnn
    have hr := run_append_owned_none (P := P) w base t o.type e i size ht hi v n xs hown
    unfold Oper.wp execOp
    simp only [ho, resolve, invoke, builtin, Sem.run_bind, Sem.run_pure, Result.andThen_ok, List.map_toArray, List.map_cons, List.map_nil, hs, hx, hr]
    exact h v w (show w.ownsRow base e size v (n + 0) (xs ++ []) by simpa using hown) ⟨rfl, rfl, rfl, Nat.le_refl _, fun _ _ _ => rfl⟩
end Go.Proofs.YtondggcbldnhcaaGreat.irx
