/-
  THE ENGINE, PART F: operators, conversions, pieces, indexes.
-/
import Derived.Test.YtkejnhmhbmbhcaaEngE
set_option maxHeartbeats 64000000
set_option maxRecDepth 1000000
set_option linter.unusedVariables false
set_option linter.unusedSimpArgs false
set_option maxHeartbeats 64000000
set_option maxHeartbeats 64000000
set_option maxHeartbeats 64000000
set_option maxHeartbeats 64000000
namespace Go.Proofs.Ytkejnhmhbmbhcaa.Eng
open Go
theorem map_toNat_inj {a b : List UInt8} (h : a.map UInt8.toNat = b.map UInt8.toNat) : a = b :=
  List.map_inj_right (fun _ _ h => UInt8.toNat_inj.1 h) |>.1 h
theorem strEq_bytes (a b : ByteArray) : strEq (a.data.toList.map UInt8.toNat) (b.data.toList.map UInt8.toNat) = (a.toList == b.toList) := by
  rw [strEq_eq, ByteArray.toList_eq, ByteArray.toList_eq, Bool.eq_iff_iff]
  simp only [beq_iff_eq]
  exact ⟨map_toNat_inj, fun h => by rw [h]⟩
theorem strLt_bytes : ∀ (a b : List UInt8), strLt (a.map UInt8.toNat) (b.map UInt8.toNat) = Op.bytesLess a b
  | [], [] => rfl
  | _ :: _, [] => rfl
  | [], _ :: _ => rfl
  | a :: l, b :: m => by
    simp only [List.map_cons, strLt, Op.bytesLess, strLt_bytes l m]
    rw [Bool.eq_iff_iff]
    simp only [Bool.or_eq_true, Bool.and_eq_true, Nat.ble_eq, Nat.beq_eq, decide_eq_true_eq, beq_iff_eq, UInt8.lt_iff_toNat_lt, Nat.succ_le_iff]
    exact ⟨fun h => h.imp id (fun h => ⟨UInt8.toNat_inj.1 h.1, h.2⟩), fun h => h.imp id (fun h => ⟨by rw [h.1], h.2⟩)⟩
section
variable {β : Type} {P : Program} {μ : Inj} {w : World} {x : Bid} {s : Sem Value} {k : AV → Option AObj → Option β} {r : β} {hp : Hp} {vs : List AV}
def Ans (P : Program) (μ : Inj) (w : World) (s : Sem Value) (k' : AV → Option β) (r : β) : Prop :=
  ∃ v cv, k' v = some r ∧ s.run P w = .ok cv w ∧ VRel μ v cv
theorem Ans.good {k' : AV → Option β} (h : Ans P μ w s k' r) (hk : ∀ v, k' v = k v none) : NGood P μ w x s k r := by
  obtain ⟨v, cv, h1, h2, h3⟩ := h
  exact .pure (by rw [← hk]; exact h1) h2 h3
theorem Ans.int {kd : IntKind} {n : Int} {k' : AV → Option β} (h : k' (.int kd n) = some r) (hs : s.run P w = .ok (.int kd n) w) : Ans P μ w s k' r := ⟨_, _, h, hs, by simp only [VRel]⟩
theorem Ans.bool {b c : Bool} {k' : AV → Option β} (h : k' (.bool b) = some r) (hb : b = c) (hs : s.run P w = .ok (.bool c) w) : Ans P μ w s k' r := ⟨_, _, h, hs, by simp only [VRel, hb]⟩
theorem NGood.int {kd : IntKind} {n : Int} (h : k (.int kd n) none = some r) (hs : s.run P w = .ok (.int kd n) w) : NGood P μ w x s k r := .pure h hs (by simp only [VRel])
theorem NGood.bool {b c : Bool} (h : k (.bool b) none = some r) (hb : b = c) (hs : s.run P w = .ok (.bool c) w) : NGood P μ w x s k r := .pure h hs (by simp only [VRel, hb])
theorem intOp_ok {op : BinOp} {t : TypeId} {kd : IntKind} {a b : Int} {k' : AV → Option β} (h : intOp op kd a b k' = some r) :
    Ans P μ w (binOp op t (.int kd a) (.int kd b)) k' r := by
  cases op <;> simp only [intOp, iAdd, iSub, iMul, iQuo, iRem, iAnd, iOr, iXor, iAndNot, iEql, iNeq, iLss, iLeq, iGtr, iGeq, iNone, wrapK_eq, intK_eq, boolK_eq, reduceCtorEq] at h
  case quo =>
    split at h
    · cases h
    · rename_i hz; rw [intEq_eq] at hz
      exact .int h (by simp [binOp, Op.intDiv, beq_eq_false_iff_ne.1 hz])
  case rem =>
    split at h
    · cases h
    · rename_i hz; rw [intEq_eq] at hz
      exact .int h (by simp [binOp, Op.intDiv, beq_eq_false_iff_ne.1 hz])
  case eql => exact .bool h (intEq_eq _ _) (by simp [binOp, Op.intCmp])
  case neq => exact .bool h (congrArg (! ·) (intEq_eq _ _)) (by simp [binOp, Op.intCmp]; rfl)
  case lss => exact .bool h (intLt_eq _ _) (by simp [binOp, Op.intCmp])
  case leq => exact .bool h (intLe_eq _ _) (by simp [binOp, Op.intCmp])
  case gtr => exact .bool h (intLt_eq _ _) (by simp [binOp, Op.intCmp])
  case geq => exact .bool h (intLe_eq _ _) (by simp [binOp, Op.intCmp])
  all_goals exact .int h (by simp [binOp, Op.intArith, Op.intBits])
theorem Ans.sint {kd : IntKind} {n : Int} {g : Nat} {k' : AV → Option β} (h : k' (.sint kd n g) = some r) (hs : s.run P w = .ok (.int kd n) w) : Ans P μ w s k' r := ⟨_, _, h, hs, by simp only [VRel]⟩
theorem Ans.sbool {b c : Bool} {g : Nat} {k' : AV → Option β} (h : k' (.sbool b g) = some r) (hb : b = c) (hs : s.run P w = .ok (.bool c) w) : Ans P μ w s k' r := ⟨_, _, h, hs, by simp only [VRel, hb]⟩
theorem NGood.sint {kd : IntKind} {n : Int} {g : Nat} (h : k (.sint kd n g) none = some r) (hs : s.run P w = .ok (.int kd n) w) : NGood P μ w x s k r := .pure h hs (by simp only [VRel])
theorem NGood.sbool {b c : Bool} {g : Nat} (h : k (.sbool b g) none = some r) (hb : b = c) (hs : s.run P w = .ok (.bool c) w) : NGood P μ w x s k r := .pure h hs (by simp only [VRel, hb])
theorem symOp_ok {op : BinOp} {t : TypeId} {kd : IntKind} {a b : Int} {g : Nat} {k' : AV → Option β} (h : symOp op kd a b g k' = some r) :
    Ans P μ w (binOp op t (.int kd a) (.int kd b)) k' r := by
  cases op <;> simp only [symOp, yAdd, ySub, yMul, yQuo, yRem, yAnd, yOr, yXor, yAndNot, yEql, yNeq, yLss, yLeq, yGtr, yGeq, yNone, reduceCtorEq] at h
  case quo =>
    rcases symFork_ok h with ⟨_, h⟩ | ⟨hz, h⟩
    · cases h
    · exact .sint h (by simp [binOp, Op.intDiv, of_decide_eq_false hz])
  case rem =>
    rcases symFork_ok h with ⟨_, h⟩ | ⟨hz, h⟩
    · cases h
    · exact .sint h (by simp [binOp, Op.intDiv, of_decide_eq_false hz])
  case eql => exact .sbool (c := a == b) h (by rw [Bool.eq_iff_iff]; simp) (by simp [binOp, Op.intCmp])
  case neq => exact .sbool (c := !(a == b)) h (by rw [Bool.eq_iff_iff]; simp) (by simp [binOp, Op.intCmp]; rfl)
  case lss => exact .sbool h rfl (by simp [binOp, Op.intCmp])
  case leq => exact .sbool h rfl (by simp [binOp, Op.intCmp])
  case gtr => exact .sbool h rfl (by simp [binOp, Op.intCmp])
  case geq => exact .sbool h rfl (by simp [binOp, Op.intCmp])
  all_goals exact .sint h (by simp [binOp, Op.intArith, Op.intBits])
theorem nzOp_ok {op : BinOp} {t : TypeId} {kd : IntKind} {a b : Int} {g : Nat} {k' : AV → Option β} (hz : b ≠ 0) (h : nzOp op kd a b g k' = some r) :
    Ans P μ w (binOp op t (.int kd a) (.int kd b)) k' r := by
  cases op
  case quo => exact .sint h (by simp [binOp, Op.intDiv, hz])
  case rem => exact .sint h (by simp [binOp, Op.intDiv, hz])
  all_goals exact symOp_ok (g := g) h
theorem strOp_ok {op : BinOp} {t : TypeId} {a b : ByteArray} {k' : AV → Option β} (h : strOp op (a.data.toList.map UInt8.toNat) (b.data.toList.map UInt8.toNat) k' = some r) :
    Ans P μ w (binOp op t (.string a) (.string b)) k' r := by
  have hl : strLt (a.data.toList.map UInt8.toNat) (b.data.toList.map UInt8.toNat) = Op.bytesLess a.toList b.toList := by
    rw [strLt_bytes, ByteArray.toList_eq, ByteArray.toList_eq]
  cases op <;> simp only [strOp, sAdd, sEql, sNeq, sLss, sLeq, sGtr, sGeq, sNone, boolK_eq, appK_eq, strEq_bytes, hl, reduceCtorEq] at h
  case add =>
    split at h
    · rename_i hb
      rw [Nat.ble_eq] at hb
      simp only [List.length_map, Array.length_toList] at hb
      have hs : ¬ ((a.size + b.size : Nat) : Int) > IntKind.i64.max := by
        have e1 : a.size = a.data.size := rfl
        have e2 : b.size = b.data.size := rfl
        have : IntKind.i64.max = 9223372036854775807 := by decide
        rw [this]; omega
      refine ⟨_, .string (a ++ b), h, ?_, ?_⟩
      · show (Op.stringOp .add a b).run P w = _
        simp only [Op.stringOp]; rw [if_neg hs]; rfl
      · simp only [VRel]; exact ⟨_, rfl, by simp [ByteArray.data_append]⟩
    · cases h
  all_goals exact .bool h rfl (by simp [binOp, Op.stringOp])
theorem run_eqGuard_plain {op : BinOp} {t : TypeId} {x y : Operand} {a b : Value} (h1 : a ≠ .nilIface ∨ b ≠ .nilIface) (h2 : (∀ cs, a ≠ .agg cs) ∨ (∀ cs, b ≠ .agg cs)) :
    (eqGuard op t x y a b).run P w = .ok () w := by
  unfold eqGuard
  cases op <;> (try rfl) <;> (simp only [Bool.not_true, Bool.false_eq_true, if_false]; split <;> first | rfl | simp_all)
theorem arF_ok {op : BinOp} {t : TypeId} {x0 y0 : Operand} {c d : Value} (hv : VRels μ vs [c, d]) (h : arF op vs hp x k = some r) :
    NGood P μ w x (do eqGuard op t x0 y0 c d; binOp op t c d) k r := by
  unfold arF at h
  split at h
  · simp only [VRels, VRel, List.cons.injEq] at hv
    obtain ⟨v1, r1, ⟨rfl, rfl⟩, rfl, v2, r2, ⟨rfl, _⟩, rfl, _⟩ := hv
    split at h
    · rename_i hk; rw [kindEq_iff] at hk; subst hk
      obtain ⟨v, cv, h3, h4, h5⟩ := intOp_ok (P := P) (μ := μ) (w := w) (t := t) h
      exact .pure h3 (by simp [run_eqGuard_plain, h4]) h5
    · cases h
  · simp only [VRels, VRel, List.cons.injEq] at hv
    obtain ⟨v1, r1, ⟨rfl, rfl⟩, ⟨a, rfl, rfl⟩, v2, r2, ⟨rfl, _⟩, ⟨b, rfl, rfl⟩, _⟩ := hv
    obtain ⟨v, cv, h3, h4, h5⟩ := strOp_ok (P := P) (μ := μ) (w := w) (t := t) h
    exact .pure h3 (by simp [run_eqGuard_plain, h4]) h5
  · simp only [VRels, VRel, List.cons.injEq] at hv
    obtain ⟨v1, r1, ⟨rfl, rfl⟩, hv1, v2, r2, ⟨rfl, _⟩, ⟨rfl, hz⟩, _⟩ := hv
    obtain ⟨kd, n, g, hv0, h'⟩ := intOf_ok hv1 h
    subst hv0
    split at h'
    · rename_i hk; rw [kindEq_iff] at hk; subst hk
      obtain ⟨v, cv, h3, h4, h5⟩ := nzOp_ok (P := P) (μ := μ) (w := w) (t := t) hz h'
      exact .pure h3 (by simp [run_eqGuard_plain, h4]) h5
    · cases h'
  · simp only [VRels, List.cons.injEq] at hv
    obtain ⟨v1, r1, ⟨rfl, rfl⟩, hv1, v2, r2, ⟨rfl, _⟩, hv2, _⟩ := hv
    obtain ⟨kd, n, g, rfl, h⟩ := intOf_ok hv1 h
    obtain ⟨kd', m, g', rfl, h⟩ := intOf_ok hv2 h
    split at h
    · rename_i hk; rw [kindEq_iff] at hk; subst hk
      obtain ⟨v, cv, h3, h4, h5⟩ := symOp_ok (P := P) (μ := μ) (w := w) (t := t) h
      exact .pure h3 (by simp [run_eqGuard_plain, h4]) h5
    · cases h
  · cases h
theorem symSh_ok {op : BinOp} {t : TypeId} {kd yk : IntKind} {a b : Int} {g : Nat} {k' : AV → Option β} (h : symSh op kd a b g k' = some r) :
    Ans P μ w (binOp op t (.int kd a) (.int yk b)) k' r := by
  unfold symSh at h
  split at h
  · rcases symFork_ok h with ⟨_, h⟩ | ⟨hb, h⟩
    · cases h
    · exact .sint h (by simp [binOp, Op.shift, of_decide_eq_false hb])
  · rcases symFork_ok h with ⟨_, h⟩ | ⟨hb, h⟩
    · cases h
    · exact .sint h (by simp [binOp, Op.shift, of_decide_eq_false hb])
  · simp [yNone] at h
theorem shOp_ok {op : BinOp} {t : TypeId} {kd yk : IntKind} {a b : Int} {k' : AV → Option β} (h : shOp op kd a b k' = some r) :
    Ans P μ w (binOp op t (.int kd a) (.int yk b)) k' r := by
  unfold shOp at h
  split at h
  · split at h
    · cases h
    · rename_i hb; rw [intLt_eq, decide_eq_false_iff_not] at hb
      rw [wrapK_eq] at h
      exact .int h (by simp [binOp, Op.shift, hb])
  · split at h
    · cases h
    · rename_i hb; rw [intLt_eq, decide_eq_false_iff_not] at hb
      rw [intK_eq] at h
      exact .int h (by simp [binOp, Op.shift, hb])
  · simp [iNone] at h
theorem shF_ok {op : BinOp} {t : TypeId} {x0 y0 : Operand} {c d : Value} (hv : VRels μ vs [c, d]) (h : shF op vs hp x k = some r) :
    NGood P μ w x (do eqGuard op t x0 y0 c d; binOp op t c d) k r := by
  unfold shF at h
  split at h
  · simp only [VRels, VRel, List.cons.injEq] at hv
    obtain ⟨v1, r1, ⟨rfl, rfl⟩, rfl, v2, r2, ⟨rfl, _⟩, rfl, _⟩ := hv
    rename_i kd0 a0 kd1 b0 _
    obtain ⟨v, cv, h3, h4, h5⟩ := shOp_ok (P := P) (μ := μ) (w := w) (t := t) (yk := kd1) h
    exact .pure h3 (by simp [run_eqGuard_plain, h4]) h5
  · simp only [VRels, List.cons.injEq] at hv
    obtain ⟨v1, r1, ⟨rfl, rfl⟩, hv1, v2, r2, ⟨rfl, _⟩, hv2, _⟩ := hv
    obtain ⟨kd, n, g, rfl, h⟩ := intOf_ok hv1 h
    obtain ⟨kd', m, g', rfl, h⟩ := intOf_ok hv2 h
    obtain ⟨v, cv, h3, h4, h5⟩ := symSh_ok (P := P) (μ := μ) (w := w) (t := t) (yk := kd') h
    exact .pure h3 (by simp [run_eqGuard_plain, h4]) h5
  · cases h
theorem negF_ok {c : Value} (hv : VRels μ vs [c]) (h : negF vs hp x k = some r) : NGood P μ w x (Op.unary .neg c) k r := by
  unfold negF at h
  split at h
  · simp only [VRels, VRel, List.cons.injEq] at hv
    obtain ⟨v1, r1, ⟨rfl, rfl⟩, rfl, _⟩ := hv
    simp only [iSub, wrapK_eq] at h
    exact .int h (by simp [Op.unary, Op.intArith])
  · simp only [VRels, VRel, List.cons.injEq] at hv
    obtain ⟨v1, r1, ⟨rfl, rfl⟩, rfl, _⟩ := hv
    exact .sint h (by simp [Op.unary, Op.intArith])
  · cases h
theorem bnotF_ok {c : Value} (hv : VRels μ vs [c]) (h : bnotF vs hp x k = some r) : NGood P μ w x (Op.unary .not c) k r := by
  unfold bnotF at h
  split at h
  · simp only [VRels, VRel, List.cons.injEq] at hv
    obtain ⟨v1, r1, ⟨rfl, rfl⟩, rfl, _⟩ := hv
    rw [boolK_eq] at h
    exact .bool h rfl (by simp [Op.unary])
  · simp only [VRels, VRel, List.cons.injEq] at hv
    obtain ⟨v1, r1, ⟨rfl, rfl⟩, rfl, _⟩ := hv
    exact .sbool h rfl (by simp [Op.unary])
  · cases h
theorem invF_ok {c : Value} (hv : VRels μ vs [c]) (h : invF vs hp x k = some r) : NGood P μ w x (Op.unary .xor c) k r := by
  unfold invF at h
  split at h
  · simp only [VRels, VRel, List.cons.injEq] at hv
    obtain ⟨v1, r1, ⟨rfl, rfl⟩, rfl, _⟩ := hv
    simp only [iXor, intK_eq] at h
    exact .int h (by simp [Op.unary, Op.intBits])
  · simp only [VRels, VRel, List.cons.injEq] at hv
    obtain ⟨v1, r1, ⟨rfl, rfl⟩, rfl, _⟩ := hv
    exact .sint h (by simp [Op.unary, Op.intBits])
  · cases h
theorem toIntF_ok {kd kd0 : IntKind} {src dst : TypeId} (hs : P.underlying src = some (.int kd0)) (hd : P.underlying dst = some (.int kd)) {c : Value} (hv : VRels μ vs [c]) (h : toIntF kd vs hp x k = some r) :
    NGood P μ w x (convert src dst c) k r := by
  unfold toIntF at h
  split at h
  · simp only [VRels, VRel, List.cons.injEq] at hv
    obtain ⟨v1, r1, ⟨rfl, rfl⟩, rfl, _⟩ := hv
    rw [wrapK_eq] at h
    exact .int h (by simp [convert, run_underlying hs, run_underlying hd, Conv.intToInt])
  · simp only [VRels, VRel, List.cons.injEq] at hv
    obtain ⟨v1, r1, ⟨rfl, rfl⟩, rfl, _⟩ := hv
    exact .sint h (by simp [convert, run_underlying hs, run_underlying hd, Conv.intToInt])
  · cases h
theorem mkIfaceF_ok {t : TypeId} {d : TypeDesc} (ht : P.underlying t = some d) (hd : ∀ ms, d ≠ .interface ms) {c : Value} (hv : VRels μ vs [c]) (h : mkIfaceF t vs hp x k = some r) :
    NGood P μ w x (Instr.makeInterface t c) k r := by
  unfold mkIfaceF at h
  split at h
  · simp only [VRels, List.cons.injEq] at hv
    obtain ⟨v1, r1, ⟨rfl, rfl⟩, hv, _⟩ := hv
    refine .pure h (cv := .iface t c) ?_ (by simp only [VRel]; exact ⟨_, rfl, hv⟩)
    simp only [Instr.makeInterface, Sem.run_bind, run_underlying ht, Result.andThen_ok]
    cases d <;> first | rfl | exact absurd rfl (hd _)
  · cases h
theorem mkFuncF_ok {fn : Fn} {a b : Array Value} (hv : VRels μ vs (a.toList ++ b.toList)) (h : mkFuncF fn a.size vs hp x k = some r) :
    NGood P μ w x (Instr.makeFunc fn a b) k r := by
  simp only [mkFuncF] at h
  obtain ⟨_, h⟩ := takeK_ok h
  obtain ⟨_, h⟩ := dropK_ok h
  refine .pure h (cv := .func fn a b) rfl ?_
  simp only [VRel]
  refine ⟨a, b, rfl, ?_, ?_⟩
  · have := hv.take a.size; simpa using this
  · have := hv.drop a.size; simpa using this
theorem mkMapF_ok (hx : ∀ v o, k v (some o) = some r → μ x = none) {t : TypeId} {c : Option Value} (hc : c = none ∨ ∃ a b, P.underlying t = some (.map a b)) (hv : VRels μ vs c.toList) (h : mkMapF vs hp x k = some r) :
    NGood P μ w x (Instr.makeMap t c) k r := by
  unfold mkMapF at h
  split at h
  · cases c with
    | some v => simp [VRels] at hv
    | none =>
      refine .new 0 h (cv := .map (some w.heap.size)) (w1 := w.alloc (.map #[] 0)) (ho := .map #[] 0) (by simp [Instr.makeMap]) rfl rfl rfl rfl rfl ?_ ?_
      · simp only [VRel]; exact ⟨_, upd_self _ _ _, rfl⟩
      · exact ⟨#[], push_get _ _ _ rfl, by simp [ERels]⟩
  · cases c with
    | none => simp [VRels] at hv
    | some v =>
      simp only [Option.toList_some, VRels, VRel, List.cons.injEq] at hv
      obtain ⟨v1, r1, ⟨rfl, rfl⟩, rfl, _⟩ := hv
      rcases hc with hc | ⟨a, b, hu⟩
      · cases hc
      refine .new 0 h (cv := .map (some w.heap.size)) (w1 := w.alloc (.map #[] 0)) (ho := .map #[] 0) (by simp [Instr.makeMap, run_underlying hu, asInt, asIntOf]) rfl rfl rfl rfl rfl ?_ ?_
      · simp only [VRel]; exact ⟨_, upd_self _ _ _, rfl⟩
      · exact ⟨#[], push_get _ _ _ rfl, by simp [ERels]⟩
  · cases h
theorem fieldAddrF_ok {t : TypeId} {fs : Array Field} {i : Nat} {f : Field} {n : Nat} (hu : P.underlying t = some (.struct fs)) (hf : fs[i]? = some f) (hs : sizeP P f.type = some (n + 1)) {c : Value} (hv : VRels μ vs [c])
    (h : fieldAddrF f.offset vs hp x k = some r) : NGood P μ w x (Instr.fieldAt t c i) k r := by
  unfold fieldAddrF at h
  split at h
  · simp only [VRels, VRel, List.cons.injEq] at hv
    obtain ⟨v1, r1, ⟨rfl, rfl⟩, ⟨l, hl, rfl⟩, _⟩ := hv
    rw [natK_eq] at h
    refine .pure h (cv := .pointer (some ⟨l.blk, l.base + (_ + f.offset), none⟩)) ?_ (by simp only [VRel]; exact ⟨l, hl, rfl⟩)
    simp only [Instr.fieldAt, Sem.run_bind, run_underlying hu, Result.andThen_ok, hf, Instr.sureAddr, Sem.run_pure, fieldPlace, run_sizeOf hs]
    rw [if_neg (by omega)]
    simp [loc_add]
  · cases h
theorem partV_ok {t : TypeId} {g : Option Nat} (hg : aggP P t = some g) {cs : Array Value} {l : List AV} (hl : VRels μ l cs.toList) {o : Nat} {k' : AV → Option β} (h : partK l o g k' = some r) : Ans P μ w (part t cs o) k' r := by
  unfold aggP at hg
  split at hg
  · rename_i n h1 h2
    injection hg with hg; subst hg
    simp only [partK] at h
    obtain ⟨h3, h⟩ := dropK_ok h
    obtain ⟨h4, h⟩ := takeK_ok h
    refine ⟨_, .agg (cs.extract o (o + n)), h, by simp [part, run_isAgg h1, run_sizeOf h2], ?_⟩
    simp only [VRel]
    refine ⟨_, rfl, ?_⟩
    have := (hl.drop o).take n
    rw [Array.toList_extract, List.extract_eq_take_drop]
    simpa using this
  · rename_i h1 h2
    injection hg with hg; subst hg
    simp only [partK] at h
    obtain ⟨a, ha, h⟩ := getK_ok h
    rw [avK_eq] at h
    obtain ⟨y, hy, hr⟩ := hl.get ha
    rw [Array.getElem?_toList] at hy
    exact ⟨a, y, h, by simp [part, run_isAgg h1, hy], hr⟩
  · cases hg
theorem fieldF_ok {t : TypeId} {fs : Array Field} {i : Nat} {f : Field} {g : Option Nat} (hu : P.underlying t = some (.struct fs)) (hf : fs[i]? = some f) (hs : aggP P f.type = some g) {c : Value} (hv : VRels μ vs [c])
    (h : fieldF f.offset g vs hp x k = some r) : NGood P μ w x (Instr.field t c i) k r := by
  unfold fieldF at h
  split at h
  · simp only [VRels, VRel, List.cons.injEq] at hv
    obtain ⟨v1, r1, ⟨rfl, rfl⟩, ⟨cs, rfl, hcs⟩, _⟩ := hv
    obtain ⟨v, cv, h1, h2, h3⟩ := partV_ok (P := P) (w := w) hs hcs h
    exact .pure h1 (by simp [Instr.field, run_underlying hu, hf, asAgg, h2]) h3
  · cases h
theorem idxAddrSlF_ok {t e : TypeId} {n : Nat} (hu : P.underlying t = some (.slice e)) (hs : sizeP P e = some n) {c i : Value} (hv : VRels μ vs [c, i]) (h : idxAddrSlF n vs hp x k = some r) :
    NGood P μ w x (Instr.indexAt t c i) k r := by
  unfold idxAddrSlF at h
  split at h
  · rename_i b o len cp kd i0
    simp only [VRels, VRel, List.cons.injEq] at hv
    obtain ⟨v1, r1, ⟨rfl, rfl⟩, ⟨l, hl, hsl⟩, v2, r2, ⟨rfl, _⟩, rfl, _⟩ := hv
    split at h
    · rename_i hb; rw [Nat.ble_eq] at hb
      rw [natK_eq] at h
      have hc : ∃ cc, c = .slice (some ⟨l.blk, l.base + o, none⟩) len cc := by
        cases cp with
        | ex n => exact ⟨_, hsl⟩
        | op g => exact ⟨_, hsl.1⟩
        | em => obtain ⟨h0, _⟩ := hsl; omega
      obtain ⟨cc, rfl⟩ := hc
      refine .pure h (cv := .pointer (some ⟨l.blk, l.base + (o + i0 * n), none⟩)) ?_ (by simp only [VRel]; exact ⟨l, hl, rfl⟩)
      have hlt : (0 : Int) ≤ Int.ofNat i0 ∧ Int.ofNat i0 < (len : Int) := by simp; omega
      simp only [Instr.indexAt, asIntOf, Sem.run_bind, Sem.run_pure, Result.andThen_ok, run_underlying hu]
      rw [Sem.run_ite, if_pos hlt]
      simp [run_sizeOf hs, loc_add]
    · cases h
  · rename_i b o len cp kd i1 g
    simp only [VRels, VRel, List.cons.injEq] at hv
    obtain ⟨v1, r1, ⟨rfl, rfl⟩, ⟨l, hl, hsl⟩, v2, r2, ⟨rfl, _⟩, rfl, _⟩ := hv
    obtain ⟨i0, hb, hi0, h'⟩ := forkI_ok h
    subst hi0
    rw [natK_eq] at h'
    clear h
    have h := h'
    have hc : ∃ cc, c = .slice (some ⟨l.blk, l.base + o, none⟩) len cc := by
      cases cp with
      | ex n => exact ⟨_, hsl⟩
      | op g => exact ⟨_, hsl.1⟩
      | em => obtain ⟨h0, _⟩ := hsl; omega
    obtain ⟨cc, rfl⟩ := hc
    refine .pure h (cv := .pointer (some ⟨l.blk, l.base + (o + i0 * n), none⟩)) ?_ (by simp only [VRel]; exact ⟨l, hl, rfl⟩)
    have hlt : (0 : Int) ≤ (i0 : Int) ∧ (i0 : Int) < (len : Int) := by omega
    simp only [Instr.indexAt, asIntOf, Sem.run_bind, Sem.run_pure, Result.andThen_ok, run_underlying hu]
    rw [Sem.run_ite, if_pos hlt]
    simp [run_sizeOf hs, loc_add]
  · cases h
theorem idxAddrArrF_ok {t e : TypeId} {m n : Nat} (hu : P.underlying t = some (.array m e)) (hs : sizeP P e = some n) {c i : Value} (hv : VRels μ vs [c, i]) (h : idxAddrArrF m n vs hp x k = some r) :
    NGood P μ w x (Instr.indexAt t c i) k r := by
  unfold idxAddrArrF at h
  split at h
  · rename_i b o kd i0
    simp only [VRels, VRel, List.cons.injEq] at hv
    obtain ⟨v1, r1, ⟨rfl, rfl⟩, ⟨l, hl, rfl⟩, v2, r2, ⟨rfl, _⟩, rfl, _⟩ := hv
    split at h
    · rename_i hb; rw [Nat.ble_eq] at hb
      rw [natK_eq] at h
      refine .pure h (cv := .pointer (some ⟨l.blk, l.base + (o + i0 * n), none⟩)) ?_ (by simp only [VRel]; exact ⟨l, hl, rfl⟩)
      have hlt : (0 : Int) ≤ Int.ofNat i0 ∧ Int.ofNat i0 < (m : Int) := by simp; omega
      simp only [Instr.indexAt, asIntOf, Sem.run_bind, Sem.run_pure, Result.andThen_ok, run_underlying hu, Instr.sureAddr]
      rw [Sem.run_ite, if_pos hlt]
      simp [run_sizeOf hs, loc_add]
    · cases h
  · rename_i b o kd i1 g
    simp only [VRels, VRel, List.cons.injEq] at hv
    obtain ⟨v1, r1, ⟨rfl, rfl⟩, ⟨l, hl, rfl⟩, v2, r2, ⟨rfl, _⟩, rfl, _⟩ := hv
    obtain ⟨i0, hb, hi0, h'⟩ := forkI_ok h
    subst hi0
    rw [natK_eq] at h'
    clear h
    have h := h'
    refine .pure h (cv := .pointer (some ⟨l.blk, l.base + (o + i0 * n), none⟩)) ?_ (by simp only [VRel]; exact ⟨l, hl, rfl⟩)
    have hlt : (0 : Int) ≤ (i0 : Int) ∧ (i0 : Int) < (m : Int) := by omega
    simp only [Instr.indexAt, asIntOf, Sem.run_bind, Sem.run_pure, Result.andThen_ok, run_underlying hu, Instr.sureAddr]
    rw [Sem.run_ite, if_pos hlt]
    simp [run_sizeOf hs, loc_add]
  · cases h
theorem aggP_of {e : TypeId} {n : Nat} {ag : Bool} (ha : isAggP P e = some ag) (hs : sizeP P e = some n) : aggP P e = some (optIf ag n) := by
  unfold aggP optIf; simp only [ha, hs]; cases ag <;> rfl
theorem idxArrF_ok {t e : TypeId} {m n : Nat} {ag : Bool} (hu : P.underlying t = some (.array m e)) (hs : sizeP P e = some n) (ha : isAggP P e = some ag) {c i : Value} (hv : VRels μ vs [c, i]) (h : idxArrF m n ag vs hp x k = some r) :
    NGood P μ w x (Instr.index t c i) k r := by
  unfold idxArrF at h
  split at h
  · rename_i l kd i0
    simp only [VRels, VRel, List.cons.injEq] at hv
    obtain ⟨v1, r1, ⟨rfl, rfl⟩, ⟨cs, rfl, hcs⟩, v2, r2, ⟨rfl, _⟩, rfl, _⟩ := hv
    split at h
    · rename_i hb; rw [Nat.ble_eq] at hb
      have hg := aggP_of ha hs
      obtain ⟨v, cv, h1, h2, h3⟩ := partV_ok (P := P) (w := w) hg hcs h
      refine .pure h1 ?_ h3
      have hlt : (0 : Int) ≤ Int.ofNat i0 ∧ Int.ofNat i0 < (m : Int) := by simp; omega
      simp only [Instr.index, asIntOf, Sem.run_bind, Sem.run_pure, Result.andThen_ok, run_underlying hu]
      rw [Sem.run_ite, if_pos hlt]
      simpa [run_sizeOf hs] using h2
    · cases h
  · cases h
theorem idxStrF_ok {t : TypeId} (hu : P.underlying t = some .string) {c i : Value} (hv : VRels μ vs [c, i]) (h : idxStrF vs hp x k = some r) :
    NGood P μ w x (Instr.index t c i) k r := by
  unfold idxStrF at h
  split at h
  · rename_i l kd i0
    simp only [VRels, VRel, List.cons.injEq] at hv
    obtain ⟨v1, r1, ⟨rfl, rfl⟩, ⟨cs, rfl, rfl⟩, v2, r2, ⟨rfl, _⟩, rfl, _⟩ := hv
    obtain ⟨a, ha, h⟩ := getK_ok h
    rw [natK_eq] at h
    rw [List.getElem?_map, Option.map_eq_some_iff] at ha
    obtain ⟨b, hb, rfl⟩ := ha
    rw [Array.getElem?_toList] at hb
    have hlt : i0 < cs.size := by
      rcases Nat.lt_or_ge i0 cs.data.size with h | h
      · exact h
      · simp [Array.getElem?_eq_none h] at hb
    have hb' : cs[i0]? = some b := by
      rw [ByteArray.getElem?_lt' cs i0 hlt]
      have : cs.data[i0]? = some cs.data[i0] := by simp
      rw [this] at hb
      exact hb
    refine .pure h (cv := .int .u8 b.toNat) ?_ (by simp [VRel])
    have h0 : (0 : Int) ≤ Int.ofNat i0 := by simp
    simp only [Instr.index, asIntOf, Sem.run_bind, Sem.run_pure, Result.andThen_ok, run_underlying hu]
    rw [if_pos h0]
    have e : (Int.ofNat i0).toNat = i0 := rfl
    simp [e, hb']
  · cases h
theorem extractF_ok {c : Value} {i : Nat} (hv : VRels μ vs [c]) (h : extractF i vs hp x k = some r) : NGood P μ w x (Instr.extract c i) k r := by
  unfold extractF at h
  split at h
  · simp only [VRels, VRel, List.cons.injEq] at hv
    obtain ⟨v1, r1, ⟨rfl, rfl⟩, ⟨cs, rfl, hcs⟩, _⟩ := hv
    obtain ⟨a, ha, h⟩ := getK_ok h
    rw [avK_eq] at h
    obtain ⟨y, hy, hr⟩ := hcs.get ha
    rw [Array.getElem?_toList] at hy
    exact .pure h (by simp [Instr.extract, hy]) hr
  · cases h
theorem lookK_ok {ok : Bool} {v : AV} {cv : Value} {b : Bool} (hv : VRel μ v cv) (h : lookK ok v b k = some r) :
    ∃ u, k u none = some r ∧ VRel μ u (if ok then .tuple #[cv, .bool b] else cv) := by
  unfold lookK at h
  split at h
  · refine ⟨_, h, ?_⟩
    simp only [VRel, if_true]
    exact ⟨_, rfl, by simp only [VRels, VRel]; exact ⟨_, _, rfl, hv, _, _, rfl, rfl, rfl⟩⟩
  · exact ⟨_, h, by simpa using hv⟩
theorem tassertF_ok {t xt : TypeId} {ok : Bool} {z : AV} (hz : zeroV P t = some z) {d : TypeDesc} (hu : P.underlying t = some d) (hd : ∀ ms, d ≠ .interface ms) {c : Value} (hv : VRels μ vs [c]) (h : tassertF t z ok vs hp x k = some r) :
    NGood P μ w x (Instr.typeAssert c xt t ok) k r := by
  obtain ⟨zv, hzr, hzv⟩ := zeroV_ok hz
  unfold tassertF at h
  split at h
  · rename_i u v0
    simp only [VRels, VRel, List.cons.injEq] at hv
    obtain ⟨v1, r1, ⟨rfl, rfl⟩, ⟨cv, rfl, hcv⟩, _⟩ := hv
    split at h
    · rename_i he; rw [Nat.beq_eq] at he; subst he
      rw [avK_eq] at h
      obtain ⟨a, ha, hr⟩ := lookK_ok hcv h
      refine .pure ha ?_ hr
      cases d <;> simp_all [Instr.typeAssert, run_underlying hu] <;> rfl
    · rename_i he
      split at h
      · have hne : u ≠ t := fun e => by rw [← Nat.beq_eq] at e; rw [e] at he; cases he
        refine .pure h (cv := .tuple #[zv, .bool false]) ?_ (by simp only [VRel, VRels]; exact ⟨_, rfl, _, _, rfl, hzv μ, _, _, rfl, rfl, rfl⟩)
        cases d <;> simp_all [Instr.typeAssert, run_underlying hu]
      · cases h
  · split at h
    · simp only [VRels, VRel, List.cons.injEq] at hv
      obtain ⟨v1, r1, ⟨rfl, rfl⟩, rfl, _⟩ := hv
      refine .pure h (cv := .tuple #[zv, .bool false]) ?_ (by simp only [VRel, VRels]; exact ⟨_, rfl, _, _, rfl, hzv μ, _, _, rfl, rfl, rfl⟩)
      cases d <;> simp_all [Instr.typeAssert, run_underlying hu]
    · cases h
  · cases h
end
end Go.Proofs.Ytkejnhmhbmbhcaa.Eng
namespace Go.Proofs.Ytkejnhmhbmbhcaa.Eng
open Go
section
variable {β : Type} {P : Program} {μ : Inj} {w : World} {x : Bid} {s : Sem Value} {k : AV → Option AObj → Option β} {r : β} {hp : Hp} {vs : List AV}
theorem run_sliceBound {k : IntKind} {i : Nat} {y : Nat} {code : BoundsCode} (h : i ≤ y) : (Instr.sliceBound (.int k (i : Int)) y code).run P w = .ok i w := by
  simp only [Instr.sliceBound, asIntOf, Sem.run_bind, Sem.run_pure, Result.andThen_ok]
  rw [Sem.run_ite, if_pos ⟨by omega, by omega⟩]; rfl
theorem bndK_ok {lo hi : Bool} {low high : Option Value} {vs : List AV} {d top : Nat} {k' : Nat → Nat → Option β} (hlo : lo = low.isSome) (hhi : hi = high.isSome) (hv : VRels μ vs (low.toList ++ high.toList)) (h : bndK lo hi vs d top k' = some r) :
    ∃ a b, k' a b = some r ∧ a ≤ b ∧ b ≤ top ∧ (high = none → b = d) ∧ ∀ (sl : Bool) (c : Nat), b ≤ c → (Instr.sliceBounds sl d c low high none).run P w = .ok (a, b, c) w := by
  unfold bndK at h
  subst hlo hhi
  cases low with
  | none =>
    cases high with
    | none =>
      cases vs with
      | cons _ _ => simp [VRels] at hv
      | nil =>
        simp only [Option.isSome_none] at h
        split at h
        · rename_i hb; rw [Nat.ble_eq] at hb
          exact ⟨0, d, h, by omega, hb, fun _ => rfl, fun sl c hc => by simp [Instr.sliceBounds]⟩
        · cases h
    | some v =>
      simp only [Option.toList_none, Option.toList_some, List.nil_append] at hv
      simp only [Option.isSome_none, Option.isSome_some] at h
      split at h <;> first | (cases h; done) | skip
      all_goals (rename_i e1 e2; first | (cases e1; done) | (cases e2; done) | skip)
      simp only [VRels, VRel, List.cons.injEq] at hv
      obtain ⟨v1, r1, ⟨rfl, rfl⟩, rfl, _⟩ := hv
      split at h
      · rename_i hb; rw [Nat.ble_eq] at hb
        refine ⟨0, _, h, by omega, hb, (by simp), fun sl c hc => ?_⟩
        simp [Instr.sliceBounds, run_sliceBound hc]
      · cases h
  | some u =>
    cases high with
    | none =>
      simp only [Option.toList_none, Option.toList_some, List.append_nil] at hv
      simp only [Option.isSome_none, Option.isSome_some] at h
      split at h <;> first | (cases h; done) | skip
      all_goals (rename_i e1 e2; first | (cases e1; done) | (cases e2; done) | skip)
      simp only [VRels, VRel, List.cons.injEq] at hv
      obtain ⟨v1, r1, ⟨rfl, rfl⟩, rfl, _⟩ := hv
      split at h
      · rename_i hb; rw [Bool.and_eq_true, Nat.ble_eq, Nat.ble_eq] at hb
        refine ⟨_, d, h, hb.1, hb.2, fun _ => rfl, fun sl c hc => ?_⟩
        simp [Instr.sliceBounds, run_sliceBound hb.1]
      · cases h
    | some v =>
      simp only [Option.toList_some, List.cons_append, List.nil_append] at hv
      simp only [Option.isSome_some] at h
      split at h <;> first | (cases h; done) | skip
      all_goals (rename_i e1 e2; first | (cases e1; done) | (cases e2; done) | skip)
      simp only [VRels, VRel, List.cons.injEq] at hv
      obtain ⟨v1, r1, ⟨rfl, rfl⟩, rfl, v2, r2, ⟨rfl, rfl⟩, rfl, _⟩ := hv
      split at h
      · rename_i hb; rw [Bool.and_eq_true, Nat.ble_eq, Nat.ble_eq] at hb
        refine ⟨_, _, h, hb.1, hb.2, (by simp), fun sl c hc => ?_⟩
        simp [Instr.sliceBounds, run_sliceBound hc, run_sliceBound hb.1]
      · cases h
theorem slStrF_ok {t : TypeId} (hu : P.underlying t = some .string) {c : Value} {low high : Option Value} (hv : VRels μ vs (c :: (low.toList ++ high.toList))) (h : slStrF low.isSome high.isSome vs hp x k = some r) :
    NGood P μ w x (Instr.sliceAt t c low high none) k r := by
  cases vs with
  | nil => simp [VRels] at hv
  | cons a vs =>
    unfold slStrF at h
    split at h
    · rename_i s0 vs0 e
      injection e with e1 e2; subst e1 e2
      simp only [VRels, VRel, List.cons.injEq] at hv
      obtain ⟨v1, r1, ⟨rfl, rfl⟩, ⟨t0, rfl, rfl⟩, hv⟩ := hv
      obtain ⟨a, b, h, h1, h2, _, h3⟩ := bndK_ok (P := P) (w := w) rfl rfl hv h
      obtain ⟨_, h⟩ := dropK_ok h
      obtain ⟨_, h⟩ := takeK_ok h
      have e : (t0.data.toList.map UInt8.toNat).length = t0.size := by simp
      rw [e] at h3 h2
      refine .pure h (cv := .string (t0.extract a b)) ?_ ?_
      · simp [Instr.sliceAt, Instr.slice, run_underlying hu, h3 false t0.size h2]
      · simp only [VRel]
        refine ⟨_, rfl, ?_⟩
        obtain ⟨⟨l⟩⟩ := t0
        rw [show (ByteArray.mk { toList := l }).extract a b = ByteArray.mk ((l.drop a).take (b - a)).toArray from ByteArray.extract_mk l a b]
        simp [List.map_take, List.map_drop]
    · cases h
theorem pieceEx_ok {t e : TypeId} {size : Nat} (hu : P.underlying t = some (.slice e)) (hs : sizeP P e = some size) {b : Bid} {l : Loc} (hl : μ b = some l) {o n c a z : Nat} (h : pieceEx size b o c a z k = some r) :
    ∃ v, k v none = some r ∧ VRel μ v (.slice (some (if c = a then (⟨l.blk, l.base + o, none⟩ : Addr) else (⟨l.blk, l.base + o, none⟩ : Addr).add (a * size))) (z - a) (c - a)) := by
  unfold pieceEx at h
  split at h
  · rename_i hb; rw [Nat.beq_eq] at hb
    simp only [natK_eq] at h
    exact ⟨_, h, by simp only [VRel, SlRel]; exact ⟨l, hl, by rw [if_pos hb]⟩⟩
  · rename_i hb
    have hb' : c ≠ a := fun e => by rw [← Nat.beq_eq] at e; rw [e] at hb; cases hb
    simp only [natK_eq] at h
    exact ⟨_, h, by simp only [VRel, SlRel]; exact ⟨l, hl, by rw [if_neg hb', loc_add]⟩⟩
theorem slMx_ok {t e : TypeId} {size : Nat} (hu : P.underlying t = some (.slice e)) (hs : sizeP P e = some size) {b : Bid} {l : Loc} (hl : μ b = some l) {o n cc lim : Nat} (hlim : lim ≤ cc) {low high : Option Value} {m : Value}
    (hv : VRels μ vs (low.toList ++ (high.toList ++ [m]))) (h : slMx size low.isSome high.isSome b o lim vs k = some r) : NGood P μ w x (Instr.sliceAt t (.slice (some ⟨l.blk, l.base + o, none⟩) n cc) low high (some m)) k r := by
  have hat : ∀ (l1 h1 m1 : Nat), (Instr.sliceBounds true n cc low high (some m)).run P w = .ok (l1, h1, m1) w →
      (Instr.sliceAt t (.slice (some ⟨l.blk, l.base + o, none⟩) n cc) low high (some m)).run P w = .ok (.slice (if m1 = l1 then (some (⟨l.blk, l.base + o, none⟩ : Addr)) else (some (⟨l.blk, l.base + o, none⟩ : Addr)).map (·.add (l1 * size))) (h1 - l1) (m1 - l1)) w := by
    intro l1 h1 m1 hb
    simp [Instr.sliceAt, Instr.slice, run_underlying hu, hb, run_sizeOf hs]
  unfold slMx at h
  cases high with
  | none => simp at h
  | some z =>
    simp only [Option.isSome_some, Option.toList_some, List.cons_append, List.nil_append] at h hv
    split at h <;> first | (cases h; done) | skip
    · rename_i lo0 hi0 vs1 k1 l0 k2 r0 k3 m0 heq0
      cases low with
      | none => have := hv.length; simp at this
      | some a =>
        simp only [Option.toList_some, List.cons_append, List.nil_append, VRels, VRel, List.cons.injEq] at hv
        obtain ⟨v1, r1, ⟨rfl, rfl⟩, rfl, v2, r2, ⟨rfl, rfl⟩, rfl, v3, r3, ⟨rfl, _⟩, rfl, _⟩ := hv
        split at h
        · rename_i hb
          simp only [Bool.and_eq_true, Nat.ble_eq] at hb
          obtain ⟨v, hk, hr⟩ := pieceEx_ok (μ := μ) hu hs hl h (n := n)
          refine .pure hk (hat l0 r0 m0 ?_) ?_
          · simp [Instr.sliceBounds, run_sliceBound (Nat.le_trans hb.2 hlim), run_sliceBound hb.1.2, run_sliceBound hb.1.1.2]
          · split
            · rename_i e; rw [if_pos e] at hr; exact hr
            · rename_i e; rw [if_neg e] at hr; exact hr
        · cases h
    · rename_i lo0 hi0 vs1 k2 r0 k3 m0 heq0
      cases low with
      | some a =>
        simp only [Option.isSome_some, Bool.not_true, Bool.false_and] at h
        cases h
      | none =>
        simp only [Option.toList_none, List.nil_append, VRels, VRel, List.cons.injEq] at hv
        obtain ⟨v2, r2, ⟨rfl, rfl⟩, rfl, v3, r3, ⟨rfl, _⟩, rfl, _⟩ := hv
        split at h
        · rename_i hb
          simp only [Bool.and_eq_true, Nat.ble_eq] at hb
          obtain ⟨v, hk, hr⟩ := pieceEx_ok (μ := μ) hu hs hl h (n := n)
          refine .pure hk (hat 0 r0 m0 ?_) ?_
          · simp [Instr.sliceBounds, run_sliceBound (Nat.le_trans hb.2 hlim), run_sliceBound hb.1.2]
          · split
            · rename_i e; rw [if_pos e] at hr; exact hr
            · rename_i e; rw [if_neg e] at hr; exact hr
        · cases h
theorem slSlF_ok {t e : TypeId} {size : Nat} (hu : P.underlying t = some (.slice e)) (hs : sizeP P e = some size) {c : Value} {low high mx : Option Value} (hv : VRels μ vs (c :: (low.toList ++ (high.toList ++ mx.toList))))
    (h : slSlF size low.isSome high.isSome mx.isSome vs hp x k = some r) : NGood P μ w x (Instr.sliceAt t c low high mx) k r := by
  have hat : ∀ (a : Option Addr) (n cc l1 h1 m1 : Nat), c = .slice a n cc → (Instr.sliceBounds true n cc low high mx).run P w = .ok (l1, h1, m1) w →
      (Instr.sliceAt t c low high mx).run P w = .ok (.slice (if m1 = l1 then a else a.map (·.add (l1 * size))) (h1 - l1) (m1 - l1)) w := by
    rintro a n cc l1 h1 m1 rfl hb
    simp [Instr.sliceAt, Instr.slice, run_underlying hu, hb, run_sizeOf hs]
  unfold slSlF at h
  split at h
  · -- nil
    simp only [VRels, VRel, List.cons.injEq] at hv
    obtain ⟨v1, r1, ⟨rfl, rfl⟩, rfl, hv⟩ := hv
    cases mx with
    | some _ => cases h
    | none =>
      simp only [Option.toList_none, List.append_nil] at hv
      simp only [Option.isSome_none] at h
      obtain ⟨a, b, h, h1, h2, _, h3⟩ := bndK_ok (P := P) (w := w) rfl rfl hv h
      refine .pure h (cv := .slice none 0 0) ?_ (by simp [VRel])
      have := hat none 0 0 a b 0 rfl (h3 true 0 h2)
      have ha : a = 0 := by omega
      have hb : b = 0 := by omega
      subst ha hb
      simpa using this
  · -- all known
    rename_i b o n c0 vs0
    simp only [VRels, VRel, SlRel, List.cons.injEq] at hv
    obtain ⟨v1, r1, ⟨rfl, rfl⟩, ⟨l, hl, rfl⟩, hv⟩ := hv
    cases mx with
    | none =>
      simp only [Option.toList_none, List.append_nil] at hv
      simp only [Option.isSome_none] at h
      obtain ⟨a, z, h, h1, h2, _, h3⟩ := bndK_ok (P := P) (w := w) rfl rfl hv h
      obtain ⟨v, hk, hr⟩ := pieceEx_ok (μ := μ) hu hs hl h (n := n)
      refine .pure hk (hat _ _ _ a z c0 rfl (h3 true c0 h2)) ?_
      split
      · rename_i e; rw [if_pos e] at hr; exact hr
      · rename_i e; rw [if_neg e] at hr; exact hr
    | some m =>
      simp only [Option.isSome_some] at h
      exact slMx_ok hu hs hl (Nat.le_refl _) (by simpa using hv) h
  · -- open
    rename_i b o n g vs0
    simp only [VRels, VRel, SlRel, List.cons.injEq] at hv
    obtain ⟨v1, r1, ⟨rfl, rfl⟩, ⟨l, hl, rfl, hcap⟩, hv⟩ := hv
    cases mx with
    | some m =>
      simp only [Option.isSome_some] at h
      exact slMx_ok hu hs hl (by omega) (by simpa using hv) h
    | none =>
      simp only [Option.toList_none, List.append_nil] at hv
      simp only [Option.isSome_none] at h
      obtain ⟨a, z, h, h1, h2, _, h3⟩ := bndK_ok (P := P) (w := w) rfl rfl hv h
      have hrun := hat _ _ _ a z (l.cap - g) rfl (h3 true (l.cap - g) (by omega))
      unfold pieceOp at h
      split at h
      · rename_i hb; rw [Nat.ble_eq] at hb
        simp only [natK_eq] at h
        refine .pure h hrun ?_
        rw [if_neg (by omega)]
        simp only [VRel, SlRel, Option.map_some, loc_add]
        exact ⟨l, hl, by rw [show l.cap - g - a = l.cap - (g + a) by omega], by omega⟩
      · rename_i hb
        have hb' : ¬ a + 1 ≤ n := fun e => by rw [← Nat.ble_eq] at e; rw [e] at hb; cases hb
        have ez : z = a := by omega
        subst ez
        split at h
        · refine .pure h hrun ?_
          simp only [VRel, SlRel]
          refine ⟨l, hl, ?_, by omega⟩
          simp [Addr.add]
        · refine .pure h hrun ?_
          simp only [VRel, SlRel]
          refine ⟨l, hl, trivial, ?_⟩
          split
          · exact ⟨_, _, by rw [Nat.sub_self]⟩
          · exact ⟨_, _, by rw [Nat.sub_self]; rfl⟩
  · -- the end
    rename_i b o n vs0
    simp only [VRels, VRel, SlRel, List.cons.injEq] at hv
    obtain ⟨v1, r1, ⟨rfl, rfl⟩, ⟨l, hl, rfl, a0, c0, rfl⟩, hv⟩ := hv
    cases mx with
    | some _ => cases h
    | none =>
      simp only [Option.toList_none, List.append_nil] at hv
      simp only [Option.isSome_none] at h
      obtain ⟨a, z, h, h1, h2, _, h3⟩ := bndK_ok (P := P) (w := w) rfl rfl hv h
      have ha : a = 0 := by omega
      have hz : z = 0 := by omega
      subst ha hz
      have hrun := hat _ _ _ 0 0 c0 rfl (h3 true c0 (by omega))
      refine .pure h hrun ?_
      simp only [VRel, SlRel]
      refine ⟨l, hl, trivial, a0, c0, ?_⟩
      split <;> simp [Addr.add]
  · cases h
theorem slArrF_ok {t e : TypeId} {n size : Nat} (hu : P.underlying t = some (.array n e)) (hs : sizeP P e = some size) {c : Value} {low high : Option Value} (hv : VRels μ vs (c :: (low.toList ++ high.toList)))
    (h : slArrF n size low.isSome high.isSome vs hp x k = some r) : NGood P μ w x (Instr.sliceAt t c low high none) k r := by
  unfold slArrF at h
  split at h
  · simp only [VRels, VRel, List.cons.injEq] at hv
    obtain ⟨v1, r1, ⟨rfl, rfl⟩, ⟨l, hl, rfl⟩, hv⟩ := hv
    obtain ⟨a, z, h, h1, h2, _, h3⟩ := bndK_ok (P := P) (w := w) rfl rfl hv h
    unfold pieceEx at h
    have hrun : ∀ o, (Instr.sliceAt t (.pointer (some ⟨l.blk, o, none⟩)) low high none).run P w = .ok (.slice (some (if n = a then (⟨l.blk, o, none⟩ : Addr) else (⟨l.blk, o, none⟩ : Addr).add (a * size))) (z - a) (n - a)) w := by
      intro o
      simp [Instr.sliceAt, Instr.sureAddr, run_underlying hu, run_sizeOf hs, h3 false n h2]
    split at h
    · rename_i hb; rw [Nat.beq_eq] at hb
      simp only [natK_eq] at h
      refine .pure h (hrun _) ?_
      rw [if_pos hb]; simp only [VRel, SlRel]; exact ⟨l, hl, rfl⟩
    · rename_i hb
      have hb' : n ≠ a := fun e => by rw [← Nat.beq_eq] at e; rw [e] at hb; cases hb
      simp only [natK_eq] at h
      refine .pure h (hrun _) ?_
      rw [if_neg hb']; simp only [VRel, SlRel]; exact ⟨l, hl, by rw [loc_add]⟩
  · cases h
theorem u8s_ok : ∀ (l : List UInt8) (k' : List AV → Option β), u8s (l.map UInt8.toNat) k' = some r → ∃ m, k' m = some r ∧ m.length = l.length ∧ ∀ μ : Inj, VRels μ m (l.map fun b => Value.int .u8 b.toNat)
  | [], k', h => ⟨[], h, rfl, fun μ => by simp [VRels]⟩
  | a :: l, k', h => by
    simp only [List.map_cons, u8s] at h
    obtain ⟨m, h1, h2, h3⟩ := u8s_ok l _ h
    exact ⟨_, h1, by simp [h2], fun μ => by simp only [List.map_cons, VRels, VRel]; exact ⟨_, _, rfl, rfl, h3 μ⟩⟩
theorem bytesWorld_push (w : World) (e : TypeId) (s0 : ByteArray) : (Lib.bytesWorld w e s0).heap = w.heap.push (.cells (Lib.bytesCells w e s0) e ((Lib.bytesCells w e s0).size, (Lib.bytesCells w e s0).size + 1)) := by
  apply Array.ext_getElem?
  intro i
  rcases Nat.lt_trichotomy i w.heap.size with h | h | h
  · rw [Lib.bytesWorld_at_old w e s0 i h, Array.getElem?_push, if_neg (by omega)]
  · subst h; rw [Lib.bytesWorld_at_new]; simp
  · rw [Array.getElem?_eq_none (by rw [Lib.bytesWorld_size]; omega), Array.getElem?_eq_none (by simp; omega)]
theorem s2bF_ok (hx : ∀ v o, k v (some o) = some r → μ x = none) {src dst e : TypeId} (h1 : P.underlying src = some .string) (h2 : P.underlying dst = some (.slice e)) (h3 : P.underlying e = some (.int .u8)) {c : Value} (hv : VRels μ vs [c]) (h : s2bF vs hp x k = some r) :
    NGood P μ w x (convert src dst c) k r := by
  unfold s2bF at h
  split at h
  · simp only [VRels, VRel, List.cons.injEq] at hv
    obtain ⟨v1, r1, ⟨rfl, rfl⟩, ⟨s0, rfl, rfl⟩, _⟩ := hv
    obtain ⟨m, h, hm, hrel⟩ := u8s_ok _ _ h
    rw [natK_eq] at h
    have hsz : (s0.data.toList.map UInt8.toNat).length = s0.size := by simp
    rw [hsz] at h
    refine .new (grownCap w s0.size 0 e) h (Lib.run_convert_string_bytes w src dst e s0 h1 h2 h3) (ho := .cells (Lib.bytesCells w e s0) e ((Lib.bytesCells w e s0).size, (Lib.bytesCells w e s0).size + 1)) ?_ rfl rfl rfl rfl ?_ ?_
    · exact bytesWorld_push w e s0
    · simp only [VRel, SlRel]; exact ⟨_, upd_self _ _ _, rfl, by simpa using grownCap_ge w s0.size 0 e⟩
    · refine ⟨_, e, _, Lib.bytesWorld_at_new w e s0, ?_, ?_, ?_⟩
      · intro i hi hh; omega
      · have := grownCap_ge w s0.size 0 e
        have e1 : s0.data.size = s0.size := rfl
        simp only [Lib.bytesCells, Array.size_append, Array.size_map, Array.size_replicate, e1, Nat.zero_add, Nat.mul_one]; omega
      · have e1 : s0.data.size = s0.size := rfl
        have : ((Lib.bytesCells w e s0).toList.drop 0).take m.length = s0.data.toList.map fun b => Value.int .u8 b.toNat := by
          simp only [Lib.bytesCells, List.drop_zero, Array.toList_append, Array.toList_map]
          rw [List.take_append_of_le_length (by simp [hm]), List.take_of_length_le (by simp [hm])]
        rw [this]; exact hrel _
  · cases h
theorem bytesK_ok {μ : Inj} : ∀ {l : List AV} {vals : List Value} {k' : List Nat → Option β}, VRels μ l vals → bytesK l k' = some r →
    ∃ is : List Int, k' (is.map fun i => (UInt8.ofNat i.toNat).toNat) = some r ∧ vals = is.map (Value.int .u8)
  | [], vals, k', hv, h => by simp only [VRels] at hv; subst hv; exact ⟨[], h, rfl⟩
  | a :: l, vals, k', hv, h => by
    unfold bytesK at h
    split at h
    · rename_i e; cases e
    · rename_i n l' e
      injection e with e1 e2; subst e1 e2
      simp only [VRels, VRel] at hv
      obtain ⟨v, r0, rfl, rfl, hv⟩ := hv
      split at h
      · rename_i hb; rw [Nat.ble_eq] at hb
        obtain ⟨is, h1, rfl⟩ := bytesK_ok hv h
        refine ⟨(n : Int) :: is, ?_, by simp⟩
        have e : (UInt8.ofNat ((n : Int).toNat)).toNat = n := by simp; omega
        simp only [List.map_cons, e]; exact h1
      · cases h
    · rename_i n g l' e
      injection e with e1 e2; subst e1 e2
      simp only [VRels, VRel] at hv
      obtain ⟨v, r0, rfl, rfl, hv⟩ := hv
      obtain ⟨is, h1, rfl⟩ := bytesK_ok hv h
      exact ⟨n :: is, h1, by simp⟩
    · cases h
theorem foldl_push : ∀ (l : List Int) (s : ByteArray), (l.foldl (fun r n => r.push (UInt8.ofNat n.toNat)) s).data.toList = s.data.toList ++ l.map fun n => UInt8.ofNat n.toNat
  | [], s => by simp
  | a :: l, s => by rw [List.foldl_cons, foldl_push]; simp [ByteArray.push]
theorem b2sF_ok (hr : HR μ hp.get w) {src dst e : TypeId} (h1 : P.underlying src = some (.slice e)) (h2 : P.underlying dst = some .string) (h3 : P.underlying e = some (.int .u8)) {c : Value} (hv : VRels μ vs [c]) (h : b2sF vs hp x k = some r) :
    NGood P μ w x (convert src dst c) k r := by
  unfold b2sF at h
  split at h
  · simp only [VRels, VRel, List.cons.injEq] at hv
    obtain ⟨v1, r1, ⟨rfl, rfl⟩, rfl, _⟩ := hv
    refine .pure h (cv := .string .empty) ?_ (by simp only [VRel]; exact ⟨_, rfl, rfl⟩)
    rw [run_convert_bytes_string w src dst e none 0 0 h1 h3 h2]; rfl
  · rename_i b o n cp
    simp only [VRels, VRel, List.cons.injEq] at hv
    obtain ⟨v1, r1, ⟨rfl, rfl⟩, ⟨l, hl, hsl⟩, _⟩ := hv
    obtain ⟨c0, hk, h⟩ := knownK_ok h
    obtain ⟨vals, hvals, hcell⟩ := (hr.ok b l hl).at hk
    obtain ⟨_, h⟩ := dropK_ok h
    obtain ⟨hn, h⟩ := takeK_ok h
    obtain ⟨is, h, hvs⟩ := bytesK_ok ((hvals.drop o).take n) h
    have hlen : is.length = n := by
      have e1 := congrArg List.length hvs
      have e2 := ((hvals.drop o).take n).length
      simp at e1 e2 hn; omega
    have hc : ∃ a cc, c = .slice (some a) n cc ∧ (0 < n → a = ⟨l.blk, l.base + o, none⟩) := by
      cases cp with
      | ex m => exact ⟨_, _, hsl, fun _ => rfl⟩
      | op g => exact ⟨_, _, hsl.1, fun _ => rfl⟩
      | em => obtain ⟨h0, a, cc, he⟩ := hsl; subst h0; exact ⟨a, cc, he, fun h => by omega⟩
    obtain ⟨a, cc, rfl, ha⟩ := hc
    have hload : (loadCells a n).run P w = .ok (is.map (Value.int .u8)).toArray w := by
      rcases Nat.eq_zero_or_pos n with h0 | h0
      · subst h0
        have : is = [] := List.eq_nil_of_length_eq_zero hlen
        subst this; simp [loadCells, loadCellsFrom]
      · rw [ha h0]
        have := run_loadCells_list (P := P) (w := w) ⟨l.blk, l.base + o, none⟩ ((vals.drop o).take n) (by
          intro j y hy
          rw [loc_add]
          rw [List.getElem?_take] at hy
          split at hy
          · rw [List.getElem?_drop] at hy; exact (hcell _ y hy).1
          · cases hy)
        rw [hvs] at this
        simpa [hlen] using this
    refine .pure h (cv := .string (is.foldl (fun r n => r.push (UInt8.ofNat n.toNat)) ByteArray.empty)) ?_ ?_
    · rw [run_convert_bytes_string w src dst e _ _ _ h1 h3 h2]
      exact run_bytesToString w a n cc _ hload
    · simp only [VRel]
      refine ⟨_, rfl, ?_⟩
      rw [foldl_push]
      have e0 : (ByteArray.empty).data.toList = [] := rfl
      rw [e0, List.nil_append, List.map_map]
      rfl
  · cases h
theorem mkSliceF_ok (hx : ∀ v o, k v (some o) = some r → μ x = none) {t e : TypeId} {i : TypeInfo} {z : List AV} (hu : P.underlying t = some (.slice e)) (hi : P.info? e = some i) (hz : zeroP P e = some z) (hzl : z.length = i.size) (h0 : i.size ≠ 0) {c d : Value}
    (hv : VRels μ vs [c, d]) (h : mkSliceF i.size z i.bytes vs hp x k = some r) : NGood P μ w x (Instr.makeSlice t c d) k r := by
  obtain ⟨i', zv, hi', hiz, hrel, _⟩ := zeroP_ok hz
  rw [hi] at hi'; injection hi' with hi'; subst hi'
  unfold mkSliceF at h
  split at h
  · rename_i n m
    simp only [VRels, VRel, List.cons.injEq] at hv
    obtain ⟨v1, r1, ⟨rfl, rfl⟩, rfl, v2, r2, ⟨rfl, _⟩, rfl, _⟩ := hv
    split at h
    · rename_i hb
      simp only [Bool.and_eq_true, Nat.ble_eq] at hb
      rw [repK_eq] at h
      have hzs : zv.cells.size = i.size := by have := (hrel μ).length; simp at this; omega
      have hbytes : ((i.bytes : Int) * Int.ofNat m ≤ 281474976710656) := by
        have : i.bytes * m ≤ 1000000000 := hb.1.2
        rw [Int.ofNat_eq_natCast, ← Int.natCast_mul]; omega
      refine .cells hx h (cv := .slice (some ⟨w.heap.size, 0, none⟩) n m) (arr := madeCells zv.cells (m * i.size)) (t := e) (w1 := w.alloc (.cells (madeCells zv.cells (m * i.size)) e)) ?_ rfl ?_ ?_
      · have := run_make (P := P) w t e i zv hu hi hiz .i64 .i64 (Int.ofNat n) (Int.ofNat m) (by simp) (by simp; omega) hbytes (by simp; omega)
        simpa using this
      · simp only [VRel, SlRel]; exact ⟨_, upd_self _ _ _, rfl⟩
      · have : (madeCells zv.cells (m * i.size)).toList = (List.replicate m zv.cells.toList).flatten := by
          rw [← hzs]; exact cyc_eq _ (by omega) m
        rw [this]; exact (hrel μ).flat m
    · cases h
  · cases h
theorem ERels.length {μ : Inj} : ∀ {l : List (AV × AV × Nat)} {es : List MapEntry}, ERels μ l es → l.length = es.length
  | [], _, h => by simp only [ERels] at h; subst h; rfl
  | (k, v, n) :: l, _, h => by simp only [ERels] at h; obtain ⟨e, r0, rfl, _, _, _, h⟩ := h; simp [ERels.length h]
theorem lenStrF_ok {t ty : TypeId} {ts : Array TypeId} (ht : ts[0]? = some t) (hu : P.underlying t = some .string) {c : Value} (hv : VRels μ vs [c]) (h : lenStrF vs hp x k = some r) : NGood P μ w x (Builtin.len_ ts ty #[c]) k r := by
  unfold lenStrF at h
  split at h
  · simp only [VRels, VRel, List.cons.injEq] at hv
    obtain ⟨v1, r1, ⟨rfl, rfl⟩, ⟨s0, rfl, rfl⟩, _⟩ := hv
    rw [natK_eq] at h
    refine .int h ?_
    have : (s0.data.toList.map UInt8.toNat).length = s0.size := by simp
    rw [this]; simp [Builtin.len_, ht, run_underlying hu, goInt]
  · cases h
theorem slice_len {l : Loc} {o n : Nat} {cp : Cap} {c : Value} (h : SlRel l o n cp c) : ∃ a cc, c = .slice (some a) n cc ∧ (0 < n → a = ⟨l.blk, l.base + o, none⟩) := by
  cases cp with
  | ex m => exact ⟨_, _, h, fun _ => rfl⟩
  | op g => exact ⟨_, _, h.1, fun _ => rfl⟩
  | em => obtain ⟨h0, a, cc, he⟩ := h; subst h0; exact ⟨a, cc, he, fun h => by omega⟩
theorem lenSlF_ok {t ty e : TypeId} {ts : Array TypeId} (ht : ts[0]? = some t) (hu : P.underlying t = some (.slice e)) {c : Value} (hv : VRels μ vs [c]) (h : lenSlF vs hp x k = some r) : NGood P μ w x (Builtin.len_ ts ty #[c]) k r := by
  unfold lenSlF at h
  split at h
  · simp only [VRels, VRel, List.cons.injEq] at hv
    obtain ⟨v1, r1, ⟨rfl, rfl⟩, rfl, _⟩ := hv
    exact .int h (by simp [Builtin.len_, ht, run_underlying hu, goInt])
  · simp only [VRels, VRel, List.cons.injEq] at hv
    obtain ⟨v1, r1, ⟨rfl, rfl⟩, ⟨l, hl, hsl⟩, _⟩ := hv
    obtain ⟨a, cc, rfl, _⟩ := slice_len hsl
    exact .int h (by simp [Builtin.len_, ht, run_underlying hu, goInt])
  · cases h
theorem lenMapF_ok (hr : HR μ hp.get w) {t ty a0 b0 : TypeId} {ts : Array TypeId} (ht : ts[0]? = some t) (hu : P.underlying t = some (.map a0 b0)) {c : Value} (hv : VRels μ vs [c]) (h : lenMapF vs hp x k = some r) : NGood P μ w x (Builtin.len_ ts ty #[c]) k r := by
  unfold lenMapF at h
  split at h
  · simp only [VRels, VRel, List.cons.injEq] at hv
    obtain ⟨v1, r1, ⟨rfl, rfl⟩, rfl, _⟩ := hv
    exact .int h (by simp [Builtin.len_, ht, run_underlying hu, goInt])
  · rename_i b
    simp only [VRels, VRel, List.cons.injEq] at hv
    obtain ⟨v1, r1, ⟨rfl, rfl⟩, ⟨l, hl, rfl⟩, _⟩ := hv
    split at h
    · rename_i es cl he
      rw [natK_eq] at h
      have := hr.ok b l hl
      rw [he] at this
      obtain ⟨ents, h1, h2⟩ := this
      refine .int h ?_
      rw [h2.length]
      simp [Builtin.len_, ht, run_underlying hu, goInt, getObj, Sem.run, h1]
    · cases h
  · cases h
theorem lenCF_ok {n : Nat} {s : Sem Value} (hs : s.run P w = .ok (goInt n) w) (h : lenCF n vs hp x k = some r) : NGood P μ w x s k r := by
  unfold lenCF at h
  split at h
  · exact .int h hs
  · cases h
theorem capF_ok {t ty e : TypeId} {ts : Array TypeId} (ht : ts[0]? = some t) (hu : P.underlying t = some (.slice e)) {c : Value} (hv : VRels μ vs [c]) (h : capF vs hp x k = some r) : NGood P μ w x (Builtin.cap_ ts ty #[c]) k r := by
  unfold capF at h
  split at h
  · simp only [VRels, VRel, List.cons.injEq] at hv
    obtain ⟨v1, r1, ⟨rfl, rfl⟩, rfl, _⟩ := hv
    exact .int h (by simp [Builtin.cap_, ht, run_underlying hu, goInt])
  · simp only [VRels, VRel, SlRel, List.cons.injEq] at hv
    obtain ⟨v1, r1, ⟨rfl, rfl⟩, ⟨l, hl, rfl⟩, _⟩ := hv
    exact .int h (by simp [Builtin.cap_, ht, run_underlying hu, goInt])
  · simp only [VRels, VRel, List.cons.injEq] at hv
    obtain ⟨v1, r1, ⟨rfl, rfl⟩, ⟨l, hl, hsl⟩, _⟩ := hv
    obtain ⟨a, cc, rfl, _⟩ := slice_len hsl
    exact .pure h (cv := goInt cc) (by simp [Builtin.cap_, ht, run_underlying hu]) (by simp [VRel])
  · cases h
theorem minF_ok {ts : Array TypeId} {ty : TypeId} {c d : Value} (hv : VRels μ vs [c, d]) (h : minF vs hp x k = some r) : NGood P μ w x (Builtin.min_ ts ty #[c, d]) k r := by
  unfold minF at h
  split at h
  · simp only [VRels, VRel, List.cons.injEq] at hv
    obtain ⟨v1, r1, ⟨rfl, rfl⟩, rfl, v2, r2, ⟨rfl, _⟩, rfl, _⟩ := hv
    rw [intLt_eq] at h
    split at h
    · rename_i hb; exact .int h (by rw [run_min_int2, if_pos (by simpa using hb)])
    · rename_i hb; exact .int h (by rw [run_min_int2, if_neg (by simpa using hb)])
  · cases h
theorem maxF_ok {ts : Array TypeId} {ty : TypeId} {c d : Value} (hv : VRels μ vs [c, d]) (h : maxF vs hp x k = some r) : NGood P μ w x (Builtin.max_ ts ty #[c, d]) k r := by
  unfold maxF at h
  split at h
  · simp only [VRels, VRel, List.cons.injEq] at hv
    obtain ⟨v1, r1, ⟨rfl, rfl⟩, rfl, v2, r2, ⟨rfl, _⟩, rfl, _⟩ := hv
    rw [intLt_eq] at h
    split at h
    · rename_i hb; exact .int h (by rw [run_max_int2, if_pos (by simpa using hb)])
    · rename_i hb; exact .int h (by rw [run_max_int2, if_neg (by simpa using hb)])
  · cases h
end
end Go.Proofs.Ytkejnhmhbmbhcaa.Eng
namespace Go.Proofs.Ytkejnhmhbmbhcaa.Eng
open Go
section
variable {β : Type} {P : Program} {μ : Inj} {w : World} {x : Bid} {s : Sem Value} {k : AV → Option AObj → Option β} {r : β} {hp : Hp} {vs : List AV}
def ETok (P : Program) (t : TypeId) : ET → Prop
  | .no => True
  | .bool => P.underlying t = some .bool
  | .int _ => ∃ k, P.underlying t = some (.int k)
  | .str => P.underlying t = some .string
  | .ptr => ∃ e n, P.underlying t = some (.pointer e) ∧ sizeP P e = some (n + 1)
  | .iface => ∃ ms, P.underlying t = some (.interface ms)
  | .nsl => ∃ e, P.underlying t = some (.slice e)
  | .nmp => ∃ a b, P.underlying t = some (.map a b)
  | .nfn => ∃ a b c, P.underlying t = some (.func a b c)
  | .struct fs => ∃ fields : Array Field, P.underlying t = some (.struct fields) ∧ P.stoodInHeld t = false ∧ etFields P fields.toList = some fs
theorem etScalar_ok (t : TypeId) : ETok P t (etScalar P t) := by
  unfold etScalar
  split
  · assumption
  · exact ⟨_, by assumption⟩
  · assumption
  · rename_i e he
    split
    · rename_i n hn; exact ⟨e, n, he, hn⟩
    · trivial
  · trivial
theorem etOf_ok (t : TypeId) : ETok P t (etOf P t) := by
  unfold etOf
  split
  · exact ⟨_, by assumption⟩
  · exact ⟨_, by assumption⟩
  · exact ⟨_, _, by assumption⟩
  · exact ⟨_, _, _, by assumption⟩
  · split
    · exact ⟨_, by assumption, by assumption, by assumption⟩
    · trivial
  · exact etScalar_ok t
theorem HR.cells_frozen (hr : HR μ hp.get w) {b : Bid} {l : Loc} (hl : μ b = some l) {c : List AV} (hc : hp.get b = .cells c) (o : Nat) : ∃ n, w.shape? l.blk = some (n, c.length) ∧ w.frozen? ⟨l.blk, o, none⟩ = false := by
  have := hr.ok b l hl
  rw [hc] at this
  obtain ⟨h1, arr, t, h2, h3⟩ := this
  refine ⟨t, by simp [World.shape?, h2, h3.length], by simp [World.frozen?, h2]⟩
theorem run_sameAddr_cells {a b : Addr} {ta tb : TypeId} {na nb : Nat} (ha : w.shape? a.block = some (ta, na)) (hb : w.shape? b.block = some (tb, nb)) (fa : ∀ o, w.frozen? ⟨a.block, o, none⟩ = false) (fb : ∀ o, w.frozen? ⟨b.block, o, none⟩ = false)
    (ea : a.spot = none) (eb : b.spot = none) : (sameAddr a b).run P w = .ok (a == b) w := by
  have fa' : w.frozen? a = false := by cases a; subst ea; exact fa _
  have fb' : w.frozen? b = false := by cases b; subst eb; exact fb _
  unfold sameAddr
  by_cases h : a.block = b.block
  · simp [h]
  · have hne : (a == b) = false := by rw [beq_eq_false_iff_ne]; intro e; exact h (by rw [e])
    have h' : (a.block == b.block) = false := by simpa using h
    have sa : (stringish a).run P w = .ok false w := by simp [stringish, fa', ha, fa]
    have sb : (stringish b).run P w = .ok false w := by simp [stringish, fb', hb, fb]
    simp [h', fa', fb', hne, noView, viewAt, ha, hb, mayBeOne, sa, sb]
theorem eqA_ok (hr : HR μ hp.get w) {t : TypeId} {e : ET} (he : ETok P t e) {a b : AV} {c d : Value} (hc : VRel μ a c) (hd : VRel μ b d) {q : Bool} (h : eqA hp e a b = some q) (n : Nat) :
    (Op.equalIn (n + 1) t c d).run P w = .ok q w := by
  unfold eqA at h
  split at h
  · simp only [VRel] at hc hd; subst hc hd
    injection h with h; subst h
    exact run_equalIn_bool w n t _ _ he
  · simp only [VRel] at hc hd; subst hc hd
    obtain ⟨k0, hk⟩ := he
    split at h
    · rename_i hk2; rw [kindEq_iff] at hk2; subst hk2
      injection h with h; subst h
      rw [intEq_eq]
      simp [Op.equalIn, run_underlying hk]
    · cases h
  · simp only [VRel] at hc hd
    obtain ⟨t1, rfl, rfl⟩ := hc
    obtain ⟨t2, rfl, rfl⟩ := hd
    injection h with h; subst h
    rw [strEq_bytes]
    exact run_equalIn_string w n t t1 t2 he
  · simp only [VRel] at hc hd; subst hc hd
    obtain ⟨e0, m, hu, _⟩ := he
    injection h with h; subst h
    simp [Op.equalIn, run_underlying hu]
  · simp only [VRel] at hc hd; subst hc
    obtain ⟨l, _, rfl⟩ := hd
    obtain ⟨e0, m, hu, _⟩ := he
    injection h with h; subst h
    simp [Op.equalIn, run_underlying hu]
  · simp only [VRel] at hc hd; subst hd
    obtain ⟨l, _, rfl⟩ := hc
    obtain ⟨e0, m, hu, _⟩ := he
    injection h with h; subst h
    simp [Op.equalIn, run_underlying hu]
  · rename_i b1 i b2 j
    simp only [VRel] at hc hd
    obtain ⟨l1, hl1, rfl⟩ := hc
    obtain ⟨l2, hl2, rfl⟩ := hd
    obtain ⟨e0, m, hu, hsz⟩ := he
    split at h
    · rename_i c1 c2 g1 g2
      have f1 := fun o => hr.cells_frozen hl1 g1 o
      have f2 := fun o => hr.cells_frozen hl2 g2 o
      obtain ⟨t1, s1, _⟩ := f1 0
      obtain ⟨t2, s2, _⟩ := f2 0
      have hs := run_sameAddr_cells (P := P) (a := ⟨l1.blk, l1.base + i, none⟩) (b := ⟨l2.blk, l2.base + j, none⟩) s1 s2 (fun o => (f1 o).choose_spec.2) (fun o => (f2 o).choose_spec.2) rfl rfl
      have hrun : (Op.equalIn (n + 1) t (.pointer (some ⟨l1.blk, l1.base + i, none⟩)) (.pointer (some ⟨l2.blk, l2.base + j, none⟩))).run P w = .ok ((⟨l1.blk, l1.base + i, none⟩ : Addr) == ⟨l2.blk, l2.base + j, none⟩) w := by
        simp [Op.equalIn, run_underlying hu, run_sizeOf hsz, hs]
      rw [hrun]
      congr 1
      split at h
      · rename_i hb; rw [Bid.beq_iff] at hb; subst hb
        rw [hl1] at hl2; injection hl2 with hl2; subst hl2
        injection h with h; subst h
        rw [Bool.eq_iff_iff]; simp [Nat.beq_eq]
      · rename_i hb
        have hne : b1 ≠ b2 := fun e => by rw [← Bid.beq_iff] at e; rw [e] at hb; cases hb
        injection h with h; subst h
        rw [beq_eq_false_iff_ne]
        intro he
        injection he with h1 h2 h3
        exact hne (hr.inj b1 b2 l1 l2 hl1 hl2 (by rw [g1]; rfl) (by rw [g2]; rfl) h1)
    · cases h
  · simp only [VRel] at hc hd; subst hc hd
    obtain ⟨ms, hu⟩ := he
    injection h with h; subst h
    simp [Op.equalIn, run_underlying hu]
  · simp only [VRel] at hc hd; subst hc
    obtain ⟨x1, rfl, _⟩ := hd
    obtain ⟨ms, hu⟩ := he
    injection h with h; subst h
    simp [Op.equalIn, run_underlying hu]
  · simp only [VRel] at hc hd; subst hd
    obtain ⟨x1, rfl, _⟩ := hc
    obtain ⟨ms, hu⟩ := he
    injection h with h; subst h
    simp [Op.equalIn, run_underlying hu]
  · simp only [VRel] at hc hd; subst hc hd
    obtain ⟨e0, hu⟩ := he
    injection h with h; subst h
    simp [Op.equalIn, run_underlying hu]
  · simp only [VRel] at hc hd; subst hc
    obtain ⟨l, _, hs⟩ := hd
    obtain ⟨a0, cc, rfl, _⟩ := slice_len hs
    obtain ⟨e0, hu⟩ := he
    injection h with h; subst h
    simp [Op.equalIn, run_underlying hu]
  · simp only [VRel] at hc hd; subst hd
    obtain ⟨l, _, hs⟩ := hc
    obtain ⟨a0, cc, rfl, _⟩ := slice_len hs
    obtain ⟨e0, hu⟩ := he
    injection h with h; subst h
    simp [Op.equalIn, run_underlying hu]
  · simp only [VRel] at hc hd; subst hc hd
    obtain ⟨a0, e0, hu⟩ := he
    injection h with h; subst h
    simp [Op.equalIn, run_underlying hu]
  · simp only [VRel] at hc hd; subst hc
    obtain ⟨l, _, rfl⟩ := hd
    obtain ⟨a0, e0, hu⟩ := he
    injection h with h; subst h
    simp [Op.equalIn, run_underlying hu]
  · simp only [VRel] at hc hd; subst hd
    obtain ⟨l, _, rfl⟩ := hc
    obtain ⟨a0, e0, hu⟩ := he
    injection h with h; subst h
    simp [Op.equalIn, run_underlying hu]
  · simp only [VRel] at hc hd; subst hc hd
    obtain ⟨a0, b0, c0, hu⟩ := he
    injection h with h; subst h
    simp [Op.equalIn, run_underlying hu]
  · simp only [VRel] at hc hd; subst hc
    obtain ⟨_, _, rfl, _⟩ := hd
    obtain ⟨a0, b0, c0, hu⟩ := he
    injection h with h; subst h
    simp [Op.equalIn, run_underlying hu]
  · simp only [VRel] at hc hd; subst hd
    obtain ⟨_, _, rfl, _⟩ := hc
    obtain ⟨a0, b0, c0, hu⟩ := he
    injection h with h; subst h
    simp [Op.equalIn, run_underlying hu]
  · cases h
theorem eqFields_ok (hr : HR μ hp.get w) (n : Nat) {xs ys : Array Value} {a b : List AV} (hx : VRels μ a xs.toList) (hy : VRels μ b ys.toList) :
    ∀ (fields : List Field) (fs : List (Nat × ET)), etFields P fields = some fs → ∀ q, eqFields hp fs a b = some q → (Op.eqFields (n + 1) xs ys fields).run P w = .ok q w
  | [], fs, hf, q, h => by
    simp only [etFields, Option.some.injEq] at hf; subst hf
    simp only [eqFields, Option.some.injEq] at h; subst h
    simp [Op.eqFields]
  | f :: fields, fs, hf, q, h => by
    simp only [etFields] at hf
    split at hf
    · cases hf
    · rename_i l hname hagg hrest hne
      injection hf with hf; subst hf
      simp only [eqFields] at h
      split at h
      · rename_i va vb ha hb
        obtain ⟨ca, hca, hra⟩ := hx.get ha
        obtain ⟨cb, hcb, hrb⟩ := hy.get hb
        rw [Array.getElem?_toList] at hca hcb
        have hpa : (part f.type xs f.offset).run P w = .ok ca w := by simp [part, run_isAgg hagg, hca]
        have hpb : (part f.type ys f.offset).run P w = .ok cb w := by simp [part, run_isAgg hagg, hcb]
        have hname' : f.name ≠ "_" := by simpa using hname
        have hE := etScalar_ok (P := P) f.type
        split at h
        · rename_i hq
          have := eqA_ok hr hE hra hrb hq n
          simp only [Op.eqFields]
          rw [if_pos hname']
          simp only [Sem.run_bind, hpa, hpb, Result.andThen_ok, this, Bool.not_true, Bool.false_eq_true, if_false]
          exact eqFields_ok hr n hx hy fields l hrest q h
        · rename_i hq
          injection h with h; subst h
          have := eqA_ok hr hE hra hrb hq n
          simp only [Op.eqFields]
          rw [if_pos hname']
          simp [hpa, hpb, this]
        · cases h
      · cases h
    · cases hf
theorem eqV_ok (hr : HR μ hp.get w) {t : TypeId} {e : ET} (he : ETok P t e) {a b : AV} {c d : Value} (hc : VRel μ a c) (hd : VRel μ b d) {q : Bool} (h : eqV hp e a b = some q) (n : Nat) :
    (Op.equalIn (n + 2) t c d).run P w = .ok q w := by
  unfold eqV at h
  split at h
  · simp only [VRel] at hc hd
    obtain ⟨cs, rfl, hc⟩ := hc
    obtain ⟨ds, rfl, hd⟩ := hd
    obtain ⟨fields, hu, hst, hf⟩ := he
    have hfo : P.fieldsOf t = fields := by simp [Program.fieldsOf, hu]
    have hu' : P.underlying t = some (.struct (P.fieldsOf t)) := by rw [hfo]; exact hu
    rw [run_equalIn_struct w (n + 1) t cs ds hu' hst, hfo]
    exact eqFields_ok hr n hc hd _ _ hf q h
  · exact eqA_ok hr he hc hd h (n + 1)
def plainV : Value → Bool
  | .int _ _ => false
  | .float _ _ => false
  | .complex _ _ _ => false
  | .string _ => false
  | _ => true
theorem binOp_eql {t : TypeId} {c d : Value} (h : plainV c = true) : binOp .eql t c d = (do pure (.bool (← Op.equal t c d))) := by
  cases c <;> first | (cases h; done) | (cases d <;> rfl)
theorem binOp_neq {t : TypeId} {c d : Value} (h : plainV c = true) : binOp .neq t c d = (do pure (.bool (!(← Op.equal t c d)))) := by
  cases c <;> first | (cases h; done) | (cases d <;> rfl)
theorem eqV_shape {e : ET} {a b : AV} {c d : Value} (hc : VRel μ a c) (hd : VRel μ b d) {q : Bool} (h : eqV hp e a b = some q) (hi : ∀ k, e ≠ .int k) (hs : e ≠ .str) :
    plainV c = true ∧ (c = .nilIface → d = .nilIface → e = .iface) ∧ ((∃ cs ds, c = .agg cs ∧ d = .agg ds) → ∃ fs, e = .struct fs) := by
  unfold eqV at h
  split at h
  · simp only [VRel] at hc hd
    obtain ⟨cs, rfl, hc⟩ := hc
    obtain ⟨ds, rfl, hd⟩ := hd
    exact ⟨rfl, by simp, fun _ => ⟨_, rfl⟩⟩
  · unfold eqA at h
    split at h <;> first | (cases h; done) | (exact absurd rfl (hi _)) | (exact absurd rfl hs) | skip
    all_goals simp only [VRel] at hc hd
    · subst hc hd; exact ⟨rfl, by simp, by simp⟩
    · subst hc hd; exact ⟨rfl, by simp, by simp⟩
    · subst hc; exact ⟨rfl, by simp, by simp⟩
    · obtain ⟨_, _, rfl⟩ := hc; exact ⟨rfl, by simp, by simp⟩
    · obtain ⟨_, _, rfl⟩ := hc; exact ⟨rfl, by simp, by simp⟩
    · subst hc; exact ⟨rfl, by simp, by simp⟩
    · subst hc; exact ⟨rfl, by simp, by simp⟩
    · obtain ⟨_, rfl, _⟩ := hc; exact ⟨rfl, by simp, by simp⟩
    · subst hc; exact ⟨rfl, by simp, by simp⟩
    · subst hc; exact ⟨rfl, by simp, by simp⟩
    · obtain ⟨_, _, hs⟩ := hc; obtain ⟨_, _, rfl, _⟩ := slice_len hs; exact ⟨rfl, by simp, by simp⟩
    · subst hc; exact ⟨rfl, by simp, by simp⟩
    · subst hc; exact ⟨rfl, by simp, by simp⟩
    · obtain ⟨_, _, rfl⟩ := hc; exact ⟨rfl, by simp, by simp⟩
    · subst hc; exact ⟨rfl, by simp, by simp⟩
    · subst hc; exact ⟨rfl, by simp, by simp⟩
    · obtain ⟨_, _, rfl, _⟩ := hc; exact ⟨rfl, by simp, by simp⟩
theorem run_eqGuard_iface {op : BinOp} {t : TypeId} {x y : Operand} (h : (isConst x || isConst y) = true) : (eqGuard op t x y .nilIface .nilIface).run P w = .ok () w := by
  unfold eqGuard
  cases op <;> (try rfl)
  all_goals
    cases x <;> cases y <;> first | (simp [isConst] at h; done) | rfl
theorem etOf_notnum {t : TypeId} (hni : isInt (P.underlying t) = false) (hns : isStr (P.underlying t) = false) : (∀ k, etOf P t ≠ .int k) ∧ etOf P t ≠ .str := by
  unfold etOf etScalar
  cases hu : P.underlying t with
  | none => simp
  | some d =>
    rw [hu] at hni hns
    cases d <;> simp [isInt, isStr] at hni hns ⊢
    all_goals (split <;> simp)
theorem eqF_ok (hr : HR μ hp.get w) {op : BinOp} {ng : Bool} (hop : (op = .eql ∧ ng = false) ∨ (op = .neq ∧ ng = true)) {t : TypeId} {x0 y0 : Operand} (hl : eqLet P t x0 y0 = true) (hni : isInt (P.underlying t) = false) (hns : isStr (P.underlying t) = false)
    {c d : Value} (hv : VRels μ vs [c, d]) (h : eqF ng (etOf P t) vs hp x k = some r) : NGood P μ w x (do eqGuard op t x0 y0 c d; binOp op t c d) k r := by
  have hE0 := etOf_ok (P := P) t
  have hsym : etOf P t = .bool → eqB ng vs hp x k = some r → NGood P μ w x (do eqGuard op t x0 y0 c d; binOp op t c d) k r := by
    intro he h
    rw [he] at hE0
    have hE0 : P.underlying t = some .bool := hE0
    unfold eqB at h
    split at h
    · simp only [VRels, List.cons.injEq] at hv
      obtain ⟨c1, r1, ⟨rfl, rfl⟩, hc, d1, r2, ⟨rfl, _⟩, hd, _⟩ := hv
      obtain ⟨a, g, rfl, h⟩ := truthOf_ok hc h
      obtain ⟨b, g', rfl, h⟩ := truthOf_ok hd h
      have heq : (Op.equal t (.bool a) (.bool b)).run P w = .ok (a == b) w := run_equalIn_bool w 9999 t a b hE0
      have hg : (eqGuard op t x0 y0 (.bool a) (.bool b)).run P w = .ok () w := run_eqGuard_plain (.inl (by simp)) (.inl (by simp))
      have hp1 : (∀ kd n, (Value.bool a) ≠ .int kd n) := by simp
      rcases hop with ⟨rfl, rfl⟩ | ⟨rfl, rfl⟩
      · exact .sbool (c := a == b) h (by cases a <;> cases b <;> rfl) (by simp [hg, binOp, heq])
      · exact .sbool (c := !(a == b)) h (by cases a <;> cases b <;> rfl) (by simp [hg, binOp, heq])
    · cases h
  have h : eqF0 ng (etOf P t) vs hp x k = some r ∨ NGood P μ w x (do eqGuard op t x0 y0 c d; binOp op t c d) k r := by
    generalize hee : etOf P t = ee at h hsym
    unfold eqF at h
    split at h
    · exact .inl h
    · exact .inr (hsym rfl h)
    · exact .inl h
  rcases h with h | h
  case inr => exact h
  unfold eqF0 at h
  split at h
  · rename_i a b
    simp only [VRels, List.cons.injEq] at hv
    obtain ⟨c1, r1, ⟨rfl, rfl⟩, hc, d1, r2, ⟨rfl, _⟩, hd, _⟩ := hv
    split at h
    · rename_i q hq
      rw [boolK_eq] at h
      have hE := etOf_ok (P := P) t
      have heq := eqV_ok hr hE hc hd hq 9998
      obtain ⟨hn1, hn2⟩ := etOf_notnum hni hns
      obtain ⟨hp1, hp2, hp3⟩ := eqV_shape hc hd hq hn1 hn2
      have hg : (eqGuard op t x0 y0 c d).run P w = .ok () w := by
        by_cases h1 : c = .nilIface ∧ d = .nilIface
        · obtain ⟨rfl, rfl⟩ := h1
          have := hp2 rfl rfl
          unfold eqLet at hl
          rw [this] at hl
          exact run_eqGuard_iface hl
        · by_cases h2 : ∃ cs ds, c = .agg cs ∧ d = .agg ds
          · obtain ⟨fs, hfs⟩ := hp3 h2
            obtain ⟨cs, ds, rfl, rfl⟩ := h2
            unfold eqLet at hl
            rw [hfs] at hl
            exact run_eqGuard_agg w op t x0 y0 cs ds (by simpa using hl)
          · refine run_eqGuard_plain ?_ ?_
            · by_cases e : c = .nilIface
              · exact .inr fun e' => h1 ⟨e, e'⟩
              · exact .inl e
            · by_cases e : ∃ cs, c = .agg cs
              · obtain ⟨cs, rfl⟩ := e
                exact .inr fun ds e' => h2 ⟨cs, ds, rfl, e'⟩
              · exact .inl fun cs e' => e ⟨cs, e'⟩
      have heq' : (Op.equal t c d).run P w = .ok q w := heq
      rcases hop with ⟨rfl, rfl⟩ | ⟨rfl, rfl⟩
      · exact .bool (c := q) h (by cases q <;> rfl) (by simp only [Sem.run_bind, hg, Result.andThen_ok, binOp_eql hp1, heq', Sem.run_pure])
      · exact .bool (c := !q) h (by cases q <;> rfl) (by simp only [Sem.run_bind, hg, Result.andThen_ok, binOp_neq hp1, heq', Sem.run_pure])
    · cases h
  · cases h
end
end Go.Proofs.Ytkejnhmhbmbhcaa.Eng
