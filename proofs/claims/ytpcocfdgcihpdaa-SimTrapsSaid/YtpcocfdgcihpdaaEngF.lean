/-
  THE ENGINE, PART F: operators, conversions, pieces, indexes.
-/
import Derived.Test.YtpcocfdgcihpdaaEngE
namespace Go.Proofs.Ytpcocfdgcihpdaa.Eng
open Go
set_option linter.unusedVariables false
set_option linter.unusedSimpArgs false

theorem map_toNat_inj {a b : List UInt8} (h : a.map UInt8.toNat = b.map UInt8.toNat) : a = b :=
  List.map_inj_right (fun _ _ h => UInt8.toNat_inj.1 h) |>.1 h
theorem strEq_bytes (a b : ByteArray) : strEq (a.data.toList.map UInt8.toNat) (b.data.toList.map UInt8.toNat) = (a.toList == b.toList) := by
  rw [strEq_eq, ByteArray.toList_eq, ByteArray.toList_eq, Bool.eq_iff_iff]
  simp only [beq_iff_eq]
  exact ⟨map_toNat_inj, fun h => by rw [h]⟩
theorem strLt_bytes : ∀ (a b : List UInt8), strLt (a.map UInt8.toNat) (b.map UInt8.toNat) = Op.bytesLess a b
  | [], [] => rfl
  | _ :: _, [] => rfl
  | [], _ :: _ => rfl
  | a :: l, b :: m => by
    simp only [List.map_cons, strLt, Op.bytesLess, strLt_bytes l m]
    rw [Bool.eq_iff_iff]
    simp only [Bool.or_eq_true, Bool.and_eq_true, Nat.ble_eq, Nat.beq_eq, decide_eq_true_eq, beq_iff_eq, UInt8.lt_iff_toNat_lt, Nat.succ_le_iff]
    exact ⟨fun h => h.imp id (fun h => ⟨UInt8.toNat_inj.1 h.1, h.2⟩), fun h => h.imp id (fun h => ⟨by rw [h.1], h.2⟩)⟩

section
variable {β : Type} {P : Program} {μ : Inj} {w : World} {x : Bid} {s : Sem Value} {k : AV → Option AObj → Option β} {r : β} {hp : Hp} {vs : List AV}

/-- a plain answer -/
def Ans (P : Program) (μ : Inj) (w : World) (s : Sem Value) (k' : AV → Option β) (r : β) : Prop :=
  ∃ v cv, k' v = some r ∧ s.run P w = .ok cv w ∧ VRel μ v cv

theorem Ans.good {k' : AV → Option β} (h : Ans P μ w s k' r) (hk : ∀ v, k' v = k v none) : NGood P μ w x s k r := by
  obtain ⟨v, cv, h1, h2, h3⟩ := h
  exact .pure (by rw [← hk]; exact h1) h2 h3

theorem Ans.int {kd : IntKind} {n : Int} {k' : AV → Option β} (h : k' (.int kd n) = some r) (hs : s.run P w = .ok (.int kd n) w) : Ans P μ w s k' r := ⟨_, _, h, hs, by simp only [VRel]⟩
theorem Ans.bool {b c : Bool} {k' : AV → Option β} (h : k' (.bool b) = some r) (hb : b = c) (hs : s.run P w = .ok (.bool c) w) : Ans P μ w s k' r := ⟨_, _, h, hs, by simp only [VRel, hb]⟩
theorem NGood.int {kd : IntKind} {n : Int} (h : k (.int kd n) none = some r) (hs : s.run P w = .ok (.int kd n) w) : NGood P μ w x s k r := .pure h hs (by simp only [VRel])
theorem NGood.bool {b c : Bool} (h : k (.bool b) none = some r) (hb : b = c) (hs : s.run P w = .ok (.bool c) w) : NGood P μ w x s k r := .pure h hs (by simp only [VRel, hb])
theorem intOp_ok {op : BinOp} {t : TypeId} {kd : IntKind} {a b : Int} {k' : AV → Option β} (h : intOp op kd a b k' = some r) :
    Ans P μ w (binOp op t (.int kd a) (.int kd b)) k' r := by
  cases op <;> simp only [intOp, iAdd, iSub, iMul, iQuo, iRem, iAnd, iOr, iXor, iAndNot, iEql, iNeq, iLss, iLeq, iGtr, iGeq, iNone, wrapK_eq, intK_eq, boolK_eq, reduceCtorEq] at h
  case quo =>
    split at h
    · cases h
    · rename_i hz; rw [intEq_eq] at hz
      exact .int h (by simp [binOp, Op.intDiv, beq_eq_false_iff_ne.1 hz])
  case rem =>
    split at h
    · cases h
    · rename_i hz; rw [intEq_eq] at hz
      exact .int h (by simp [binOp, Op.intDiv, beq_eq_false_iff_ne.1 hz])
  case eql => exact .bool h (intEq_eq _ _) (by simp [binOp, Op.intCmp])
  case neq => exact .bool h (congrArg (! ·) (intEq_eq _ _)) (by simp [binOp, Op.intCmp]; rfl)
  case lss => exact .bool h (intLt_eq _ _) (by simp [binOp, Op.intCmp])
  case leq => exact .bool h (intLe_eq _ _) (by simp [binOp, Op.intCmp])
  case gtr => exact .bool h (intLt_eq _ _) (by simp [binOp, Op.intCmp])
  case geq => exact .bool h (intLe_eq _ _) (by simp [binOp, Op.intCmp])
  all_goals exact .int h (by simp [binOp, Op.intArith, Op.intBits])

theorem Ans.sint {kd : IntKind} {n : Int} {g : Nat} {k' : AV → Option β} (h : k' (.sint kd n g) = some r) (hs : s.run P w = .ok (.int kd n) w) : Ans P μ w s k' r := ⟨_, _, h, hs, by simp only [VRel]⟩
theorem Ans.sbool {b c : Bool} {g : Nat} {k' : AV → Option β} (h : k' (.sbool b g) = some r) (hb : b = c) (hs : s.run P w = .ok (.bool c) w) : Ans P μ w s k' r := ⟨_, _, h, hs, by simp only [VRel, hb]⟩
theorem NGood.sint {kd : IntKind} {n : Int} {g : Nat} (h : k (.sint kd n g) none = some r) (hs : s.run P w = .ok (.int kd n) w) : NGood P μ w x s k r := .pure h hs (by simp only [VRel])
theorem NGood.sbool {b c : Bool} {g : Nat} (h : k (.sbool b g) none = some r) (hb : b = c) (hs : s.run P w = .ok (.bool c) w) : NGood P μ w x s k r := .pure h hs (by simp only [VRel, hb])
theorem symOp_ok {op : BinOp} {t : TypeId} {kd : IntKind} {a b : Int} {g : Nat} {k' : AV → Option β} (h : symOp op kd a b g k' = some r) :
    Ans P μ w (binOp op t (.int kd a) (.int kd b)) k' r := by
  cases op <;> simp only [symOp, yAdd, ySub, yMul, yQuo, yRem, yAnd, yOr, yXor, yAndNot, yEql, yNeq, yLss, yLeq, yGtr, yGeq, yNone, reduceCtorEq] at h
  case quo =>
    rcases symFork_ok h with ⟨_, h⟩ | ⟨hz, h⟩
    · cases h
    · exact .sint h (by simp [binOp, Op.intDiv, of_decide_eq_false hz])
  case rem =>
    rcases symFork_ok h with ⟨_, h⟩ | ⟨hz, h⟩
    · cases h
    · exact .sint h (by simp [binOp, Op.intDiv, of_decide_eq_false hz])
  case eql => exact .sbool (c := a == b) h (by rw [Bool.eq_iff_iff]; simp) (by simp [binOp, Op.intCmp])
  case neq => exact .sbool (c := !(a == b)) h (by rw [Bool.eq_iff_iff]; simp) (by simp [binOp, Op.intCmp]; rfl)
  case lss => exact .sbool h rfl (by simp [binOp, Op.intCmp])
  case leq => exact .sbool h rfl (by simp [binOp, Op.intCmp])
  case gtr => exact .sbool h rfl (by simp [binOp, Op.intCmp])
  case geq => exact .sbool h rfl (by simp [binOp, Op.intCmp])
  all_goals exact .sint h (by simp [binOp, Op.intArith, Op.intBits])

theorem nzOp_ok {op : BinOp} {t : TypeId} {kd : IntKind} {a b : Int} {g : Nat} {k' : AV → Option β} (hz : b ≠ 0) (h : nzOp op kd a b g k' = some r) :
    Ans P μ w (binOp op t (.int kd a) (.int kd b)) k' r := by
  cases op
  case quo => exact .sint h (by simp [binOp, Op.intDiv, hz])
  case rem => exact .sint h (by simp [binOp, Op.intDiv, hz])
  all_goals exact symOp_ok (g := g) h

theorem strOp_ok {op : BinOp} {t : TypeId} {a b : ByteArray} {k' : AV → Option β} (h : strOp op (a.data.toList.map UInt8.toNat) (b.data.toList.map UInt8.toNat) k' = some r) :
    Ans P μ w (binOp op t (.string a) (.string b)) k' r := by
  have hl : strLt (a.data.toList.map UInt8.toNat) (b.data.toList.map UInt8.toNat) = Op.bytesLess a.toList b.toList := by
    rw [strLt_bytes, ByteArray.toList_eq, ByteArray.toList_eq]
  cases op <;> simp only [strOp, sAdd, sEql, sNeq, sLss, sLeq, sGtr, sGeq, sNone, boolK_eq, appK_eq, strEq_bytes, hl, reduceCtorEq] at h
  case add =>
    split at h
    · rename_i hb
      rw [Nat.ble_eq] at hb
      simp only [List.length_map, Array.length_toList] at hb
      have hs : ¬ ((a.size + b.size : Nat) : Int) > IntKind.i64.max := by
        have e1 : a.size = a.data.size := rfl
        have e2 : b.size = b.data.size := rfl
        have : IntKind.i64.max = 9223372036854775807 := by decide
        rw [this]; omega
      refine ⟨_, .string (a ++ b), h, ?_, ?_⟩
      · show (Op.stringOp .add a b).run P w = _
        simp only [Op.stringOp]; rw [if_neg hs]; rfl
      · simp only [VRel]; exact ⟨_, rfl, by simp [ByteArray.data_append]⟩
    · cases h
  all_goals exact .bool h rfl (by simp [binOp, Op.stringOp])

theorem run_eqGuard_plain {op : BinOp} {t : TypeId} {x y : Operand} {a b : Value} (h1 : a ≠ .nilIface ∨ b ≠ .nilIface) (h2 : (∀ cs, a ≠ .agg cs) ∨ (∀ cs, b ≠ .agg cs)) :
    (eqGuard op t x y a b).run P w = .ok () w := by
  unfold eqGuard
  cases op <;> (try rfl) <;> (simp only [Bool.not_true, Bool.false_eq_true, if_false]; split <;> first | rfl | simp_all)

theorem arF_ok {op : BinOp} {t : TypeId} {x0 y0 : Operand} {c d : Value} (hv : VRels μ vs [c, d]) (h : arF op vs hp x k = some r) :
    NGood P μ w x (do eqGuard op t x0 y0 c d; binOp op t c d) k r := by
  unfold arF at h
  split at h
  · simp only [VRels, VRel, List.cons.injEq] at hv
    obtain ⟨v1, r1, ⟨rfl, rfl⟩, rfl, v2, r2, ⟨rfl, _⟩, rfl, _⟩ := hv
    split at h
    · rename_i hk; rw [kindEq_iff] at hk; subst hk
      obtain ⟨v, cv, h3, h4, h5⟩ := intOp_ok (P := P) (μ := μ) (w := w) (t := t) h
      exact .pure h3 (by simp [run_eqGuard_plain, h4]) h5
    · cases h
  · simp only [VRels, VRel, List.cons.injEq] at hv
    obtain ⟨v1, r1, ⟨rfl, rfl⟩, ⟨a, rfl, rfl⟩, v2, r2, ⟨rfl, _⟩, ⟨b, rfl, rfl⟩, _⟩ := hv
    obtain ⟨v, cv, h3, h4, h5⟩ := strOp_ok (P := P) (μ := μ) (w := w) (t := t) h
    exact .pure h3 (by simp [run_eqGuard_plain, h4]) h5
  · simp only [VRels, VRel, List.cons.injEq] at hv
    obtain ⟨v1, r1, ⟨rfl, rfl⟩, hv1, v2, r2, ⟨rfl, _⟩, ⟨rfl, hz⟩, _⟩ := hv
    obtain ⟨kd, n, g, hv0, h'⟩ := intOf_ok hv1 h
    subst hv0
    split at h'
    · rename_i hk; rw [kindEq_iff] at hk; subst hk
      obtain ⟨v, cv, h3, h4, h5⟩ := nzOp_ok (P := P) (μ := μ) (w := w) (t := t) hz h'
      exact .pure h3 (by simp [run_eqGuard_plain, h4]) h5
    · cases h'
  · simp only [VRels, List.cons.injEq] at hv
    obtain ⟨v1, r1, ⟨rfl, rfl⟩, hv1, v2, r2, ⟨rfl, _⟩, hv2, _⟩ := hv
    obtain ⟨kd, n, g, rfl, h⟩ := intOf_ok hv1 h
    obtain ⟨kd', m, g', rfl, h⟩ := intOf_ok hv2 h
    split at h
    · rename_i hk; rw [kindEq_iff] at hk; subst hk
      obtain ⟨v, cv, h3, h4, h5⟩ := symOp_ok (P := P) (μ := μ) (w := w) (t := t) h
      exact .pure h3 (by simp [run_eqGuard_plain, h4]) h5
    · cases h
  · cases h

theorem symSh_ok {op : BinOp} {t : TypeId} {kd yk : IntKind} {a b : Int} {g : Nat} {k' : AV → Option β} (h : symSh op kd a b g k' = some r) :
    Ans P μ w (binOp op t (.int kd a) (.int yk b)) k' r := by
  unfold symSh at h
  split at h
  · rcases symFork_ok h with ⟨_, h⟩ | ⟨hb, h⟩
    · cases h
    · exact .sint h (by simp [binOp, Op.shift, of_decide_eq_false hb])
  · rcases symFork_ok h with ⟨_, h⟩ | ⟨hb, h⟩
    · cases h
    · exact .sint h (by simp [binOp, Op.shift, of_decide_eq_false hb])
  · simp [yNone] at h
theorem shOp_ok {op : BinOp} {t : TypeId} {kd yk : IntKind} {a b : Int} {k' : AV → Option β} (h : shOp op kd a b k' = some r) :
    Ans P μ w (binOp op t (.int kd a) (.int yk b)) k' r := by
  unfold shOp at h
  split at h
  · split at h
    · cases h
    · rename_i hb; rw [intLt_eq, decide_eq_false_iff_not] at hb
      rw [wrapK_eq] at h
      exact .int h (by simp [binOp, Op.shift, hb])
  · split at h
    · cases h
    · rename_i hb; rw [intLt_eq, decide_eq_false_iff_not] at hb
      rw [intK_eq] at h
      exact .int h (by simp [binOp, Op.shift, hb])
  · simp [iNone] at h
theorem shF_ok {op : BinOp} {t : TypeId} {x0 y0 : Operand} {c d : Value} (hv : VRels μ vs [c, d]) (h : shF op vs hp x k = some r) :
    NGood P μ w x (do eqGuard op t x0 y0 c d; binOp op t c d) k r := by
  unfold shF at h
  split at h
  · simp only [VRels, VRel, List.cons.injEq] at hv
    obtain ⟨v1, r1, ⟨rfl, rfl⟩, rfl, v2, r2, ⟨rfl, _⟩, rfl, _⟩ := hv
    rename_i kd0 a0 kd1 b0 _
    obtain ⟨v, cv, h3, h4, h5⟩ := shOp_ok (P := P) (μ := μ) (w := w) (t := t) (yk := kd1) h
    exact .pure h3 (by simp [run_eqGuard_plain, h4]) h5
  · simp only [VRels, List.cons.injEq] at hv
    obtain ⟨v1, r1, ⟨rfl, rfl⟩, hv1, v2, r2, ⟨rfl, _⟩, hv2, _⟩ := hv
    obtain ⟨kd, n, g, rfl, h⟩ := intOf_ok hv1 h
    obtain ⟨kd', m, g', rfl, h⟩ := intOf_ok hv2 h
    obtain ⟨v, cv, h3, h4, h5⟩ := symSh_ok (P := P) (μ := μ) (w := w) (t := t) (yk := kd') h
    exact .pure h3 (by simp [run_eqGuard_plain, h4]) h5
  · cases h

theorem negF_ok {c : Value} (hv : VRels μ vs [c]) (h : negF vs hp x k = some r) : NGood P μ w x (Op.unary .neg c) k r := by
  unfold negF at h
  split at h
  · simp only [VRels, VRel, List.cons.injEq] at hv
    obtain ⟨v1, r1, ⟨rfl, rfl⟩, rfl, _⟩ := hv
    simp only [iSub, wrapK_eq] at h
    exact .int h (by simp [Op.unary, Op.intArith])
  · simp only [VRels, VRel, List.cons.injEq] at hv
    obtain ⟨v1, r1, ⟨rfl, rfl⟩, rfl, _⟩ := hv
    exact .sint h (by simp [Op.unary, Op.intArith])
  · cases h
theorem bnotF_ok {c : Value} (hv : VRels μ vs [c]) (h : bnotF vs hp x k = some r) : NGood P μ w x (Op.unary .not c) k r := by
  unfold bnotF at h
  split at h
  · simp only [VRels, VRel, List.cons.injEq] at hv
    obtain ⟨v1, r1, ⟨rfl, rfl⟩, rfl, _⟩ := hv
    rw [boolK_eq] at h
    exact .bool h rfl (by simp [Op.unary])
  · simp only [VRels, VRel, List.cons.injEq] at hv
    obtain ⟨v1, r1, ⟨rfl, rfl⟩, rfl, _⟩ := hv
    exact .sbool h rfl (by simp [Op.unary])
  · cases h
theorem invF_ok {c : Value} (hv : VRels μ vs [c]) (h : invF vs hp x k = some r) : NGood P μ w x (Op.unary .xor c) k r := by
  unfold invF at h
  split at h
  · simp only [VRels, VRel, List.cons.injEq] at hv
    obtain ⟨v1, r1, ⟨rfl, rfl⟩, rfl, _⟩ := hv
    simp only [iXor, intK_eq] at h
    exact .int h (by simp [Op.unary, Op.intBits])
  · simp only [VRels, VRel, List.cons.injEq] at hv
    obtain ⟨v1, r1, ⟨rfl, rfl⟩, rfl, _⟩ := hv
    exact .sint h (by simp [Op.unary, Op.intBits])
  · cases h
theorem toIntF_ok {kd kd0 : IntKind} {src dst : TypeId} (hs : P.underlying src = some (.int kd0)) (hd : P.underlying dst = some (.int kd)) {c : Value} (hv : VRels μ vs [c]) (h : toIntF kd vs hp x k = some r) :
    NGood P μ w x (convert src dst c) k r := by
  unfold toIntF at h
  split at h
  · simp only [VRels, VRel, List.cons.injEq] at hv
    obtain ⟨v1, r1, ⟨rfl, rfl⟩, rfl, _⟩ := hv
    rw [wrapK_eq] at h
    exact .int h (by simp [convert, run_underlying hs, run_underlying hd, Conv.intToInt])
  · simp only [VRels, VRel, List.cons.injEq] at hv
    obtain ⟨v1, r1, ⟨rfl, rfl⟩, rfl, _⟩ := hv
    exact .sint h (by simp [convert, run_underlying hs, run_underlying hd, Conv.intToInt])
  · cases h
theorem mkIfaceF_ok {t : TypeId} {d : TypeDesc} (ht : P.underlying t = some d) (hd : ∀ ms, d ≠ .interface ms) {c : Value} (hv : VRels μ vs [c]) (h : mkIfaceF t vs hp x k = some r) :
    NGood P μ w x (Instr.makeInterface t c) k r := by
  unfold mkIfaceF at h
  split at h
  · simp only [VRels, List.cons.injEq] at hv
    obtain ⟨v1, r1, ⟨rfl, rfl⟩, hv, _⟩ := hv
    refine .pure h (cv := .iface t c) ?_ (by simp only [VRel]; exact ⟨_, rfl, hv⟩)
    simp only [Instr.makeInterface, Sem.run_bind, run_underlying ht, Result.andThen_ok]
    cases d <;> first | rfl | exact absurd rfl (hd _)
  · cases h
theorem mkFuncF_ok {fn : Fn} {a b : Array Value} (hv : VRels μ vs (a.toList ++ b.toList)) (h : mkFuncF fn a.size vs hp x k = some r) :
    NGood P μ w x (Instr.makeFunc fn a b) k r := by
  simp only [mkFuncF] at h
  obtain ⟨_, h⟩ := takeK_ok h
  obtain ⟨_, h⟩ := dropK_ok h
  refine .pure h (cv := .func fn a b) rfl ?_
  simp only [VRel]
  refine ⟨a, b, rfl, ?_, ?_⟩
  · have := hv.take a.size; simpa using this
  · have := hv.drop a.size; simpa using this
theorem mkMapF_ok (hx : ∀ v o, k v (some o) = some r → μ x = none) {t : TypeId} {c : Option Value} (hc : c = none ∨ ∃ a b, P.underlying t = some (.map a b)) (hv : VRels μ vs c.toList) (h : mkMapF vs hp x k = some r) :
    NGood P μ w x (Instr.makeMap t c) k r := by
  unfold mkMapF at h
  split at h
  · cases c with
    | some v => simp [VRels] at hv
    | none =>
      refine .new 0 h (cv := .map (some w.heap.size)) (w1 := w.alloc (.map #[] 0)) (ho := .map #[] 0) (by simp [Instr.makeMap]) rfl rfl rfl rfl rfl ?_ ?_
      · simp only [VRel]; exact ⟨_, upd_self _ _ _, rfl⟩
      · exact ⟨#[], push_get _ _ _ rfl, by simp [ERels]⟩
  · cases c with
    | none => simp [VRels] at hv
    | some v =>
      simp only [Option.toList_some, VRels, VRel, List.cons.injEq] at hv
      obtain ⟨v1, r1, ⟨rfl, rfl⟩, rfl, _⟩ := hv
      rcases hc with hc | ⟨a, b, hu⟩
      · cases hc
      refine .new 0 h (cv := .map (some w.heap.size)) (w1 := w.alloc (.map #[] 0)) (ho := .map #[] 0) (by simp [Instr.makeMap, run_underlying hu, asInt, asIntOf]) rfl rfl rfl rfl rfl ?_ ?_
      · simp only [VRel]; exact ⟨_, upd_self _ _ _, rfl⟩
      · exact ⟨#[], push_get _ _ _ rfl, by simp [ERels]⟩
  · cases h

theorem fieldAddrF_ok {t : TypeId} {fs : Array Field} {i : Nat} {f : Field} {n : Nat} (hu : P.underlying t = some (.struct fs)) (hf : fs[i]? = some f) (hs : sizeP P f.type = some (n + 1)) {c : Value} (hv : VRels μ vs [c])
    (h : fieldAddrF f.offset vs hp x k = some r) : NGood P μ w x (Instr.fieldAt t c i) k r := by
  unfold fieldAddrF at h
  split at h
  · simp only [VRels, VRel, List.cons.injEq] at hv
    obtain ⟨v1, r1, ⟨rfl, rfl⟩, ⟨l, hl, rfl⟩, _⟩ := hv
    rw [natK_eq] at h
    refine .pure h (cv := .pointer (some ⟨l.blk, l.base + (_ + f.offset), none⟩)) ?_ (by simp only [VRel]; exact ⟨l, hl, rfl⟩)
    simp only [Instr.fieldAt, Sem.run_bind, run_underlying hu, Result.andThen_ok, hf, Instr.sureAddr, Sem.run_pure, fieldPlace, run_sizeOf hs]
    rw [if_neg (by omega)]
    simp [loc_add]
  · cases h

theorem partV_ok {t : TypeId} {g : Option Nat} (hg : aggP P t = some g) {cs : Array Value} {l : List AV} (hl : VRels μ l cs.toList) {o : Nat} {k' : AV → Option β} (h : partK l o g k' = some r) : Ans P μ w (part t cs o) k' r := by
  unfold aggP at hg
  split at hg
  · rename_i n h1 h2
    injection hg with hg; subst hg
    simp only [partK] at h
    obtain ⟨h3, h⟩ := dropK_ok h
    obtain ⟨h4, h⟩ := takeK_ok h
    refine ⟨_, .agg (cs.extract o (o + n)), h, by simp [part, run_isAgg h1, run_sizeOf h2], ?_⟩
    simp only [VRel]
    refine ⟨_, rfl, ?_⟩
    have := (hl.drop o).take n
    rw [Array.toList_extract, List.extract_eq_take_drop]
    simpa using this
  · rename_i h1 h2
    injection hg with hg; subst hg
    simp only [partK] at h
    obtain ⟨a, ha, h⟩ := getK_ok h
    rw [avK_eq] at h
    obtain ⟨y, hy, hr⟩ := hl.get ha
    rw [Array.getElem?_toList] at hy
    exact ⟨a, y, h, by simp [part, run_isAgg h1, hy], hr⟩
  · cases hg
theorem fieldF_ok {t : TypeId} {fs : Array Field} {i : Nat} {f : Field} {g : Option Nat} (hu : P.underlying t = some (.struct fs)) (hf : fs[i]? = some f) (hs : aggP P f.type = some g) {c : Value} (hv : VRels μ vs [c])
    (h : fieldF f.offset g vs hp x k = some r) : NGood P μ w x (Instr.field t c i) k r := by
  unfold fieldF at h
  split at h
  · simp only [VRels, VRel, List.cons.injEq] at hv
    obtain ⟨v1, r1, ⟨rfl, rfl⟩, ⟨cs, rfl, hcs⟩, _⟩ := hv
    obtain ⟨v, cv, h1, h2, h3⟩ := partV_ok (P := P) (w := w) hs hcs h
    exact .pure h1 (by simp [Instr.field, run_underlying hu, hf, asAgg, h2]) h3
  · cases h

theorem idxAddrSlF_ok {t e : TypeId} {n : Nat} (hu : P.underlying t = some (.slice e)) (hs : sizeP P e = some n) {c i : Value} (hv : VRels μ vs [c, i]) (h : idxAddrSlF n vs hp x k = some r) :
    NGood P μ w x (Instr.indexAt t c i) k r := by
  unfold idxAddrSlF at h
  split at h
  · rename_i b o len cp kd i0
    simp only [VRels, VRel, List.cons.injEq] at hv
    obtain ⟨v1, r1, ⟨rfl, rfl⟩, ⟨l, hl, hsl⟩, v2, r2, ⟨rfl, _⟩, rfl, _⟩ := hv
    split at h
    · rename_i hb; rw [Nat.ble_eq] at hb
      rw [natK_eq] at h
      have hc : ∃ cc, c = .slice (some ⟨l.blk, l.base + o, none⟩) len cc := by
        cases cp with
        | ex n => exact ⟨_, hsl⟩
        | op g => exact ⟨_, hsl.1⟩
        | em => obtain ⟨h0, _⟩ := hsl; omega
      obtain ⟨cc, rfl⟩ := hc
      refine .pure h (cv := .pointer (some ⟨l.blk, l.base + (o + i0 * n), none⟩)) ?_ (by simp only [VRel]; exact ⟨l, hl, rfl⟩)
      have hlt : (0 : Int) ≤ Int.ofNat i0 ∧ Int.ofNat i0 < (len : Int) := by simp; omega
      simp only [Instr.indexAt, asIntOf, Sem.run_bind, Sem.run_pure, Result.andThen_ok, run_underlying hu]
      rw [Sem.run_ite, if_pos hlt]
      simp [run_sizeOf hs, loc_add]
    · cases h
  · rename_i b o len cp kd i1 g
    simp only [VRels, VRel, List.cons.injEq] at hv
    obtain ⟨v1, r1, ⟨rfl, rfl⟩, ⟨l, hl, hsl⟩, v2, r2, ⟨rfl, _⟩, rfl, _⟩ := hv
    obtain ⟨i0, hb, hi0, h'⟩ := forkI_ok h
    subst hi0
    rw [natK_eq] at h'
    clear h
    have h := h'
    have hc : ∃ cc, c = .slice (some ⟨l.blk, l.base + o, none⟩) len cc := by
      cases cp with
      | ex n => exact ⟨_, hsl⟩
      | op g => exact ⟨_, hsl.1⟩
      | em => obtain ⟨h0, _⟩ := hsl; omega
    obtain ⟨cc, rfl⟩ := hc
    refine .pure h (cv := .pointer (some ⟨l.blk, l.base + (o + i0 * n), none⟩)) ?_ (by simp only [VRel]; exact ⟨l, hl, rfl⟩)
    have hlt : (0 : Int) ≤ (i0 : Int) ∧ (i0 : Int) < (len : Int) := by omega
    simp only [Instr.indexAt, asIntOf, Sem.run_bind, Sem.run_pure, Result.andThen_ok, run_underlying hu]
    rw [Sem.run_ite, if_pos hlt]
    simp [run_sizeOf hs, loc_add]
  · cases h
theorem idxAddrArrF_ok {t e : TypeId} {m n : Nat} (hu : P.underlying t = some (.array m e)) (hs : sizeP P e = some n) {c i : Value} (hv : VRels μ vs [c, i]) (h : idxAddrArrF m n vs hp x k = some r) :
    NGood P μ w x (Instr.indexAt t c i) k r := by
  unfold idxAddrArrF at h
  split at h
  · rename_i b o kd i0
    simp only [VRels, VRel, List.cons.injEq] at hv
    obtain ⟨v1, r1, ⟨rfl, rfl⟩, ⟨l, hl, rfl⟩, v2, r2, ⟨rfl, _⟩, rfl, _⟩ := hv
    split at h
    · rename_i hb; rw [Nat.ble_eq] at hb
      rw [natK_eq] at h
      refine .pure h (cv := .pointer (some ⟨l.blk, l.base + (o + i0 * n), none⟩)) ?_ (by simp only [VRel]; exact ⟨l, hl, rfl⟩)
      have hlt : (0 : Int) ≤ Int.ofNat i0 ∧ Int.ofNat i0 < (m : Int) := by simp; omega
      simp only [Instr.indexAt, asIntOf, Sem.run_bind, Sem.run_pure, Result.andThen_ok, run_underlying hu, Instr.sureAddr]
      rw [Sem.run_ite, if_pos hlt]
      simp [run_sizeOf hs, loc_add]
    · cases h
  · rename_i b o kd i1 g
    simp only [VRels, VRel, List.cons.injEq] at hv
    obtain ⟨v1, r1, ⟨rfl, rfl⟩, ⟨l, hl, rfl⟩, v2, r2, ⟨rfl, _⟩, rfl, _⟩ := hv
    obtain ⟨i0, hb, hi0, h'⟩ := forkI_ok h
    subst hi0
    rw [natK_eq] at h'
    clear h
    have h := h'
    refine .pure h (cv := .pointer (some ⟨l.blk, l.base + (o + i0 * n), none⟩)) ?_ (by simp only [VRel]; exact ⟨l, hl, rfl⟩)
    have hlt : (0 : Int) ≤ (i0 : Int) ∧ (i0 : Int) < (m : Int) := by omega
    simp only [Instr.indexAt, asIntOf, Sem.run_bind, Sem.run_pure, Result.andThen_ok, run_underlying hu, Instr.sureAddr]
    rw [Sem.run_ite, if_pos hlt]
    simp [run_sizeOf hs, loc_add]
  · cases h
theorem aggP_of {e : TypeId} {n : Nat} {ag : Bool} (ha : isAggP P e = some ag) (hs : sizeP P e = some n) : aggP P e = some (optIf ag n) := by
  unfold aggP optIf; simp only [ha, hs]; cases ag <;> rfl
theorem idxArrF_ok {t e : TypeId} {m n : Nat} {ag : Bool} (hu : P.underlying t = some (.array m e)) (hs : sizeP P e = some n) (ha : isAggP P e = some ag) {c i : Value} (hv : VRels μ vs [c, i]) (h : idxArrF m n ag vs hp x k = some r) :
    NGood P μ w x (Instr.index t c i) k r := by
  unfold idxArrF at h
  split at h
  · rename_i l kd i0
    simp only [VRels, VRel, List.cons.injEq] at hv
    obtain ⟨v1, r1, ⟨rfl, rfl⟩, ⟨cs, rfl, hcs⟩, v2, r2, ⟨rfl, _⟩, rfl, _⟩ := hv
    split at h
    · rename_i hb; rw [Nat.ble_eq] at hb
      have hg := aggP_of ha hs
      obtain ⟨v, cv, h1, h2, h3⟩ := partV_ok (P := P) (w := w) hg hcs h
      refine .pure h1 ?_ h3
      have hlt : (0 : Int) ≤ Int.ofNat i0 ∧ Int.ofNat i0 < (m : Int) := by simp; omega
      simp only [Instr.index, asIntOf, Sem.run_bind, Sem.run_pure, Result.andThen_ok, run_underlying hu]
      rw [Sem.run_ite, if_pos hlt]
      simpa [run_sizeOf hs] using h2
    · cases h
  · cases h
theorem idxStrF_ok {t : TypeId} (hu : P.underlying t = some .string) {c i : Value} (hv : VRels μ vs [c, i]) (h : idxStrF vs hp x k = some r) :
    NGood P μ w x (Instr.index t c i) k r := by
  unfold idxStrF at h
  split at h
  · rename_i l kd i0
    simp only [VRels, VRel, List.cons.injEq] at hv
    obtain ⟨v1, r1, ⟨rfl, rfl⟩, ⟨cs, rfl, rfl⟩, v2, r2, ⟨rfl, _⟩, rfl, _⟩ := hv
    obtain ⟨a, ha, h⟩ := getK_ok h
    rw [natK_eq] at h
    rw [List.getElem?_map, Option.map_eq_some_iff] at ha
    obtain ⟨b, hb, rfl⟩ := ha
    rw [Array.getElem?_toList] at hb
    have hlt : i0 < cs.size := by
      rcases Nat.lt_or_ge i0 cs.data.size with h | h
      · exact h
      · simp [Array.getElem?_eq_none h] at hb
    have hb' : cs[i0]? = some b := by
      rw [ByteArray.getElem?_lt' cs i0 hlt]
      have : cs.data[i0]? = some cs.data[i0] := by simp
      rw [this] at hb
      exact hb
    refine .pure h (cv := .int .u8 b.toNat) ?_ (by simp [VRel])
    have h0 : (0 : Int) ≤ Int.ofNat i0 := by simp
    simp only [Instr.index, asIntOf, Sem.run_bind, Sem.run_pure, Result.andThen_ok, run_underlying hu]
    rw [if_pos h0]
    have e : (Int.ofNat i0).toNat = i0 := rfl
    simp [e, hb']
  · cases h
theorem extractF_ok {c : Value} {i : Nat} (hv : VRels μ vs [c]) (h : extractF i vs hp x k = some r) : NGood P μ w x (Instr.extract c i) k r := by
  unfold extractF at h
  split at h
  · simp only [VRels, VRel, List.cons.injEq] at hv
    obtain ⟨v1, r1, ⟨rfl, rfl⟩, ⟨cs, rfl, hcs⟩, _⟩ := hv
    obtain ⟨a, ha, h⟩ := getK_ok h
    rw [avK_eq] at h
    obtain ⟨y, hy, hr⟩ := hcs.get ha
    rw [Array.getElem?_toList] at hy
    exact .pure h (by simp [Instr.extract, hy]) hr
  · cases h
theorem lookK_ok {ok : Bool} {v : AV} {cv : Value} {b : Bool} (hv : VRel μ v cv) (h : lookK ok v b k = some r) :
    ∃ u, k u none = some r ∧ VRel μ u (if ok then .tuple #[cv, .bool b] else cv) := by
  unfold lookK at h
  split at h
  · refine ⟨_, h, ?_⟩
    simp only [VRel, if_true]
    exact ⟨_, rfl, by simp only [VRels, VRel]; exact ⟨_, _, rfl, hv, _, _, rfl, rfl, rfl⟩⟩
  · exact ⟨_, h, by simpa using hv⟩
theorem tassertF_ok {t xt : TypeId} {ok : Bool} {z : AV} (hz : zeroV P t = some z) {d : TypeDesc} (hu : P.underlying t = some d) (hd : ∀ ms, d ≠ .interface ms) {c : Value} (hv : VRels μ vs [c]) (h : tassertF t z ok vs hp x k = some r) :
    NGood P μ w x (Instr.typeAssert c xt t ok) k r := by
  obtain ⟨zv, hzr, hzv⟩ := zeroV_ok hz
  unfold tassertF at h
  split at h
  · rename_i u v0
    simp only [VRels, VRel, List.cons.injEq] at hv
    obtain ⟨v1, r1, ⟨rfl, rfl⟩, ⟨cv, rfl, hcv⟩, _⟩ := hv
    split at h
    · rename_i he; rw [Nat.beq_eq] at he; subst he
      rw [avK_eq] at h
      obtain ⟨a, ha, hr⟩ := lookK_ok hcv h
      refine .pure ha ?_ hr
      cases d <;> simp_all [Instr.typeAssert, run_underlying hu] <;> rfl
    · rename_i he
      split at h
      · have hne : u ≠ t := fun e => by rw [← Nat.beq_eq] at e; rw [e] at he; cases he
        refine .pure h (cv := .tuple #[zv, .bool false]) ?_ (by simp only [VRel, VRels]; exact ⟨_, rfl, _, _, rfl, hzv μ, _, _, rfl, rfl, rfl⟩)
        cases d <;> simp_all [Instr.typeAssert, run_underlying hu]
      · cases h
  · split at h
    · simp only [VRels, VRel, List.cons.injEq] at hv
      obtain ⟨v1, r1, ⟨rfl, rfl⟩, rfl, _⟩ := hv
      refine .pure h (cv := .tuple #[zv, .bool false]) ?_ (by simp only [VRel, VRels]; exact ⟨_, rfl, _, _, rfl, hzv μ, _, _, rfl, rfl, rfl⟩)
      cases d <;> simp_all [Instr.typeAssert, run_underlying hu]
    · cases h
  · cases h
end
end Go.Proofs.Ytpcocfdgcihpdaa.Eng
