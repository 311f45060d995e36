/-
  THE ENGINE, PART Y: the quick evaluator answers as the first one does.
-/
import Derived.Test.YtpcocfdgcihpdaaEngX
import Derived.Test.YtpcocfdgcihpdaaEngT
set_option maxHeartbeats 64000000
set_option maxRecDepth 1000000
set_option linter.unusedVariables false
set_option linter.unusedSimpArgs false
namespace Go.Proofs.Ytpcocfdgcihpdaa.Eng
open Go
set_option linter.unusedVariables false
set_option linter.unusedSimpArgs false
set_option linter.unusedSectionVars false
section
variable {α β γ : Type}
theorem natF_eq (n : Nat) (k : Nat → Option β) : natF n k = k n := by cases n <;> rfl
theorem boolF_eq (b : Bool) (k : Bool → Option β) : boolF b k = k b := by cases b <;> rfl
theorem avF_eq (v : AV) (k : AV → Option β) : avF v k = k v := by cases v <;> rfl
theorem selG_eq (d : D8) (k : (N8 α → α) → γ) : selG d k = k (N8.sel d) := by cases d <;> rfl
theorem v_eq (x : α) (k : N8 α → Option β) (n : N8 α) : N8.v0 x k n = N8.upd .d0 x k n ∧ N8.v1 x k n = N8.upd .d1 x k n ∧ N8.v2 x k n = N8.upd .d2 x k n ∧ N8.v3 x k n = N8.upd .d3 x k n ∧
    N8.v4 x k n = N8.upd .d4 x k n ∧ N8.v5 x k n = N8.upd .d5 x k n ∧ N8.v6 x k n = N8.upd .d6 x k n ∧ N8.v7 x k n = N8.upd .d7 x k n := by
  cases n; exact ⟨rfl, rfl, rfl, rfl, rfl, rfl, rfl, rfl⟩
theorem selF_eq (d : D8) (k : (N8 α → α) → (α → (N8 α → Option β) → N8 α → Option β) → γ) : selF d k = k (N8.sel d) (N8.upd d) := by
  have h0 : (N8.v0 : α → (N8 α → Option β) → N8 α → Option β) = N8.upd .d0 := by funext x k n; exact (v_eq x k n).1
  have h1 : (N8.v1 : α → (N8 α → Option β) → N8 α → Option β) = N8.upd .d1 := by funext x k n; exact (v_eq x k n).2.1
  have h2 : (N8.v2 : α → (N8 α → Option β) → N8 α → Option β) = N8.upd .d2 := by funext x k n; exact (v_eq x k n).2.2.1
  have h3 : (N8.v3 : α → (N8 α → Option β) → N8 α → Option β) = N8.upd .d3 := by funext x k n; exact (v_eq x k n).2.2.2.1
  have h4 : (N8.v4 : α → (N8 α → Option β) → N8 α → Option β) = N8.upd .d4 := by funext x k n; exact (v_eq x k n).2.2.2.2.1
  have h5 : (N8.v5 : α → (N8 α → Option β) → N8 α → Option β) = N8.upd .d5 := by funext x k n; exact (v_eq x k n).2.2.2.2.2.1
  have h6 : (N8.v6 : α → (N8 α → Option β) → N8 α → Option β) = N8.upd .d6 := by funext x k n; exact (v_eq x k n).2.2.2.2.2.2.1
  have h7 : (N8.v7 : α → (N8 α → Option β) → N8 α → Option β) = N8.upd .d7 := by funext x k n; exact (v_eq x k n).2.2.2.2.2.2.2
  cases d
  · rw [← h0]; rfl
  · rw [← h1]; rfl
  · rw [← h2]; rfl
  · rw [← h3]; rfl
  · rw [← h4]; rfl
  · rw [← h5]; rfl
  · rw [← h6]; rfl
  · rw [← h7]; rfl
theorem getOf_eq (p : P3) (k : Opd → γ) : getOf p k = k fun t => t.get p := by
  unfold getOf; rw [selG_eq, selG_eq, selG_eq]; rfl
theorem dstOf_eq (p : P3) (k : Dst β → γ) : dstOf p k = k fun t v κ => Tm.putK p v t κ := by
  unfold dstOf; rw [selF_eq, selF_eq, selF_eq]; cases p; rfl
def evA : COpd → Tm → AV
  | .tmp p => fun t => t.get p
  | .cst v => fun _ => v
theorem opdF_eq (o : COpd) (k : Opd → γ) : opdF o k = k (evA o) := by
  cases o with
  | tmp p => exact getOf_eq p k
  | cst v => rfl
theorem opdsF_eq : ∀ (l : List COpd) (k : List Opd → γ), opdsF l k = k (l.map evA)
  | [], k => rfl
  | o :: l, k => by
    show opdF o (fun a => opdsF l fun l => k (a :: l)) = _
    rw [opdF_eq, opdsF_eq l]; rfl
theorem evK_eq (o : COpd) (t : Tm) (k : AV → Option β) : evK o t k = k (evA o t) := by
  cases o with
  | tmp p => simp only [evK, avK_eq, evA]
  | cst v => rfl
theorem evL_eq : ∀ (l : List COpd) (t : Tm) (k : List AV → Option β), evL l t k = k (l.map fun o => evA o t)
  | [], t, k => rfl
  | o :: l, t, k => by simp only [evL, evK_eq, evL_eq l, List.map_cons]
theorem evF_eq : ∀ (l : List Opd) (t : Tm) (k : List AV → Option β), evF l t k = k (l.map fun o => o t)
  | [], t, k => rfl
  | o :: l, t, k => by
    show avF (o t) (fun v => evF l t fun vs => k (v :: vs)) = _
    rw [avF_eq, evF_eq l]; rfl
theorem evFL (l : List COpd) (t : Tm) (k : List AV → Option β) : evF (l.map evA) t k = evL l t k := by
  rw [evF_eq, evL_eq, List.map_map]; rfl
theorem dstF_eq (d : Option P3) (k : Dst β → γ) : dstF d k = k fun t v κ => dstK d v t κ := by
  cases d with
  | none => rfl
  | some p => exact dstOf_eq p k
theorem kcF_eq (k : IntKind) : kcF k = kindCode k := by cases k <;> rfl
theorem hiF_eq (k : IntKind) : hiF k = hiOf k := by cases k <;> rfl
theorem posF_eq (kd : IntKind) (m : Nat) (k : AV → Option β) : posF kd m k = k (.int kd (kd.wrap (.ofNat m))) := by
  unfold posF
  rw [hiF_eq]
  cases h : Nat.ble m (hiOf kd) with
  | false => show wrapSlow kd (.ofNat m) _ = _; rw [wrapSlow_eq]
  | true =>
    show natF m _ = _
    rw [natF_eq]
    rw [Nat.ble_eq] at h
    have := wrap_pos kd m h
    rw [Int.ofNat_eq_natCast, this]
theorem addF_eq (kd : IntKind) (x y : Int) (k : AV → Option β) : addF kd x y k = iAdd kd x y k := by
  unfold iAdd
  rw [wrapK_eq]
  cases x with
  | ofNat a =>
    cases y with
    | ofNat b => show posF kd (Nat.add a b) k = _; rw [posF_eq]; rfl
    | negSucc b =>
      show iteF (Nat.ble (Nat.succ b) a) (posF kd (Nat.sub a (Nat.succ b)) k) (wrapK kd (Int.negSucc (Nat.sub b a)) fun n => k (.int kd n)) = _
      cases h : Nat.ble (Nat.succ b) a with
      | true =>
        show posF kd (Nat.sub a (Nat.succ b)) k = _
        rw [posF_eq]
        rw [Nat.ble_eq] at h
        have : (Int.ofNat (Nat.sub a (Nat.succ b))) = Int.ofNat a + Int.negSucc b := by
          show ((a - (b + 1) : Nat) : Int) = (a : Int) + Int.negSucc b
          omega
        rw [this]
      | false =>
        show wrapK kd (Int.negSucc (Nat.sub b a)) _ = _
        rw [wrapK_eq]
        have h' : ¬ b + 1 ≤ a := fun e => by rw [← Nat.ble_eq] at e; rw [e] at h; cases h
        have : Int.negSucc (Nat.sub b a) = Int.ofNat a + Int.negSucc b := by
          show Int.negSucc (b - a) = (a : Int) + Int.negSucc b
          omega
        rw [this]
  | negSucc a =>
    show wrapK kd (Int.add (.negSucc a) y) _ = _
    rw [wrapK_eq]; rfl
theorem eqI_eq (x y : Int) : eqI x y = intEq x y := by cases x <;> cases y <;> rfl
theorem leI_eq (x y : Int) : leI x y = intLe x y := by cases x <;> cases y <;> rfl
theorem notF_eq (b : Bool) : notF b = !b := by cases b <;> rfl
theorem int2F_eq (op : BinOp) (kd : IntKind) (x y : Int) (k : AV → Option β) : int2F op kd x y k = intOp op kd x y k := by
  cases op
  case add => exact addF_eq kd x y k
  case eql => show boolF (eqI x y) _ = _; rw [boolF_eq, eqI_eq]; simp only [intOp, iEql, boolK_eq]
  case neq => show boolF (notF (eqI x y)) _ = _; rw [boolF_eq, notF_eq, eqI_eq]; simp only [intOp, iNeq, boolK_eq]
  case lss => show boolF (notF (leI y x)) _ = _; rw [boolF_eq, notF_eq, leI_eq]; simp only [intOp, iLss, boolK_eq, intLt]
  case leq => show boolF (leI x y) _ = _; rw [boolF_eq, leI_eq]; simp only [intOp, iLeq, boolK_eq]
  case gtr => show boolF (notF (leI x y)) _ = _; rw [boolF_eq, notF_eq, leI_eq]; simp only [intOp, iGtr, boolK_eq, intLt]
  case geq => show boolF (leI y x) _ = _; rw [boolF_eq, leI_eq]; simp only [intOp, iGeq, boolK_eq]
  all_goals rfl
theorem getF_eq : ∀ (l : List AV) (n : Nat) (k : AV → Option β), getF l n k = getK l n k
  | [], n, k => rfl
  | a :: l, 0, k => by show avF a k = _; rw [avF_eq]; rfl
  | a :: l, n + 1, k => getF_eq l n k
theorem dropF_eq : ∀ (n : Nat) (l : List α) (k : List α → Option β), dropF n l k = dropK n l k
  | 0, l, k => rfl
  | n + 1, [], k => rfl
  | n + 1, a :: l, k => dropF_eq n l k
theorem takeF_eq : ∀ (n : Nat) (l : List α) (k : List α → Option β), takeF n l k = takeK n l k
  | 0, l, k => rfl
  | n + 1, [], k => rfl
  | n + 1, a :: l, k => takeF_eq n l fun l => k (a :: l)
theorem partF_eq (g : Option Nat) (l : List AV) (o : Nat) (k : AV → Option β) : partF g l o k = partK l o g k := by
  cases g with
  | none => show getF l o k = _; rw [getF_eq]; simp only [partK, avK_eq]
  | some n =>
    show dropF o l (fun l => takeF n l fun l => k (.agg l)) = _
    rw [dropF_eq]; simp only [takeF_eq, partK]
theorem knownF_eq (o : AObj) (k : List AV → Option β) : knownF o k = knownK o k := by cases o <;> rfl
theorem sel8_eq (d : D8) (n : N8 α) : sel8 d n = N8.sel d n := by cases d <;> rfl
theorem hgetF_eq (h : Hp) (b : Bid) : hgetF h b = h.get b := by
  cases b
  show sel8 _ (sel8 _ (sel8 _ (sel8 _ (sel8 _ h)))) = _
  simp only [sel8_eq]; rfl
theorem put8_eq (d : D8) : (put8 d : α → (N8 α → Option β) → N8 α → Option β) = N8.upd d := by
  funext x k n
  cases d
  · exact (v_eq x k n).1
  · exact (v_eq x k n).2.1
  · exact (v_eq x k n).2.2.1
  · exact (v_eq x k n).2.2.2.1
  · exact (v_eq x k n).2.2.2.2.1
  · exact (v_eq x k n).2.2.2.2.2.1
  · exact (v_eq x k n).2.2.2.2.2.2.1
  · exact (v_eq x k n).2.2.2.2.2.2.2
theorem hputF_eq (b : Bid) (o : AObj) (h : Hp) (k : Hp → Option β) : hputF b o h k = Hp.putK b o h k := by
  cases b
  unfold hputF
  simp only [put8_eq, sel8_eq]
  rfl
theorem succF_eq (b : Bid) (k : Bid → Option β) : succF b k = Bid.succK b k := by
  obtain ⟨x, y, z, u, v⟩ := b
  cases v
  case d7 => cases u <;> rfl
  all_goals rfl
theorem freshF_eq (h : Hp) (x : Bid) (k : Bid → Option β) : freshF h x k = freshK h x k := by
  unfold freshF freshK
  rw [hgetF_eq]
  cases h.get x
  case no => exact succF_eq x k
  all_goals rfl
/-! ### lists; what writes -/
theorem appF_eq : ∀ (l m : List α) (k : List α → Option β), appF l m k = appK l m k
  | [], m, k => rfl
  | a :: l, m, k => appF_eq l m fun r => k (a :: r)
theorem overF_eq : ∀ (o : Nat) (l m : List α) (k : List α → Option β), overF o l m k = overK l o m k
  | 0, l, m, k => by
    rw [overK.eq_def]
    show dropF m.length l (fun r => appF m r k) = _
    rw [dropF_eq]; simp only [appF_eq]
  | o + 1, [], m, k => rfl
  | o + 1, a :: l, m, k => overF_eq o l m fun l => k (a :: l)
theorem setF_eq : ∀ (o : Nat) (l : List α) (v : α) (k : List α → Option β), setF o l v k = overK l o [v] k
  | 0, [], v, k => rfl
  | 0, a :: l, v, k => rfl
  | o + 1, [], v, k => rfl
  | o + 1, a :: l, v, k => setF_eq o l v fun l => k (a :: l)
theorem scalF_eq (v : AV) : scalF v = okCell v := by cases v <;> rfl
theorem okF_eq : ∀ (l : List AV), okF l = okCells l
  | [] => rfl
  | a :: l => by
    show Bool.rec (motive := fun _ => Bool) false (okF l) (scalF a) = _
    rw [okF_eq l, scalF_eq]
    simp only [okCells]
    cases okCell a <;> rfl
theorem cellsF_eq (v : AV) (k : List AV → Option β) : cellsF v k = cellsK v k := by
  unfold cellsF
  rw [avF_eq]
  cases v <;> rfl
theorem cellsK_scal {v : AV} (hs : scalF v = true) (k : List AV → Option β) : cellsK v k = k [v] := by
  cases v <;> first | rfl | cases hs
theorem wrF_eq (b : Bid) (o : Nat) (m : List AV) (h : Hp) (ob : AObj) (f : List AV → (List AV → Option β) → Option β) (hf : ∀ c k, f c k = overK c o m k) (k : Hp → Option β) : wrF b h ob f k = overObj1 o m b h ob k := by
  cases ob
  case cells c => show f c (fun c => hputF b (.cells c) h k) = _; rw [hf]; simp only [hputF_eq]; rfl
  case opn c sz => show f c (fun c => hputF b (.opn c sz) h k) = _; rw [hf]; simp only [hputF_eq]; rfl
  all_goals rfl
theorem storeF1_eq (s : Option Nat) (p v : AV) (h : Hp) (x : Bid) (k : EK β) : storeF1 s p v h x k = storeE s [p, v] h x k := by
  cases p
  case ptr b o =>
    show iteF (scalF v) (iteF (Option.rec (motive := fun _ => Bool) true (fun n => Nat.beq 1 n) s) (avF v fun v => wrF b h (hgetF h b) (fun c k => setF o c v k) fun h => k .un h x) none) (avF v fun v => storeE s [.ptr b o, v] h x k) = _
    rw [avF_eq, avF_eq]
    cases hs : scalF v with
    | false => rfl
    | true =>
      show iteF _ (wrF b h (hgetF h b) (fun c k => setF o c v k) fun h => k .un h x) none = _
      rw [wrF_eq b o [v] h (hgetF h b) (fun c k => setF o c v k) (fun c k => setF_eq o c v k), hgetF_eq]
      have hok : okCells [v] = true := by rw [← okF_eq]; show Bool.rec (motive := fun _ => Bool) false true (scalF v) = true; rw [hs]
      have key : storeE s [.ptr b o, v] h x k = match Nat.beq 1 (match s with | none => 1 | some n => n) with | true => overObj o [v] b h (h.get b) fun h => k .un h x | false => none := by
        show cellsK v _ = _
        rw [cellsK_scal hs]; rfl
      rw [key]
      unfold overObj
      rw [hok]
      cases s with
      | none => rfl
      | some n => show iteF (Nat.beq 1 n) _ _ = _; simp only; cases Nat.beq 1 n <;> rfl
  all_goals rfl
theorem fillF_eq : ∀ (ps : List (Nat × Nat)) (vs z : List AV) (k : List AV → Option β), fillF ps vs z k = fillK ps vs z k
  | [], [], z, k => rfl
  | [], v :: vs, z, k => rfl
  | (o, n) :: ps, [], z, k => rfl
  | (o, n) :: ps, v :: vs, z, k => by
    show cellsF v (fun l => iteF (Nat.beq l.length n) (overF o z l fun z => fillF ps vs z k) none) = _
    rw [cellsF_eq]
    simp only [fillK]
    congr 1; funext l
    rw [overF_eq]
    simp only [fillF_eq ps]
    cases Nat.beq l.length n <;> rfl
theorem buildX_eq (z : List AV) (ps : List (Nat × Nat)) : (buildX z ps : NF β) = buildF z ps := by funext vs h x k; exact fillF_eq ps vs z _
theorem buildSliceX_eq (n : Nat) (z : List AV) (ps : List (Nat × Nat)) : (buildSliceX n z ps : NF β) = buildSliceF n z ps := by funext vs h x k; exact fillF_eq ps vs z _
theorem growF_eq (size n m : Nat) (old src : List AV) (h : Hp) (x : Bid) (k : EK β) : growF size n m old src h x k = growE size n m old src h x k := by
  unfold growF growE
  rw [freshF_eq]
  simp only [appF_eq, natF_eq, natK_eq, hputF_eq]
  rfl
theorem srcF_eq (size : Nat) (h : Hp) (n : Nat) (a : AV) (k : List AV → Option β) : srcF size h n a k = srcK size h n a k := by
  cases a
  case nils => cases n <;> rfl
  case slice b o m c =>
    show iteF (Nat.ble n m) (Nat.rec (motive := fun _ => Option β) (k []) (fun n' _ => knownF (hgetF h b) fun l => dropF o l fun l => takeF (Nat.mul (Nat.succ n') size) l k) n) none = _
    rw [hgetF_eq]
    simp only [knownF_eq, dropF_eq, takeF_eq, srcK]
    cases Nat.ble n m with
    | false => rfl
    | true => cases n <;> rfl
  all_goals rfl
theorem appendX_eq (size bytes : Nat) : (appendX size bytes : EF β) = appendE size bytes := by
  funext vs h x k
  unfold appendX appendE
  split
  · rename_i s a
    simp only
    congr 1; funext m
    rw [srcF_eq]
    congr 1; funext src
    simp only [okF_eq, growF_eq, knownF_eq, dropF_eq, takeF_eq, hputF_eq, hgetF_eq, natF_eq, natK_eq]
    show iteF (Nat.ble bytes 1024) (iteF (Nat.ble m 1000000) (iteF (Nat.beq src.length (m * size)) (iteF (okCells src) _ none) none) none) none = _
    cases h1 : Nat.ble bytes 1024
    · rfl
    cases h2 : Nat.ble m 1000000
    · rfl
    cases h3 : Nat.beq src.length (m * size)
    · rfl
    cases h4 : okCells src
    · rfl
    show _ = _
    simp only [Bool.and_self]
    show (match s with | _ => _) = _
    cases s
    case slice b o n c =>
      cases c with
      | ex c =>
        simp only
        cases Nat.ble n 1000000
        · rfl
        simp only
        cases Nat.ble (n + m) c
        · rfl
        simp only
        rw [wrF_eq b (o + n * size) src h (h.get b) (fun c k => overF (o + n * size) c src k) (fun c k => overF_eq _ c src k)]
        unfold overObj; rw [h4]; rfl
      | op g => rfl
      | em => rfl
    all_goals rfl
  · rename_i hno
    split
    · rename_i s a; exact absurd rfl (hno s a)
    · rfl
theorem loadU_eq (g : Option Nat) (a : AV) (h : Hp) (x : Bid) (κ : AV → Option AObj → Option β) : loadF g [a] h x κ = loadU g a h fun v => κ v none := by
  cases a
  case ptr b o =>
    show knownK (h.get b) _ = knownF (hgetF h b) _
    rw [knownF_eq, hgetF_eq]; simp only [partF_eq]
  all_goals rfl
theorem fieldAddrU_eq (off : Nat) (a : AV) (h : Hp) (x : Bid) (κ : AV → Option AObj → Option β) : fieldAddrF off [a] h x κ = fieldAddrU off a h fun v => κ v none := by
  cases a
  case ptr b o => show natK (o + off) (fun o => κ (.ptr b o) none) = natF (Nat.add o off) (fun o => κ (.ptr b o) none); rw [natK_eq, natF_eq]; rfl
  all_goals rfl
theorem extractU_eq (i : Nat) (a : AV) (h : Hp) (x : Bid) (κ : AV → Option AObj → Option β) : extractF i [a] h x κ = extractU i a h fun v => κ v none := by
  cases a
  case tup l => show getK l i _ = getF l i _; rw [getF_eq]; simp only [avK_eq]
  all_goals rfl
theorem arU_eq (op : BinOp) (a b : AV) (h : Hp) (x : Bid) (κ : AV → Option AObj → Option β) : arF op [a, b] h x κ = arU op (int2F op) a b h fun v => κ v none := by
  cases a <;> cases b
  case int.int kd m kd' n =>
    show (match kindEq kd kd' with | true => intOp op kd m n fun v => κ v none | false => none) = iteF (Nat.beq (kcF kd) (kcF kd')) (int2F op kd m n fun v => κ v none) none
    rw [int2F_eq, kcF_eq, kcF_eq]
    unfold kindEq
    cases Nat.beq (kindCode kd) (kindCode kd') <;> rfl
  all_goals rfl
/-! ### operations -/
variable {P : Program} {call : CALL β}
theorem selN_eq (op : NOp) (k : NF β → γ) : selN op k = k (nrun op) := by
  cases op
  case build z p => show k (buildX z p) = _; rw [buildX_eq]; rfl
  case buildSlice n z p => show k (buildSliceX n z p) = _; rw [buildSliceX_eq]; rfl
  all_goals rfl
def QuickOK (op : NOp) : Quick β → Prop
  | .u f => ∀ a h x (κ : AV → Option AObj → Option β), nrun op [a] h x κ = f a h fun v => κ v none
  | .b f => ∀ a b h x (κ : AV → Option AObj → Option β), nrun op [a, b] h x κ = f a b h fun v => κ v none
  | .pk => op = .pick
  | .al z => op = .alloc z
  | .bx => op = .box
  | .no => True
theorem quickN_ok (op : NOp) (k : Quick β → γ) : ∃ q, QuickOK op q ∧ quickN op k = k q := by
  cases op
  case mv => exact ⟨.u mvU, fun a h x κ => (avF_eq a fun v => κ v none).symm, rfl⟩
  case pick => exact ⟨.pk, rfl, rfl⟩
  case alloc z => exact ⟨.al z, rfl, rfl⟩
  case box => exact ⟨.bx, rfl, rfl⟩
  case load g => exact ⟨.u (loadU g), fun a h x κ => loadU_eq g a h x κ, rfl⟩
  case ar o => exact ⟨.b (arU o (int2F o)), fun a b h x κ => arU_eq o a b h x κ, rfl⟩
  case fieldAddr o => exact ⟨.u (fieldAddrU o), fun a h x κ => fieldAddrU_eq o a h x κ, rfl⟩
  case extract i => exact ⟨.u (extractU i), fun a h x κ => extractU_eq i a h x κ, rfl⟩
  all_goals exact ⟨.no, trivial, rfl⟩
theorem newF_eq (ob : Option AObj) (h : Hp) (x : Bid) (k : Hp → Bid → Option β) : newF ob h x k = newK ob h x k := by
  cases ob with
  | none => rfl
  | some o =>
    show freshF h x (fun y => hputF x o h fun h => k h y) = _
    rw [freshF_eq]; simp only [hputF_eq]; rfl
theorem same1_eq (v w : AV) (c : Option β) : same1 v w c = AV.sameK v w c := by
  cases v
  case int j a =>
    cases w
    case int k b =>
      show iteF (Nat.beq (kcF j) (kcF k)) (iteF (eqI a b) c none) none = _
      simp only [AV.sameK, AV.beq, kcF_eq, eqI_eq, kindEq]
      cases Nat.beq (kindCode j) (kindCode k) <;> cases intEq a b <;> rfl
    all_goals rfl
  case bool a =>
    cases w
    case bool b => cases a <;> cases b <;> (simp only [AV.sameK, AV.beq]; rfl)
    all_goals rfl
  case ptr b o =>
    cases w
    case ptr b' o' =>
      show iteF (Nat.beq o o') (iteF (b.beq b') c none) none = _
      simp only [AV.sameK, AV.beq]
      cases Nat.beq o o' <;> cases b.beq b' <;> rfl
    all_goals rfl
  all_goals rfl
theorem obF_eq (a b : Option AObj) (h : Hp) (id : Bid) (c : Option β) : obF a b h id c = obSame a b (stillThere h id b c) := by
  cases b with
  | none => cases a <;> rfl
  | some ob => rfl
def NeOK (P : Program) (call : CALL β) (op : NOp) (l : List Opd) (d : Dst β) (o : FOp β) : Prop :=
  ∀ t h x (κ : KT β), frun P call o t h x κ = evF l t fun vs => nrun op vs h x fun v ob => newK ob h x fun h x => d t v fun t => κ t h x
theorem neN (op : NOp) (l : List Opd) (d : Dst β) : NeOK P call op l d (.n (nrun op) l d) := by
  intro t h x κ
  show evF l t (fun vs => nrun op vs h x fun v ob => newF ob h x fun h x => d t v fun t => κ t h x) = _
  simp only [newF_eq]
theorem neF_ok (op : NOp) (l : List Opd) (d : Dst β) (k : FOp β → γ) : ∃ o, NeOK P call op l d o ∧ neF op l d k = k o := by
  unfold neF
  obtain ⟨q, hq, e⟩ := quickN_ok op fun q => Quick.rec (motive := fun _ => γ)
    (fun f => List.rec (motive := fun _ => γ) (selN op fun f => k (.n f l d)) (fun a r _ => List.rec (motive := fun _ => γ) (k (.u f a d)) (fun _ _ _ => selN op fun f => k (.n f l d)) r) l)
    (fun f => List.rec (motive := fun _ => γ) (selN op fun f => k (.n f l d)) (fun a r _ => List.rec (motive := fun _ => γ) (selN op fun f => k (.n f l d))
      (fun b r _ => List.rec (motive := fun _ => γ) (k (.b f a b d)) (fun _ _ _ => selN op fun f => k (.n f l d)) r) r) l)
    (List.rec (motive := fun _ => γ) (selN op fun f => k (.n f l d)) (fun a r _ => List.rec (motive := fun _ => γ) (selN op fun f => k (.n f l d)) (fun b r _ => List.rec (motive := fun _ => γ) (selN op fun f => k (.n f l d))
      (fun c r _ => List.rec (motive := fun _ => γ) (k (.pk a b c d)) (fun _ _ _ => selN op fun f => k (.n f l d)) r) r) r) l)
    (fun z => List.rec (motive := fun _ => γ) (k (.al z d)) (fun _ _ _ => selN op fun f => k (.n f l d)) l)
    (List.rec (motive := fun _ => γ) (selN op fun f => k (.n f l d)) (fun a r _ => List.rec (motive := fun _ => γ) (k (.bx a d)) (fun _ _ _ => selN op fun f => k (.n f l d)) r) l)
    (selN op fun f => k (.n f l d)) q
  rw [e]
  have hn : ∃ o, NeOK P call op l d o ∧ (selN op fun f => k (.n f l d)) = k o := ⟨_, neN op l d, by rw [selN_eq]⟩
  cases q with
  | no => exact hn
  | pk =>
    have hq : op = .pick := hq
    match l with
    | [] => exact hn
    | [a] => exact hn
    | [a, b] => exact hn
    | [a, b, c] =>
      refine ⟨.pk a b c d, fun t h x κ => ?_, rfl⟩
      subst hq
      show isBoolF (a t) (fun v => iteF v (avF (b t) fun v => d t v fun t => κ t h x) (avF (c t) fun v => d t v fun t => κ t h x))
        (avF (a t) fun c' => avF (b t) fun a' => avF (c t) fun b' => pickF [c', a', b'] h x fun v ob => newK ob h x fun h x => d t v fun t => κ t h x) =
        avF (a t) fun v => avF (b t) fun w => avF (c t) fun u => pickF [v, w, u] h x fun v ob => newK ob h x fun h x => d t v fun t => κ t h x
      simp only [avF_eq]
      cases a t
      case bool v => cases v <;> rfl
      all_goals rfl
    | a :: b :: c :: e :: r => exact hn
  | al z =>
    have hq : op = .alloc z := hq
    match l with
    | [] =>
      refine ⟨.al z d, fun t h x κ => ?_, rfl⟩
      subst hq
      show freshF h x (fun y => hputF x (.cells z) h fun h => d t (.ptr x 0) fun t => κ t h y) = newK (some (.cells z)) h x fun h x' => d t (.ptr x 0) fun t => κ t h x'
      rw [freshF_eq]; simp only [hputF_eq]; rfl
    | a :: r => exact hn
  | bx =>
    have hq : op = .box := hq
    match l with
    | [] => exact hn
    | [a] =>
      refine ⟨.bx a d, fun t h x κ => ?_, rfl⟩
      subst hq
      show cellsF (a t) (fun l => freshF h x fun y => hputF x (.cells l) h fun h => d t (.ptr x 0) fun t => κ t h y) = avF (a t) fun v => boxF [v] h x fun v ob => newK ob h x fun h x => d t v fun t => κ t h x
      rw [avF_eq, cellsF_eq]
      simp only [freshF_eq, hputF_eq]
      rfl
    | a :: b :: r => exact hn
  | u f =>
    match l with
    | [] => exact hn
    | [a] =>
      refine ⟨.u f a d, fun t h x κ => ?_, rfl⟩
      show f (a t) h (fun v => d t v fun t => κ t h x) = avF (a t) (fun v => evF [] t fun vs => nrun op (v :: vs) h x _)
      rw [avF_eq]
      exact (hq (a t) h x fun v ob => newK ob h x fun h x => d t v fun t => κ t h x).symm
    | a :: b :: r => exact hn
  | b f =>
    match l with
    | [] => exact hn
    | [a] => exact hn
    | [a, b] =>
      refine ⟨.b f a b d, fun t h x κ => ?_, rfl⟩
      show f (a t) (b t) h (fun v => d t v fun t => κ t h x) = avF (a t) (fun v => avF (b t) fun w => evF [] t fun vs => nrun op (v :: w :: vs) h x _)
      rw [avF_eq, avF_eq]
      exact (hq (a t) (b t) h x fun v ob => newK ob h x fun h x => d t v fun t => κ t h x).symm
    | a :: b :: c :: r => exact hn
def bare (P : Program) (call : CALL β) (o : COper) (t : Tm) (h : Hp) (x : Bid) (κ : KT β) : Option β :=
  evL o.args t fun vs => opRun P call o.op vs h x fun v h x => dstK o.dst v t fun t => κ t h x
theorem bareF_ok (o : COper) (k : FOp β → γ) : ∃ q, (∀ t h x (κ : KT β), frun P call q t h x κ = bare P call o t h x κ) ∧ bareF o (fun t v κ => dstK o.dst v t κ) k = k q := by
  obtain ⟨dst, guard, op, args⟩ := o
  unfold bareF
  rw [opdsF_eq]
  have hcst : ∀ (cop : COp) (z : γ), (cop = .ne .mv ∨ cop = .eff .assign) → (∃ q, (∀ t h x (κ : KT β), frun P call q t h x κ = bare P call ⟨dst, guard, cop, args⟩ t h x κ) ∧ z = k q) →
      ∃ q, (∀ t h x (κ : KT β), frun P call q t h x κ = bare P call ⟨dst, guard, cop, args⟩ t h x κ) ∧ cstF args (fun t v κ => dstK dst v t κ) k z = k q := by
    intro cop z hcop hz
    match args with
    | [] => exact hz
    | [.tmp p] => exact hz
    | [.cst v] =>
      refine ⟨.k v fun t v κ => dstK dst v t κ, fun t h x κ => ?_, rfl⟩
      rcases hcop with rfl | rfl <;> rfl
    | a :: b :: r => exact hz
  cases op with
  | ne op =>
    have hne : ∃ q, (∀ t h x (κ : KT β), frun P call q t h x κ = bare P call ⟨dst, guard, .ne op, args⟩ t h x κ) ∧ neF op (args.map evA) (fun t v κ => dstK dst v t κ) k = k q := by
      obtain ⟨q, h1, h2⟩ := neF_ok (P := P) (call := call) op (args.map evA) (fun t v κ => dstK dst v t κ) k
      refine ⟨q, fun t h x κ => ?_, h2⟩
      rw [h1 t h x κ, evFL]; rfl
    cases hm : isMvF op with
    | false => show ∃ q, _ ∧ Bool.rec (motive := fun _ => γ) _ _ (isMvF op) = _; rw [hm]; exact hne
    | true =>
      have : op = .mv := by cases op <;> first | rfl | cases hm
      show ∃ q, _ ∧ Bool.rec (motive := fun _ => γ) _ _ (isMvF op) = _
      rw [hm]
      exact hcst _ _ (.inl (by rw [this])) hne
  | eff op =>
    have hg : ∃ q, (∀ t h x (κ : KT β), frun P call q t h x κ = bare P call ⟨dst, guard, .eff op, args⟩ t h x κ) ∧ k (.g ⟨dst, none, .eff op, args⟩) = k q := ⟨_, fun t h x κ => rfl, rfl⟩
    have he : ∀ (f : EF β), (∀ vs h x κ, f vs h x κ = erun P call op vs h x κ) → ∃ q, (∀ t h x (κ : KT β), frun P call q t h x κ = bare P call ⟨dst, guard, .eff op, args⟩ t h x κ) ∧ k (.e f (args.map evA) fun t v κ => dstK dst v t κ) = k q := by
      intro f hf
      refine ⟨_, fun t h x κ => ?_, rfl⟩
      show evF (args.map evA) t (fun vs => f vs h x _) = _
      rw [evFL]; simp only [hf]; rfl
    cases op with
    | assign =>
      refine hcst _ _ (.inr rfl) ?_
      match args with
      | [] => exact hg
      | [a] =>
        refine ⟨.u mvU (evA a) fun t v κ => dstK dst v t κ, fun t h x κ => ?_, rfl⟩
        show avF (evA a t) _ = _
        rw [avF_eq]
        simp only [bare, evL_eq]; rfl
      | a :: b :: r => exact hg
    | store s =>
      match args with
      | [] => exact he _ fun _ _ _ _ => rfl
      | [a] => exact he _ fun _ _ _ _ => rfl
      | [a, b] =>
        refine ⟨.st s (evA a) (evA b) fun t v κ => dstK dst v t κ, fun t h x κ => ?_, rfl⟩
        show storeF1 s (evA a t) (evA b t) h x (fun v h x => dstK dst v t fun t => κ t h x) = _
        rw [storeF1_eq]
        simp only [bare, evL_eq]; rfl
      | a :: b :: c :: r => exact he _ fun _ _ _ _ => rfl
    | mapUpd e => exact he _ fun _ _ _ _ => rfl
    | append s b => exact he _ fun _ _ _ _ => by rw [appendX_eq]; rfl
    | copy s => exact he _ fun _ _ _ _ => rfl
    | clear z => exact he _ fun _ _ _ _ => rfl
    | delete e => exact he _ fun _ _ _ _ => rfl
    | callF f =>
      refine ⟨.c f (args.map evA) fun t v κ => dstK dst v t κ, fun t h x κ => ?_, rfl⟩
      show evF (args.map evA) t (fun vs => call f vs h x _) = _
      rw [evFL]; rfl
    | callV => exact hg
    | invoke name => exact hg
theorem fop_eq (o : COper) (t : Tm) (h : Hp) (x : Bid) (κ : KT β) : frun P call (fop o) t h x κ = normG o.guard t fun t => operK P call o t h x κ := by
  unfold fop
  rw [dstF_eq]
  obtain ⟨q, h1, h2⟩ := bareF_ok (P := P) (call := call) o fun op => Option.rec (motive := fun _ => FOp β) op (fun g => getOf g.1 fun p => .gd p g.2 (fun t v κ => dstK o.dst v t κ) o op) o.guard
  rw [h2]
  cases hg : o.guard with
  | none =>
    show frun P call q t h x κ = operK P call o t h x κ
    rw [h1]; unfold operK bare; rw [hg]; rfl
  | some g =>
    obtain ⟨p, w⟩ := g
    show frun P call (getOf p fun p => .gd p w (fun t v κ => dstK o.dst v t κ) o q) t h x κ = _
    rw [getOf_eq]
    show isBoolF (t.get p) (fun b => iteF (Bool.rec (motive := fun _ => Bool) (notF b) b w) (frun P call q t h x κ) (dstK o.dst (.tup []) t fun t => κ t h x)) (normG o.guard t fun t => operK P call o t h x κ) = _
    rw [hg]
    show _ = normV p t (fun t => operK P call o t h x κ) (t.get p)
    cases hp : t.get p
    case bool b =>
      show iteF (Bool.rec (motive := fun _ => Bool) (notF b) b w) (frun P call q t h x κ) (dstK o.dst (.tup []) t fun t => κ t h x) = operK P call o t h x κ
      rw [h1]
      unfold operK
      rw [hg]
      simp only [guardK, hp]
      cases b <;> cases w <;> rfl
    all_goals (show normV p t (fun t => operK P call o t h x κ) (t.get p) = _; rw [hp])
theorem fregs_eq : ∀ (l : List COper) (t : Tm) (h : Hp) (x : Bid) (κ : KT β), fregs P call (fops l) t h x κ = regsK P call l t h x κ
  | [], t, h, x, κ => rfl
  | o :: l, t, h, x, κ => by
    show frun P call (fop o) t h x (fun t h x => fregs P call (fops l) t h x κ) = _
    rw [fop_eq]
    simp only [regsK, fregs_eq l]
theorem neRF_ok (o : COper) (op : NOp) (k : NR → γ) : ∃ r, (∀ t h x, r t h x = neR o op t h x) ∧ neRF o op k = k r := by
  have h0 : ∃ r, (∀ t h x, r t h x = neR o op t h x) ∧ k (neR o op) = k r := ⟨_, fun _ _ _ => rfl, rfl⟩
  obtain ⟨dst, guard, cop, args⟩ := o
  cases guard with
  | some g => exact h0
  | none =>
    have hs : ∀ t h x, neR ⟨dst, none, cop, args⟩ op t h x = evF (args.map evA) t fun vs => nrun op vs h x fun v ob => some (v, ob) := fun t h x => by rw [evFL]; rfl
    unfold neRF
    show ∃ r, _ ∧ (opdsF args fun l => quickN (β := AV × Option AObj) op _) = _
    rw [opdsF_eq]
    obtain ⟨q, hq, e⟩ := quickN_ok (β := AV × Option AObj) op fun q => Quick.rec (motive := fun _ => γ)
      (fun f => List.rec (motive := fun _ => γ) (k (neR ⟨dst, none, cop, args⟩ op)) (fun a r _ => List.rec (motive := fun _ => γ) (k fun t h x => f (a t) h fun v => some (v, none)) (fun _ _ _ => k (neR ⟨dst, none, cop, args⟩ op)) r) (args.map evA))
      (fun f => List.rec (motive := fun _ => γ) (k (neR ⟨dst, none, cop, args⟩ op)) (fun a r _ => List.rec (motive := fun _ => γ) (k (neR ⟨dst, none, cop, args⟩ op))
        (fun b r _ => List.rec (motive := fun _ => γ) (k fun t h x => f (a t) (b t) h fun v => some (v, none)) (fun _ _ _ => k (neR ⟨dst, none, cop, args⟩ op)) r) r) (args.map evA))
      (k (neR ⟨dst, none, cop, args⟩ op)) (fun _ => k (neR ⟨dst, none, cop, args⟩ op)) (k (neR ⟨dst, none, cop, args⟩ op))
      (selN op fun f => k fun t h x => evF (args.map evA) t fun vs => f vs h x fun v ob => some (v, ob)) q
    rw [e]
    generalize hl : args.map evA = l at hs
    cases q with
    | pk => exact h0
    | al z => exact h0
    | bx => exact h0
    | no =>
      refine ⟨_, fun t h x => ?_, selN_eq op _⟩
      rw [hs]
    | u f =>
      match l with
      | [] => exact h0
      | [a] =>
        refine ⟨_, fun t h x => ?_, rfl⟩
        show f (a t) h (fun v => some (v, none)) = _
        rw [hs]
        show _ = avF (a t) (fun v => nrun op [v] h x _)
        rw [avF_eq]
        exact (hq (a t) h x fun v ob => some (v, ob)).symm
      | a :: b :: r => exact h0
    | b f =>
      match l with
      | [] => exact h0
      | [a] => exact h0
      | [a, b] =>
        refine ⟨_, fun t h x => ?_, rfl⟩
        show f (a t) (b t) h (fun v => some (v, none)) = _
        rw [hs]
        show _ = avF (a t) (fun v => avF (b t) fun w => nrun op [v, w] h x _)
        rw [avF_eq, avF_eq]
        exact (hq (a t) (b t) h x fun v ob => some (v, ob)).symm
      | a :: b :: c :: r => exact h0
def PRel : List FPend → List Pend → Prop
  | [], ps => ps = []
  | f :: fs, ps => ∃ p r, ps = p :: r ∧ (f.last = p.last ∧ f.id = p.id ∧ f.v = p.v ∧ f.ob = p.ob ∧ ∀ t h x, f.r t h x = neR p.o p.op t h x) ∧ PRel fs r
theorem fcheck_eq : ∀ (fs : List FPend) (ps : List Pend), PRel fs ps → ∀ (st : Nat) (t : Tm) (h : Hp) (k : Option β), fcheck st t h fs k = checkAll st t h ps k
  | [], ps, hr, st, t, h, k => by simp only [PRel] at hr; subst hr; rfl
  | f :: fs, ps, hr, st, t, h, k => by
    simp only [PRel] at hr
    obtain ⟨p, r, rfl, ⟨h1, h2, h3, h4, h5⟩, hr⟩ := hr
    obtain ⟨last, id, v, ob, fr⟩ := f
    simp only at h1 h2 h3 h4 h5
    subst h1 h2 h3 h4
    show iteF (Nat.ble st p.last) (Option.rec (motive := fun _ => Option β) none (fun vo => Prod.rec (motive := fun _ => Option β) (fun v' ob' => same1 v' p.v (obF ob' p.ob h p.id (fcheck st t h fs k))) vo) (fr t h p.id)) (fcheck st t h fs k) = _
    rw [fcheck_eq fs r hr, h5]
    simp only [checkAll, checkOne]
    cases Nat.ble st p.last with
    | false => rfl
    | true =>
      cases neR p.o p.op t h p.id with
      | none => rfl
      | some vo =>
        obtain ⟨v', ob'⟩ := vo
        show same1 v' p.v (obF ob' p.ob h p.id _) = sameAs h p v' ob' _
        rw [same1_eq, obF_eq]; rfl
theorem frunD_eq : ∀ (l : List DIt) (st : Nat) (fs : List FPend) (ps : List Pend) (t : Tm) (h : Hp) (x : Bid) (k : KT β), PRel fs ps → frunD P call (fdis l) st fs t h x k = runD P call l st ps t h x k
  | [], st, fs, ps, t, h, x, k, hr => by show fcheck st t h fs (k t h x) = _; rw [fcheck_eq fs ps hr]; rfl
  | .ne i o op last :: l, st, fs, ps, t, h, x, k, hr => by
    have e : (fdi (.ne i o op last) : FDI β) = dstF (β := β) o.dst fun d => neRF o op fun r => .ne last r d := rfl
    rw [dstF_eq] at e
    obtain ⟨r, h1, h2⟩ := neRF_ok o op fun r => FDI.ne last r (fun t v κ => dstK o.dst v t κ : Dst β)
    rw [h2] at e
    show FDI.rec (motive := fun _ => Option β)
      (fun last r d => Option.rec (motive := fun _ => Option β) none (fun vo => Prod.rec (motive := fun _ => Option β) (fun v ob =>
        iteF (okOb ob) (newF ob h x fun h y => d t v fun t => frunD P call (fdis l) st (⟨last, x, v, ob, r⟩ :: fs) t h y k) none) vo) (r t h x))
      (fun q => fcheck st t h fs (frun P call q t h x fun t h x => natF (Nat.succ st) fun st => frunD P call (fdis l) st fs t h x k)) (fdi (.ne i o op last)) = _
    rw [e]
    show Option.rec (motive := fun _ => Option β) none (fun vo => Prod.rec (motive := fun _ => Option β) (fun v ob =>
        iteF (okOb ob) (newF ob h x fun h y => dstK o.dst v t fun t => frunD P call (fdis l) st (⟨last, x, v, ob, r⟩ :: fs) t h y k) none) vo) (r t h x) = _
    rw [h1]
    simp only [runD]
    cases neR o op t h x with
    | none => rfl
    | some vo =>
      obtain ⟨v, ob⟩ := vo
      show iteF (okOb ob) _ none = _
      simp only
      cases okOb ob with
      | false => rfl
      | true =>
        show newF ob h x _ = _
        rw [newF_eq]
        have hr' : PRel (⟨last, x, v, ob, r⟩ :: fs) (⟨i, o, op, last, x, v, ob⟩ :: ps) := by
          simp only [PRel]; exact ⟨_, _, rfl, ⟨rfl, rfl, rfl, rfl, h1⟩, hr⟩
        simp only [frunD_eq l st _ _ _ _ _ k hr']
  | .eff i o op :: l, st, fs, ps, t, h, x, k, hr => by
    obtain ⟨q, h1, h2⟩ : ∃ q, (∀ t h x (κ : KT β), frun P call q t h x κ = operK P call o t h x κ) ∧ (fdi (.eff i o op) : FDI β) = .eff q := by
      obtain ⟨dst, guard, cop, args⟩ := o
      cases guard with
      | some g => exact ⟨.g _, fun t h x κ => rfl, rfl⟩
      | none =>
        have e : (fdi (.eff i ⟨dst, none, cop, args⟩ op) : FDI β) = dstF (β := β) dst fun d => bareF ⟨dst, none, cop, args⟩ d fun q => .eff q := rfl
        rw [dstF_eq] at e
        obtain ⟨q, h1, h2⟩ := bareF_ok (P := P) (call := call) ⟨dst, none, cop, args⟩ fun q => (FDI.eff q : FDI β)
        exact ⟨q, fun t h x κ => by rw [h1]; rfl, e.trans h2⟩
    show FDI.rec (motive := fun _ => Option β)
      (fun last r d => Option.rec (motive := fun _ => Option β) none (fun vo => Prod.rec (motive := fun _ => Option β) (fun v ob =>
        iteF (okOb ob) (newF ob h x fun h y => d t v fun t => frunD P call (fdis l) st (⟨last, x, v, ob, r⟩ :: fs) t h y k) none) vo) (r t h x))
      (fun q => fcheck st t h fs (frun P call q t h x fun t h x => natF (Nat.succ st) fun st => frunD P call (fdis l) st fs t h x k)) (fdi (.eff i o op)) = _
    rw [h2]
    show fcheck st t h fs (frun P call q t h x fun t h x => natF (Nat.succ st) fun st => frunD P call (fdis l) st fs t h x k) = _
    rw [fcheck_eq fs ps hr, h1]
    simp only [runD, natF_eq, natK_eq, frunD_eq l _ _ _ _ _ _ k hr]
theorem divs_none {all : List DIt} : ∀ (l l0 : List DIt) (t : Tm) (k : Tm → Option β), List.rec (motive := fun _ => Option (List DIt)) none (fun it _ ih => DIt.rec (motive := fun _ => Option (List DIt))
    (fun _ o op _ => Option.rec (motive := fun _ => Option (List DIt)) ih (fun _ => some l0) (divAt op o.args)) (fun _ _ _ => ih) it) l = none → normD all l t k = k t
  | [], l0, t, k, _ => rfl
  | .ne i o op last :: l, l0, t, k, h => by
    simp only [normD]
    cases hd : divAt op o.args with
    | none => 
      have h' : Option.rec (motive := fun _ => Option (List DIt)) (List.rec (motive := fun _ => Option (List DIt)) none (fun it _ ih => DIt.rec (motive := fun _ => Option (List DIt))
        (fun _ o op _ => Option.rec (motive := fun _ => Option (List DIt)) ih (fun _ => some l0) (divAt op o.args)) (fun _ _ _ => ih) it) l) (fun _ => some l0) (divAt op o.args) = none := h
      rw [hd] at h'
      exact divs_none l l0 t k h'
    | some p =>
      have h' : Option.rec (motive := fun _ => Option (List DIt)) (List.rec (motive := fun _ => Option (List DIt)) none (fun it _ ih => DIt.rec (motive := fun _ => Option (List DIt))
        (fun _ o op _ => Option.rec (motive := fun _ => Option (List DIt)) ih (fun _ => some l0) (divAt op o.args)) (fun _ _ _ => ih) it) l) (fun _ => some l0) (divAt op o.args) = none := h
      rw [hd] at h'
      cases h'
  | .eff i o op :: l, l0, t, k, h => by simp only [normD]; exact divs_none l l0 t k h
theorem divs_some : ∀ (l l0 l1 : List DIt), List.rec (motive := fun _ => Option (List DIt)) none (fun it _ ih => DIt.rec (motive := fun _ => Option (List DIt))
    (fun _ o op _ => Option.rec (motive := fun _ => Option (List DIt)) ih (fun _ => some l0) (divAt op o.args)) (fun _ _ _ => ih) it) l = some l1 → l1 = l0
  | [], l0, l1, h => by cases h
  | .ne i o op last :: l, l0, l1, h => by
    have h' : Option.rec (motive := fun _ => Option (List DIt)) (List.rec (motive := fun _ => Option (List DIt)) none (fun it _ ih => DIt.rec (motive := fun _ => Option (List DIt))
      (fun _ o op _ => Option.rec (motive := fun _ => Option (List DIt)) ih (fun _ => some l0) (divAt op o.args)) (fun _ _ _ => ih) it) l) (fun _ => some l0) (divAt op o.args) = some l1 := h
    cases hd : divAt op o.args with
    | none => rw [hd] at h'; exact divs_some l l0 l1 h'
    | some p => rw [hd] at h'; injection h' with h'; exact h'.symm
  | .eff i o op :: l, l0, l1, h => divs_some l l0 l1 h
theorem normDF_eq (l : List DIt) (t : Tm) (k : Tm → Option β) : normDF (divsF l) t k = normD l l t k := by
  cases h : divsF l with
  | none => exact (divs_none l l t k h).symm
  | some l1 => have := divs_some l l l1 h; subst this; rfl
/-! ### code -/
theorem resF_eq : ∀ (l : List RV) (t : Tm) (h : Hp) (k : List AV → Option β), resF (frvs l) t h k = resK l t h k
  | [], t, h, k => rfl
  | .tmp p :: l, t, h, k => by
    show FRV.rec (motive := fun _ => Option β) (fun o => avF (o t) fun v => resF (frvs l) t h fun vs => k (v :: vs)) _ (getOf p fun o => FRV.tmp o) = _
    rw [getOf_eq]
    show avF (t.get p) _ = _
    rw [avF_eq]
    simp only [resK, avK_eq]
    exact resF_eq l t h _
  | .cell p a :: l, t, h, k => by
    show ptrF (t.get p) (fun b o => knownF (hgetF h b) fun c => partF a c o fun v => resF (frvs l) t h fun vs => k (v :: vs)) none = _
    simp only [resK]
    cases t.get p
    case ptr b o =>
      show knownF (hgetF h b) _ = knownK (h.get b) _
      rw [knownF_eq, hgetF_eq]; simp only [partF_eq, resF_eq l]
    all_goals rfl
theorem oneF_eq (l : List AV) (k : AV → Option β) : oneF l k = oneK l k := by
  match l with
  | [] => rfl
  | [v] => rfl
  | v :: w :: l => rfl
theorem finF_eq (res : List RV) (k : EK β) : finF (frvs res) k = finK res k := by
  funext e t h x
  cases e with
  | nrm => show resF (frvs res) t h _ = _; rw [resF_eq]; simp only [oneF_eq, finK]
  | ext id => rfl
  | ret => show resF (frvs res) t h _ = _; rw [resF_eq]; simp only [oneF_eq, finK]
def putD (i : Nat) : Dst β := fun t v κ => Tm.putK (.ofNat i) v t κ
theorem putF_eq : ∀ (vs : List AV) (i : Nat) (ds : List (Dst β)) (t : Tm) (k : Tm → Option β), (∀ j d, ds[j]? = some d → d = putD (i + j)) → putF vs i ds t k = putAll vs i t k
  | [], i, ds, t, k, _ => rfl
  | v :: vs, i, [], t, k, _ => rfl
  | v :: vs, i, d :: ds, t, k, hd => by
    show d t v (fun t => putF vs (Nat.succ i) ds t k) = _
    have e := hd 0 d rfl
    subst e
    simp only [putD, Nat.add_zero, putAll, natK_eq]
    have : ∀ t, putF vs (Nat.succ i) ds t k = putAll vs (Nat.succ i) t k := fun t => putF_eq vs (Nat.succ i) ds t k fun j d hj => by
      have := hd (j + 1) d (by simpa using hj)
      rw [this]; congr 1; omega
    simp only [this]
theorem argDs_eq : (argDs : List (Dst β)) = [putD 0, putD 1, putD 2, putD 3, putD 4, putD 5, putD 6, putD 7] := by
  unfold argDs; simp only [dstOf_eq]; rfl
theorem frunFun_eq {T : CALL β → CALL β} {n : Nat} (hex : ∀ c, fexecT (β := β) P T n (fcomp c) = execT P T n c) (vs : List AV) (h : Hp) (x : Bid) (k : EK β) (m : Nat) (code : CC) (res : List RV) :
    frunFun (fexecT P T n) vs h x k ⟨m, fcomp code, frvs res⟩ = runFun (execT P T n) vs h x k ⟨m, code, res⟩ := by
  show iteF (Nat.ble vs.length m) (putF vs 0 argDs e3 fun t => fexecT P T n (fcomp code) t h x (finF (frvs res) k)) none = _
  rw [putF_eq vs 0 argDs e3 _ (by
    rw [argDs_eq]
    intro j d hj
    match j, hj with
    | 0, hj => simp at hj; simp [hj]
    | 1, hj => simp at hj; simp [hj]
    | 2, hj => simp at hj; simp [hj]
    | 3, hj => simp at hj; simp [hj]
    | 4, hj => simp at hj; simp [hj]
    | 5, hj => simp at hj; simp [hj]
    | 6, hj => simp at hj; simp [hj]
    | 7, hj => simp at hj; simp [hj]
    | j + 8, hj => simp at hj)]
  rw [finF_eq, hex]
  simp only [runFun]
  cases Nat.ble vs.length m <;> rfl
theorem fcall_step {T : CALL β → CALL β} {n : Nat} (hex : ∀ c, fexecT (β := β) P T n (fcomp c) = execT P T n c) : fcallOf (β := β) P (fexecT P T n) = callOf P (execT P T n) := by
  funext f vs h x k
  show Option.rec (motive := fun _ => Option β) none (fun cf => frunFun (fexecT P T n) vs h x k cf) (ffun P f) = _
  unfold callOf ffun
  cases compFun P f with
  | none => rfl
  | some cf =>
    obtain ⟨m, code, res⟩ := cf
    exact frunFun_eq hex vs h x k m code res
theorem seqF_eq {T : CALL β → CALL β} {n : Nat} (hex : ∀ c, fexecT (β := β) P T n (fcomp c) = execT P T n c) (b : CC) (k : KX β) : seqF (fexecT P T n) (fcomp b) k = seqK (execT P T n) b k := by
  funext e
  cases e with
  | nrm => funext t h x; show fexecT P T n (fcomp b) t h x k = _; rw [hex]; rfl
  | ext id => rfl
  | ret => rfl
theorem blockF_eq (id : Nat) (k : KX β) : blockF id k = blockK id k := by
  funext e
  cases e with
  | nrm => rfl
  | ext j =>
    funext t h x
    show iteF (Nat.beq j id) _ _ = _
    simp only [blockK]
    cases Nat.beq j id <;> rfl
  | ret => rfl
theorem fexec_eq {T : CALL β → CALL β} : ∀ (n : Nat) (c : CC), fexecT (β := β) P T n (fcomp c) = execT P T n c
  | 0, c => by funext t h x k; rfl
  | n + 1, c => by
    have hex := fexec_eq (T := T) n
    show fstep P (fexecT P T n) (T (fcallOf P (fexecT P T n))) (fcomp c) = stepC P (execT P T n) (T (callOf P (execT P T n))) c
    rw [fcall_step hex]
    funext t h x k
    cases c with
    | skip => rfl
    | reg ops => exact fregs_eq ops t h x (k .nrm)
    | regD its =>
      show normDF (divsF its) t (fun t => frunD P (T (callOf P (execT P T n))) (fdis its) 0 [] t h x (k .nrm)) = normD its its t fun t => runD P (T (callOf P (execT P T n))) its 0 [] t h x (k .nrm)
      rw [normDF_eq]
      simp only [frunD_eq its 0 [] [] _ _ _ _ rfl]
    | seq a b =>
      show fexecT P T n (fcomp a) t h x (seqF (fexecT P T n) (fcomp b) k) = execT P T n a t h x (seqK (execT P T n) b k)
      rw [hex, seqF_eq hex]
    | cond c a b =>
      show fstep P (fexecT P T n) _ (opdF c fun o => .cond o c (fcomp a) (fcomp b)) t h x k = _
      rw [opdF_eq]
      show isBoolF (evA c t) (fun v => iteF v (fexecT P T n (fcomp a) t h x k) (fexecT P T n (fcomp b) t h x k)) (normC c t fun t => evK c t (condS (fexecT P T n (fcomp a)) (fexecT P T n (fcomp b)) t h x k)) = normC c t fun t => evK c t (condK (execT P T n) a b t h x k)
      rw [hex, hex]
      have hc : ∀ t, condS (execT P T n a) (execT P T n b) t h x k = condK (execT P T n) a b t h x k := by
        intro t; funext v
        cases v
        case bool b => cases b <;> rfl
        all_goals rfl
      simp only [hc]
      cases he : evA c t
      case bool v =>
        show iteF v (execT P T n a t h x k) (execT P T n b t h x k) = _
        have hn : normC c t (fun t => evK c t (condK (execT P T n) a b t h x k)) = evK c t (condK (execT P T n) a b t h x k) := by
          cases c with
          | cst v => rfl
          | tmp p =>
            show normV p t _ (t.get p) = _
            have : t.get p = .bool v := he
            rw [this]; rfl
        rw [hn, evK_eq, he]
        cases v <;> rfl
      all_goals rfl
    | block id c =>
      show fexecT P T n (fcomp c) t h x (blockF id k) = execT P T n c t h x (blockK id k)
      rw [hex, blockF_eq]
    | loop c =>
      show fexecT P T n (fcomp c) t h x (seqF (fexecT P T n) (fcomp (.loop c)) k) = execT P T n c t h x (seqK (execT P T n) (.loop c) k)
      rw [hex, seqF_eq hex]
    | exit id => rfl
    | ret => rfl
    | bad => rfl
theorem fcall_eq {T : CALL β → CALL β} (n : Nat) : fcallOf (β := β) P (fexecT P T n) = callOf P (execT P T n) := fcall_step (fexec_eq n)
end
theorem calledF {β : Type} {P : Program} (n f : Nat) (vs : List AV) (k : EK β) (r : β) (hrun : fcallOf P (fexec P n) f vs f5 b0 k = some r) (w : World) (args : Array Value) (hv : VRels (fun _ => none) vs args.toList) :
    Calls P f args w fun e w' => (∃ v h' x' cv μ', k v h' x' = some r ∧ e = .returned cv ∧ VRel μ' v cv ∧ HR μ' h'.get w' ∧ Fr (fun _ => none) f5.get w μ' h'.get w') ∧ Go.RowKit.Below w.heap.size w w' :=
  called n f vs k r (by rw [← fcall_eq]; exact hrun) w args hv
end Go.Proofs.Ytpcocfdgcihpdaa.Eng
namespace Go.Proofs.Ytpcocfdgcihpdaa.Eng
open Go
def nd {β : Type} (c : Bool) (x y : Option β) : Option β :=
  match c with
  | true => x
  | false => y
theorem nd_true {β : Type} (x y : Option β) : nd true x y = x := rfl
theorem nd_false {β : Type} (x y : Option β) : nd false x y = y := rfl
def chain {β : Type} : List (Bool × Bool × Option β) → Option β → Option β
  | [], r => r
  | (c, w, z) :: l, r => match c with
    | true => match w with
      | true => chain l r
      | false => z
    | false => match w with
      | true => z
      | false => chain l r
end Go.Proofs.Ytpcocfdgcihpdaa.Eng
namespace Go.Proofs.Ytpcocfdgcihpdaa.Eng
open Go Go.RowKit
def cellsI {γ : Type} : List AV → (List Int → Option γ) → Option γ
  | [], k => k []
  | .int .u8 n :: l, k => cellsI l fun l => k (n :: l)
  | .sint .u8 n _ :: l, k => cellsI l fun l => k (n :: l)
  | _, _ => none
theorem cellsI_ok {γ : Type} {μ : Inj} {r : γ} : ∀ {l : List AV} {vs : List Value} {k : List Int → Option γ}, VRels μ l vs → cellsI l k = some r → ∃ bs : List Int, k bs = some r ∧ vs = bs.map (Value.int .u8)
  | [], vs, k, hv, h => by simp only [VRels] at hv; exact ⟨[], h, by rw [hv]; rfl⟩
  | a :: l, vs, k, hv, h => by
    simp only [VRels] at hv
    obtain ⟨v, vs, rfl, h1, h2⟩ := hv
    unfold cellsI at h
    split at h
    · rename_i e; cases e
    · rename_i n l' e
      injection e with e1 e2; subst e1 e2
      simp only [VRel] at h1; subst h1
      obtain ⟨bs, h3, rfl⟩ := cellsI_ok h2 h
      exact ⟨n :: bs, h3, by simp⟩
    · rename_i n g l' e
      injection e with e1 e2; subst e1 e2
      simp only [VRel] at h1; subst h1
      obtain ⟨bs, h3, rfl⟩ := cellsI_ok h2 h
      exact ⟨n :: bs, h3, by simp⟩
    · cases h
def neK (e : Int) : List Int → Option (Int × List Int)
  | [] => none
  | a :: l => some (e, a :: l)
def outK : EK (Int × List Int) := fun v h _ => match v with
  | .tup [.nils, .int .i64 e] => some (e, [])
  | .tup [.slice b 0 n (.op 0), .int .i64 e] => match h.get b with
    | .opn l 1 => match Nat.beq l.length n with
      | true => cellsI l fun l => neK e l
      | false => none
    | _ => none
  | .tup [.slice b 0 n (.ex m), .int .i64 e] => match h.get b with
    | .cells l => match Nat.beq l.length n && Nat.beq m n with
      | true => cellsI l fun l => neK e l
      | false => none
    | _ => none
  | _ => none
def BytesAt (w w' : World) (bs : List Int) (v : Value) : Prop :=
  ∃ (blk base cap : Nat) (arr : Array Value) (t : TypeId) (fr : Nat × Nat), v = .slice (some ⟨blk, base, none⟩) bs.length cap ∧ w.heap.size ≤ blk ∧ w'.heap[blk]? = some (.cells arr t fr) ∧ unfrozen arr.size fr ∧
    bs.length ≤ cap ∧ base + cap ≤ arr.size ∧ (arr.toList.drop base).take bs.length = bs.map (Value.int .u8)
def BytesRes (w w' : World) (e : Int) (bs : List Int) (cv : Value) : Prop :=
  (bs = [] ∧ cv = .tuple #[.slice none 0 0, .int .i64 e]) ∨ (bs ≠ [] ∧ ∃ v, BytesAt w w' bs v ∧ cv = .tuple #[v, .int .i64 e])
theorem tup2 {μ : Inj} {a b : AV} {cv : Value} (h : VRel μ (.tup [a, b]) cv) : ∃ x y, cv = .tuple #[x, y] ∧ VRel μ a x ∧ VRel μ b y := by
  simp only [VRel, VRels] at h
  obtain ⟨cs, rfl, x, r, h1, hx, y, r2, rfl, hy, rfl⟩ := h
  refine ⟨x, y, ?_, hx, hy⟩
  congr 1
  exact Array.toList_inj.1 (by simpa using h1)
theorem outK_ok {w w' : World} {v : AV} {h : Hp} {x : Bid} {μ : Inj} {cv : Value} {e : Int} {bs : List Int} (hk : outK v h x = some (e, bs)) (hv : VRel μ v cv) (hr : HR μ h.get w') (hf : Fr (fun _ => none) f5.get w μ h.get w') : BytesRes w w' e bs cv := by
  have hnew : ∀ b l, μ b = some l → live (h.get b) = true → w.heap.size ≤ l.blk := by
    intro b l hb hl
    rcases hf.used l.blk ⟨b, l, hb, hl, rfl⟩ with ⟨_, _, hu, _⟩ | hu
    · cases hu
    · exact hu
  unfold outK at hk
  split at hk
  · rename_i e0
    obtain ⟨p, q, rfl, hp, hq⟩ := tup2 hv
    simp only [VRel] at hp hq
    subst hp hq
    injection hk with hk; injection hk with h1 h2; subst h1 h2
    exact .inl ⟨rfl, rfl⟩
  · rename_i b n e0
    obtain ⟨p, q, rfl, hp, hq⟩ := tup2 hv
    simp only [VRel, SlRel] at hp hq
    obtain ⟨l, hl, hp1, hp2⟩ := hp
    subst hp1 hq
    split at hk
    · rename_i c hc
      split at hk
      · rename_i hn; rw [Nat.beq_eq] at hn
        have hob := hr.ok b l hl
        rw [hc] at hob
        obtain ⟨arr, t, fr, h1, h2, h3, h4⟩ := hob
        obtain ⟨bs', h5, h6⟩ := cellsI_ok h4 hk
        have h5' : bs' ≠ [] ∧ (e0, bs') = (e, bs) := by cases bs' <;> simp [neK] at h5 ⊢; exact h5
        obtain ⟨hne, h5⟩ := h5'
        injection h5 with h7 h8; subst h7 h8
        have hlen : c.length = bs'.length := by have := congrArg List.length h6; have h9 := h4.length; simp only [List.length_map] at this; omega
        refine .inr ⟨hne, _, ⟨l.blk, l.base, l.cap, arr, t, fr, ?_, hnew b l hl (by rw [hc]; rfl), h1, h2, by omega, by omega, by rw [← hlen]; exact h6⟩, rfl⟩
        simp only [Nat.add_zero, Nat.sub_zero]; rw [← hlen, hn]
      · cases hk
    · cases hk
  · rename_i b n m e0
    obtain ⟨p, q, rfl, hp, hq⟩ := tup2 hv
    simp only [VRel, SlRel] at hp hq
    obtain ⟨l, hl, hp1⟩ := hp
    subst hp1 hq
    split at hk
    · rename_i c hc
      split at hk
      · rename_i hn; rw [Bool.and_eq_true, Nat.beq_eq, Nat.beq_eq] at hn
        have hob := hr.ok b l hl
        rw [hc] at hob
        obtain ⟨hb0, arr, t, h1, h4⟩ := hob
        obtain ⟨bs', h5, h6⟩ := cellsI_ok h4 hk
        have h5' : bs' ≠ [] ∧ (e0, bs') = (e, bs) := by cases bs' <;> simp [neK] at h5 ⊢; exact h5
        obtain ⟨hne, h5⟩ := h5'
        injection h5 with h7 h8; subst h7 h8
        have hlen : c.length = bs'.length := by have := congrArg List.length h6; have h9 := h4.length; simp only [List.length_map] at this; omega
        have hsz : arr.size = bs'.length := by have := congrArg List.length h6; simpa using this
        refine .inr ⟨hne, _, ⟨l.blk, 0, m, arr, t, (0, 0), ?_, hnew b l hl (by rw [hc]; rfl), h1, ?_, by omega, by omega, ?_⟩, rfl⟩
        · rw [hb0]; simp only [Nat.add_zero]; rw [← hlen, hn.1]
        · intro i _ hh; exact absurd hh.2 (Nat.not_lt_zero _)
        · rw [List.drop_zero, h6, List.take_of_length_le (by simp)]
      · cases hk
    · cases hk
  · cases hk
theorem bytes_call {P : Program} {n f : Nat} {vs : List AV} {e : Int} {bs : List Int} (hrun : fcallOf P (fexec P n) f vs f5 b0 outK = some (e, bs)) (w : World) (args : Array Value) (hv : VRels (fun _ => none) vs args.toList) :
    Calls P f args w fun en w' => (∃ cv, en = .returned cv ∧ BytesRes w w' e bs cv) ∧ Below w.heap.size w w' := by
  refine (calledF n f vs outK _ hrun w args hv).mono fun en w' h => ?_
  obtain ⟨⟨v, h', x', cv, μ', h1, rfl, h2, h3, h4⟩, hb⟩ := h
  exact ⟨⟨cv, rfl, outK_ok h1 h2 h3 h4⟩, hb⟩
/-! ### a contract stands in for the call -/
section
variable {β : Type}
def mkCells : List Int → (List AV → Option β) → Option β
  | [], k => k []
  | n :: l, k => intK n fun n => mkCells l fun l => k (.int .u8 n :: l)
def resT (e : Int) (bs : List Int) (h : Hp) (x : Bid) (k : EK β) : Option β := match bs with
  | [] => intK e fun e => k (.tup [.nils, .int .i64 e]) h x
  | _ :: _ => mkCells bs fun l => natK l.length fun m => intK e fun e => freshK h x fun y => Hp.putK x (.opn l 1) h fun h => k (.tup [.slice x 0 m (.op 0), .int .i64 e]) h y
end
end Go.Proofs.Ytpcocfdgcihpdaa.Eng
