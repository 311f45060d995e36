/-
  THE ENGINE, PART X: the same evaluator, made for the kernel's speed: recursors alone, operands and places as closures that are made once. Definitions alone.
-/
import Derived.Test.YtpcocfdgcihpdaaEngB
set_option maxHeartbeats 64000000
set_option maxRecDepth 1000000
set_option linter.unusedVariables false
set_option linter.unusedSimpArgs false
namespace Go.Proofs.Ytpcocfdgcihpdaa.Eng
open Go
set_option linter.unusedVariables false
section
variable {α β γ : Type}
abbrev Opd := Tm → AV
abbrev Dst (β : Type) := Tm → AV → (Tm → Option β) → Option β
/-! ### values that are worked out -/
noncomputable def natF (n : Nat) : (Nat → Option β) → Option β :=
  Nat.rec (motive := fun _ => (Nat → Option β) → Option β) (fun k => k .zero) (fun m _ k => k (.succ m)) n
noncomputable def boolF (b : Bool) : (Bool → Option β) → Option β :=
  Bool.rec (motive := fun _ => (Bool → Option β) → Option β) (fun k => k false) (fun k => k true) b
noncomputable def iteF (b : Bool) : Option β → Option β → Option β :=
  Bool.rec (motive := fun _ => Option β → Option β → Option β) (fun _ y => y) (fun x _ => x) b
noncomputable def avF (v : AV) : (AV → Option β) → Option β :=
  AV.casesOn (motive_1 := fun _ => (AV → Option β) → Option β) v (fun k => k .un) (fun b k => k (.bool b)) (fun a n k => k (.int a n)) (fun a n g k => k (.sint a n g)) (fun a n g k => k (.nz a n g)) (fun b g k => k (.sbool b g))
    (fun s k => k (.str s)) (fun b o k => k (.ptr b o)) (fun k => k .nilp) (fun b o l c k => k (.slice b o l c)) (fun k => k .nils) (fun b k => k (.map b)) (fun k => k .nilm)
    (fun f a b k => k (.func f a b)) (fun k => k .nilf) (fun t v k => k (.iface t v)) (fun k => k .nili) (fun l k => k (.agg l)) (fun l k => k (.tup l))
/-! ### nodes -/
noncomputable def N8.v0 (x : α) (k : N8 α → Option β) (n : N8 α) : Option β := N8.rec (motive := fun _ => Option β) (fun a0 a1 a2 a3 a4 a5 a6 a7 => k ⟨x, a1, a2, a3, a4, a5, a6, a7⟩) n
noncomputable def N8.v1 (x : α) (k : N8 α → Option β) (n : N8 α) : Option β := N8.rec (motive := fun _ => Option β) (fun a0 a1 a2 a3 a4 a5 a6 a7 => k ⟨a0, x, a2, a3, a4, a5, a6, a7⟩) n
noncomputable def N8.v2 (x : α) (k : N8 α → Option β) (n : N8 α) : Option β := N8.rec (motive := fun _ => Option β) (fun a0 a1 a2 a3 a4 a5 a6 a7 => k ⟨a0, a1, x, a3, a4, a5, a6, a7⟩) n
noncomputable def N8.v3 (x : α) (k : N8 α → Option β) (n : N8 α) : Option β := N8.rec (motive := fun _ => Option β) (fun a0 a1 a2 a3 a4 a5 a6 a7 => k ⟨a0, a1, a2, x, a4, a5, a6, a7⟩) n
noncomputable def N8.v4 (x : α) (k : N8 α → Option β) (n : N8 α) : Option β := N8.rec (motive := fun _ => Option β) (fun a0 a1 a2 a3 a4 a5 a6 a7 => k ⟨a0, a1, a2, a3, x, a5, a6, a7⟩) n
noncomputable def N8.v5 (x : α) (k : N8 α → Option β) (n : N8 α) : Option β := N8.rec (motive := fun _ => Option β) (fun a0 a1 a2 a3 a4 a5 a6 a7 => k ⟨a0, a1, a2, a3, a4, x, a6, a7⟩) n
noncomputable def N8.v6 (x : α) (k : N8 α → Option β) (n : N8 α) : Option β := N8.rec (motive := fun _ => Option β) (fun a0 a1 a2 a3 a4 a5 a6 a7 => k ⟨a0, a1, a2, a3, a4, a5, x, a7⟩) n
noncomputable def N8.v7 (x : α) (k : N8 α → Option β) (n : N8 α) : Option β := N8.rec (motive := fun _ => Option β) (fun a0 a1 a2 a3 a4 a5 a6 a7 => k ⟨a0, a1, a2, a3, a4, a5, a6, x⟩) n
noncomputable def selF (d : D8) : ((N8 α → α) → (α → (N8 α → Option β) → N8 α → Option β) → γ) → γ :=
  D8.rec (motive := fun _ => ((N8 α → α) → (α → (N8 α → Option β) → N8 α → Option β) → γ) → γ)
    (fun k => k N8.a0 N8.v0) (fun k => k N8.a1 N8.v1) (fun k => k N8.a2 N8.v2) (fun k => k N8.a3 N8.v3) (fun k => k N8.a4 N8.v4) (fun k => k N8.a5 N8.v5) (fun k => k N8.a6 N8.v6) (fun k => k N8.a7 N8.v7) d
noncomputable def selG (d : D8) : ((N8 α → α) → γ) → γ :=
  D8.rec (motive := fun _ => ((N8 α → α) → γ) → γ) (fun k => k N8.a0) (fun k => k N8.a1) (fun k => k N8.a2) (fun k => k N8.a3) (fun k => k N8.a4) (fun k => k N8.a5) (fun k => k N8.a6) (fun k => k N8.a7) d
noncomputable def getOf (p : P3) (k : Opd → γ) : γ := selG p.x fun f1 => selG p.y fun f2 => selG p.z fun f3 => k fun t => f3 (f2 (f1 t))
noncomputable def dstOf (p : P3) (k : Dst β → γ) : γ :=
  selF (β := β) p.x fun f1 u1 => selF (β := β) p.y fun f2 u2 => selF (β := β) p.z fun _ u3 => k fun t v κ => u3 v (fun l1 => u2 l1 (fun l2 => u1 l2 κ t) (f1 t)) (f2 (f1 t))
noncomputable def opdF (o : COpd) (k : Opd → γ) : γ := COpd.rec (motive := fun _ => (Opd → γ) → γ) (fun p k => getOf p k) (fun v k => k fun _ => v) o k
noncomputable def opdsF (l : List COpd) : (List Opd → γ) → γ :=
  List.rec (motive := fun _ => (List Opd → γ) → γ) (fun k => k []) (fun o _ ih k => opdF o fun a => ih fun l => k (a :: l)) l
noncomputable def dstF (d : Option P3) (k : Dst β → γ) : γ :=
  Option.rec (motive := fun _ => (Dst β → γ) → γ) (fun k => k fun t _ κ => κ t) (fun p k => dstOf p k) d k
noncomputable def evF (l : List Opd) : Tm → (List AV → Option β) → Option β :=
  List.rec (motive := fun _ => Tm → (List AV → Option β) → Option β) (fun _ k => k []) (fun o _ ih t k => avF (o t) fun v => ih t fun vs => k (v :: vs)) l
/-! ### operations -/
abbrev U1 (β : Type) := AV → Hp → (AV → Option β) → Option β
abbrev U2 (β : Type) := AV → AV → Hp → (AV → Option β) → Option β
noncomputable def intF (v : AV) : (IntKind → Int → Option β) → Option β → Option β :=
  AV.casesOn (motive_1 := fun _ => (IntKind → Int → Option β) → Option β → Option β) v (fun _ z => z) (fun _ _ z => z) (fun a n k _ => k a n) (fun _ _ _ _ z => z) (fun _ _ _ _ z => z) (fun _ _ _ z => z)
    (fun _ _ z => z) (fun _ _ _ z => z) (fun _ z => z) (fun _ _ _ _ _ z => z) (fun _ z => z) (fun _ _ z => z) (fun _ z => z)
    (fun _ _ _ _ z => z) (fun _ z => z) (fun _ _ _ z => z) (fun _ z => z) (fun _ _ z => z) (fun _ _ z => z)
noncomputable def ptrF (v : AV) : (Bid → Nat → Option β) → Option β → Option β :=
  AV.casesOn (motive_1 := fun _ => (Bid → Nat → Option β) → Option β → Option β) v (fun _ z => z) (fun _ _ z => z) (fun _ _ _ z => z) (fun _ _ _ _ z => z) (fun _ _ _ _ z => z) (fun _ _ _ z => z)
    (fun _ _ z => z) (fun b o k _ => k b o) (fun _ z => z) (fun _ _ _ _ _ z => z) (fun _ z => z) (fun _ _ z => z) (fun _ z => z)
    (fun _ _ _ _ z => z) (fun _ z => z) (fun _ _ _ z => z) (fun _ z => z) (fun _ _ z => z) (fun _ _ z => z)
noncomputable def isBoolF (v : AV) : (Bool → Option β) → Option β → Option β :=
  AV.casesOn (motive_1 := fun _ => (Bool → Option β) → Option β → Option β) v (fun _ z => z) (fun b k _ => k b) (fun _ _ _ z => z) (fun _ _ _ _ z => z) (fun _ _ _ _ z => z) (fun _ _ _ z => z)
    (fun _ _ z => z) (fun _ _ _ z => z) (fun _ z => z) (fun _ _ _ _ _ z => z) (fun _ z => z) (fun _ _ z => z) (fun _ z => z)
    (fun _ _ _ _ z => z) (fun _ z => z) (fun _ _ _ z => z) (fun _ z => z) (fun _ _ z => z) (fun _ _ z => z)
noncomputable def tupF (v : AV) : (List AV → Option β) → Option β → Option β :=
  AV.casesOn (motive_1 := fun _ => (List AV → Option β) → Option β → Option β) v (fun _ z => z) (fun _ _ z => z) (fun _ _ _ z => z) (fun _ _ _ _ z => z) (fun _ _ _ _ z => z) (fun _ _ _ z => z)
    (fun _ _ z => z) (fun _ _ _ z => z) (fun _ z => z) (fun _ _ _ _ _ z => z) (fun _ z => z) (fun _ _ z => z) (fun _ z => z)
    (fun _ _ _ _ z => z) (fun _ z => z) (fun _ _ _ z => z) (fun _ z => z) (fun _ _ z => z) (fun l k _ => k l)
noncomputable def kcF (k : IntKind) : Nat := IntKind.rec (motive := fun _ => Nat) 0 1 2 3 4 5 6 7 k
noncomputable def hiF (k : IntKind) : Nat :=
  IntKind.rec (motive := fun _ => Nat) 127 32767 2147483647 9223372036854775807 255 65535 4294967295 18446744073709551615 k
noncomputable def posF (kd : IntKind) (m : Nat) (k : AV → Option β) : Option β :=
  iteF (Nat.ble m (hiF kd)) (natF m fun m => k (.int kd (.ofNat m))) (wrapSlow kd (.ofNat m) fun n => k (.int kd n))
noncomputable def addF (kd : IntKind) (x y : Int) (k : AV → Option β) : Option β :=
  Int.rec (motive := fun _ => Option β)
    (fun a => Int.rec (motive := fun _ => Option β) (fun b => posF kd (Nat.add a b) k) (fun b => iteF (Nat.ble (Nat.succ b) a) (posF kd (Nat.sub a (Nat.succ b)) k) (wrapK kd (Int.negSucc (Nat.sub b a)) fun n => k (.int kd n))) y)
    (fun a => wrapK kd (Int.add (.negSucc a) y) fun n => k (.int kd n)) x
noncomputable def eqI (x y : Int) : Bool :=
  Int.rec (motive := fun _ => Bool) (fun a => Int.rec (motive := fun _ => Bool) (fun b => Nat.beq a b) (fun _ => false) y) (fun a => Int.rec (motive := fun _ => Bool) (fun _ => false) (fun b => Nat.beq a b) y) x
noncomputable def leI (x y : Int) : Bool :=
  Int.rec (motive := fun _ => Bool) (fun a => Int.rec (motive := fun _ => Bool) (fun b => Nat.ble a b) (fun _ => false) y) (fun a => Int.rec (motive := fun _ => Bool) (fun _ => true) (fun b => Nat.ble b a) y) x
noncomputable def notF (b : Bool) : Bool := Bool.rec (motive := fun _ => Bool) true false b
noncomputable def int2F (op : BinOp) : I2 β :=
  BinOp.casesOn (motive := fun _ => I2 β) op addF iSub iMul iQuo iRem iAnd iOr iXor iNone iNone iAndNot
    (fun kd x y k => boolF (eqI x y) fun b => k (.bool b)) (fun kd x y k => boolF (notF (eqI x y)) fun b => k (.bool b))
    (fun kd x y k => boolF (notF (leI y x)) fun b => k (.bool b)) (fun kd x y k => boolF (leI x y) fun b => k (.bool b))
    (fun kd x y k => boolF (notF (leI x y)) fun b => k (.bool b)) (fun kd x y k => boolF (leI y x) fun b => k (.bool b))
noncomputable def arU (op : BinOp) (f : I2 β) : U2 β := fun a b h k =>
  intF a (fun kd x => intF b (fun kd' y => iteF (Nat.beq (kcF kd) (kcF kd')) (f kd x y k) none) (avF a fun a => avF b fun b => arF op [a, b] h b0 fun v _ => k v))
    (avF a fun a => avF b fun b => arF op [a, b] h b0 fun v _ => k v)
noncomputable def getF (l : List AV) : Nat → (AV → Option β) → Option β :=
  List.rec (motive := fun _ => Nat → (AV → Option β) → Option β) (fun _ _ => none)
    (fun a _ ih n => Nat.rec (motive := fun _ => (AV → Option β) → Option β) (fun k => avF a k) (fun n _ => ih n) n) l
noncomputable def dropF (n : Nat) : List α → (List α → Option β) → Option β :=
  Nat.rec (motive := fun _ => List α → (List α → Option β) → Option β) (fun l k => k l)
    (fun _ ih l => List.rec (motive := fun _ => (List α → Option β) → Option β) (fun _ => none) (fun _ l _ => ih l) l) n
noncomputable def takeF (n : Nat) : List α → (List α → Option β) → Option β :=
  Nat.rec (motive := fun _ => List α → (List α → Option β) → Option β) (fun _ k => k [])
    (fun _ ih l => List.rec (motive := fun _ => (List α → Option β) → Option β) (fun _ => none) (fun a l _ k => ih l fun l => k (a :: l)) l) n
noncomputable def partF (g : Option Nat) : List AV → Nat → (AV → Option β) → Option β :=
  Option.rec (motive := fun _ => List AV → Nat → (AV → Option β) → Option β) (fun l o k => getF l o k) (fun n l o k => dropF o l fun l => takeF n l fun l => k (.agg l)) g
noncomputable def knownF (o : AObj) : (List AV → Option β) → Option β :=
  AObj.rec (motive := fun _ => (List AV → Option β) → Option β) (fun _ => none) (fun l k => k l) (fun l _ k => k l) (fun _ _ _ => none) (fun _ => none) o
noncomputable def sel8 (d : D8) (n : N8 α) : α :=
  D8.rec (motive := fun _ => N8 α → α) N8.a0 N8.a1 N8.a2 N8.a3 N8.a4 N8.a5 N8.a6 N8.a7 d n
noncomputable def hgetF (h : Hp) (b : Bid) : AObj := Bid.rec (motive := fun _ => AObj) (fun x y z u v => sel8 v (sel8 u (sel8 z (sel8 y (sel8 x h))))) b
noncomputable def loadU (g : Option Nat) : U1 β := fun a h k => ptrF a (fun b o => knownF (hgetF h b) fun l => partF g l o k) none
noncomputable def fieldAddrU (off : Nat) : U1 β := fun a h k => ptrF a (fun b o => natF (Nat.add o off) fun o => k (.ptr b o)) none
noncomputable def mvU : U1 β := fun a h k => avF a k
noncomputable def extractU (i : Nat) : U1 β := fun a h k => tupF a (fun l => getF l i k) none
/-! ### memory -/
noncomputable def put8 (d : D8) : α → (N8 α → Option β) → N8 α → Option β :=
  D8.rec (motive := fun _ => α → (N8 α → Option β) → N8 α → Option β) N8.v0 N8.v1 N8.v2 N8.v3 N8.v4 N8.v5 N8.v6 N8.v7 d
noncomputable def hputF (b : Bid) (o : AObj) (h : Hp) (k : Hp → Option β) : Option β :=
  Bid.rec (motive := fun _ => Option β) (fun x y z u v =>
    put8 v o (fun l1 => put8 u l1 (fun l2 => put8 z l2 (fun l3 => put8 y l3 (fun l4 => put8 x l4 k h) (sel8 x h)) (sel8 y (sel8 x h))) (sel8 z (sel8 y (sel8 x h)))) (sel8 u (sel8 z (sel8 y (sel8 x h))))) b
noncomputable def incF (d : D8) : (D8 → Option β) → Option β → Option β :=
  D8.rec (motive := fun _ => (D8 → Option β) → Option β → Option β) (fun k _ => k .d1) (fun k _ => k .d2) (fun k _ => k .d3) (fun k _ => k .d4) (fun k _ => k .d5) (fun k _ => k .d6) (fun k _ => k .d7) (fun _ z => z) d
noncomputable def succF (b : Bid) (k : Bid → Option β) : Option β :=
  Bid.rec (motive := fun _ => Option β) (fun x y z u v => incF v (fun v => k ⟨x, y, z, u, v⟩) (incF u (fun u => k ⟨x, y, z, u, .d0⟩) (Bid.succK b k))) b
noncomputable def freshF (h : Hp) (x : Bid) (k : Bid → Option β) : Option β :=
  AObj.rec (motive := fun _ => Option β) (succF x k) (fun _ => none) (fun _ _ => none) (fun _ _ => none) none (hgetF h x)
/-! ### lists; what writes -/
noncomputable def appF (l : List α) : List α → (List α → Option β) → Option β :=
  List.rec (motive := fun _ => List α → (List α → Option β) → Option β) (fun m k => k m) (fun a _ ih m k => ih m fun r => k (a :: r)) l
noncomputable def overF (o : Nat) : List α → List α → (List α → Option β) → Option β :=
  Nat.rec (motive := fun _ => List α → List α → (List α → Option β) → Option β) (fun l m k => dropF m.length l fun r => appF m r k)
    (fun _ ih l m k => List.rec (motive := fun _ => Option β) none (fun a l _ => ih l m fun l => k (a :: l)) l) o
noncomputable def setF (o : Nat) : List α → α → (List α → Option β) → Option β :=
  Nat.rec (motive := fun _ => List α → α → (List α → Option β) → Option β) (fun l v k => List.rec (motive := fun _ => Option β) none (fun _ l _ => k (v :: l)) l)
    (fun _ ih l v k => List.rec (motive := fun _ => Option β) none (fun a l _ => ih l v fun l => k (a :: l)) l) o
noncomputable def scalF (v : AV) : Bool :=
  AV.casesOn (motive_1 := fun _ => Bool) v false (fun _ => true) (fun _ _ => true) (fun _ _ _ => true) (fun _ _ _ => true) (fun _ _ => true)
    (fun _ => true) (fun _ _ => true) true (fun _ _ _ _ => true) true (fun _ => true) true (fun _ _ _ => true) true (fun _ _ => true) true (fun _ => false) (fun _ => false)
noncomputable def okF (l : List AV) : Bool :=
  List.rec (motive := fun _ => Bool) true (fun a _ ih => Bool.rec (motive := fun _ => Bool) false ih (scalF a)) l
noncomputable def cellsF (v : AV) (k : List AV → Option β) : Option β :=
  iteF (scalF v) (avF v fun v => k [v]) (cellsK v k)
noncomputable def wrF (b : Bid) (h : Hp) (ob : AObj) (f : List AV → (List AV → Option β) → Option β) (k : Hp → Option β) : Option β :=
  AObj.rec (motive := fun _ => Option β) none (fun c => f c fun c => hputF b (.cells c) h k) (fun c sz => f c fun c => hputF b (.opn c sz) h k) (fun _ _ => none) none ob
noncomputable def storeF1 (s : Option Nat) (p v : AV) (h : Hp) (x : Bid) (k : EK β) : Option β :=
  ptrF p (fun b o => iteF (scalF v)
    (iteF (Option.rec (motive := fun _ => Bool) true (fun n => Nat.beq 1 n) s) (avF v fun v => wrF b h (hgetF h b) (fun c k => setF o c v k) fun h => k .un h x) none)
    (avF v fun v => storeE s [.ptr b o, v] h x k)) none
noncomputable def fillF (ps : List (Nat × Nat)) : List AV → List AV → (List AV → Option β) → Option β :=
  List.rec (motive := fun _ => List AV → List AV → (List AV → Option β) → Option β) (fun vs z k => List.rec (motive := fun _ => Option β) (k z) (fun _ _ _ => none) vs)
    (fun p _ ih vs z k => List.rec (motive := fun _ => Option β) none (fun v vs _ => cellsF v fun l => iteF (Nat.beq l.length p.2) (overF p.1 z l fun z => ih vs z k) none) vs) ps
noncomputable def buildX (z : List AV) (ps : List (Nat × Nat)) : NF β := fun vs h x k => fillF ps vs z fun l => k (.agg l) none
noncomputable def buildSliceX (len : Nat) (z : List AV) (ps : List (Nat × Nat)) : NF β := fun vs h x k => fillF ps vs z fun l => k (.slice x 0 len (.ex len)) (some (.cells l))
noncomputable def growF (size n m : Nat) (old src : List AV) (h : Hp) (x : Bid) (k : EK β) : Option β :=
  freshF h x fun y => appF old src fun l => natF (Nat.add n m) fun n => hputF x (.opn l size) h fun h => k (.slice x 0 n (.op 0)) h y
noncomputable def srcF (size : Nat) (h : Hp) (n : Nat) (a : AV) (k : List AV → Option β) : Option β :=
  AV.casesOn (motive_1 := fun _ => Option β) a none (fun _ => none) (fun _ _ => none) (fun _ _ _ => none) (fun _ _ _ => none) (fun _ _ => none)
    (fun s => srcK size h n (.str s) k) (fun _ _ => none) none (fun b o m c => iteF (Nat.ble n m) (Nat.rec (motive := fun _ => Option β) (k []) (fun n' _ => knownF (hgetF h b) fun l => dropF o l fun l => takeF (Nat.mul (Nat.succ n') size) l k) n) none)
    (Nat.rec (motive := fun _ => Option β) (k []) (fun _ _ => none) n) (fun _ => none) none (fun _ _ _ => none) none (fun _ _ => none) none (fun _ => none) (fun _ => none)
noncomputable def appendX (size bytes : Nat) : EF β
  | [s, a], h, x, k => lenA a fun m => srcF size h m a fun src => iteF (Nat.ble bytes 1024) (iteF (Nat.ble m 1000000) (iteF (Nat.beq src.length (Nat.mul m size)) (iteF (okF src) (match s with
      | .nils => match m with
        | .zero => k .nils h x
        | .succ _ => growF size 0 m [] src h x k
      | .slice b o n (.ex c) => match Nat.ble n 1000000 with
        | false => none
        | true => match Nat.ble (n + m) c with
          | true => wrF b h (hgetF h b) (fun c k => overF (o + n * size) c src k) fun h => natF (n + m) fun n => k (.slice b o n (.ex c)) h x
          | false => knownF (hgetF h b) fun l => dropF o l fun l => takeF (n * size) l fun old => growF size n m old src h x k
      | .slice b o n (.op g) => match Nat.ble n 1000000 with
        | false => none
        | true => match hgetF h b with
          | .opn l sz => match Nat.beq sz size && Nat.beq (g * size) o with
            | true => dropF o l fun l => takeF (n * size) l fun old => hputF b .dead h fun h => growF size n m old src h x k
            | false => none
          | _ => none
      | _ => none) none) none) none) none
  | _, _, _, _ => none
inductive FOp (β : Type) where
  | k (v : AV) (d : Dst β)
  | pk (c a b : Opd) (d : Dst β)
  | al (z : List AV) (d : Dst β)
  | bx (a : Opd) (d : Dst β)
  | st (s : Option Nat) (p v : Opd) (d : Dst β)
  | u (f : U1 β) (a : Opd) (d : Dst β)
  | b (f : U2 β) (a b : Opd) (d : Dst β)
  | n (f : NF β) (l : List Opd) (d : Dst β)
  | e (f : EF β) (l : List Opd) (d : Dst β)
  | c (f : Nat) (l : List Opd) (d : Dst β)
  | g (o : COper)
  | gd (p : Opd) (want : Bool) (d : Dst β) (o : COper) (op : FOp β)
noncomputable def selN (op : NOp) (k : NF β → γ) : γ :=
  NOp.casesOn (motive := fun _ => (NF β → γ) → γ) op (fun k => k mvF) (fun k => k pickF) (fun z k => k (allocF z)) (fun k => k boxF) (fun z p k => k (buildX z p)) (fun n z p k => k (buildSliceX n z p))
    (fun a k => k (loadF a)) (fun k => k nilChkF) (fun op k => k (arF op)) (fun op k => k (shF op)) (fun n e k => k (eqF n e)) (fun k => k negF) (fun k => k bnotF) (fun k => k invF)
    (fun kd k => k (toIntF kd)) (fun k => k strIdF) (fun k => k s2bF) (fun k => k b2sF) (fun t k => k (mkIfaceF t)) (fun f n k => k (mkFuncF f n)) (fun k => k mkMapF) (fun s z b k => k (mkSliceF s z b))
    (fun l h k => k (slStrF l h)) (fun s l h m k => k (slSlF s l h m)) (fun n s l h k => k (slArrF n s l h)) (fun o k => k (fieldAddrF o)) (fun o a k => k (fieldF o a)) (fun s k => k (idxAddrSlF s))
    (fun n s k => k (idxAddrArrF n s)) (fun n s a k => k (idxArrF n s a)) (fun k => k idxStrF) (fun e z o k => k (lookupF e z o)) (fun i k => k (extractF i)) (fun t z o k => k (tassertF t z o))
    (fun k => k lenStrF) (fun k => k lenSlF) (fun k => k lenMapF) (fun n k => k (lenCF n)) (fun k => k capF) (fun k => k minF) (fun k => k maxF) (fun k => k badF) k
inductive Quick (β : Type) where
  | u (f : U1 β)
  | b (f : U2 β)
  | pk
  | al (z : List AV)
  | bx
  | no
noncomputable def quickN (op : NOp) (k : Quick β → γ) : γ :=
  NOp.casesOn (motive := fun _ => (Quick β → γ) → γ) op (fun k => k (.u mvU)) (fun k => k .pk) (fun z k => k (.al z)) (fun k => k .bx) (fun z p k => k .no) (fun n z p k => k .no)
    (fun a k => k (.u (loadU a))) (fun k => k .no) (fun op k => k (.b (arU op (int2F op)))) (fun op k => k .no) (fun n e k => k .no) (fun k => k .no) (fun k => k .no) (fun k => k .no)
    (fun kd k => k .no) (fun k => k .no) (fun k => k .no) (fun k => k .no) (fun t k => k .no) (fun f n k => k .no) (fun k => k .no) (fun s z b k => k .no)
    (fun l h k => k .no) (fun s l h m k => k .no) (fun n s l h k => k .no) (fun o k => k (.u (fieldAddrU o))) (fun o a k => k .no) (fun s k => k .no)
    (fun n s k => k .no) (fun n s a k => k .no) (fun k => k .no) (fun e z o k => k .no) (fun i k => k (.u (extractU i))) (fun t z o k => k .no)
    (fun k => k .no) (fun k => k .no) (fun k => k .no) (fun n k => k .no) (fun k => k .no) (fun k => k .no) (fun k => k .no) (fun k => k .no) k
noncomputable def neF (op : NOp) (l : List Opd) (d : Dst β) (k : FOp β → γ) : γ :=
  quickN (β := β) op fun q => Quick.rec (motive := fun _ => γ)
    (fun f => List.rec (motive := fun _ => γ) (selN op fun f => k (.n f l d)) (fun a r _ => List.rec (motive := fun _ => γ) (k (.u f a d)) (fun _ _ _ => selN op fun f => k (.n f l d)) r) l)
    (fun f => List.rec (motive := fun _ => γ) (selN op fun f => k (.n f l d)) (fun a r _ => List.rec (motive := fun _ => γ) (selN op fun f => k (.n f l d))
      (fun b r _ => List.rec (motive := fun _ => γ) (k (.b f a b d)) (fun _ _ _ => selN op fun f => k (.n f l d)) r) r) l)
    (List.rec (motive := fun _ => γ) (selN op fun f => k (.n f l d)) (fun a r _ => List.rec (motive := fun _ => γ) (selN op fun f => k (.n f l d)) (fun b r _ => List.rec (motive := fun _ => γ) (selN op fun f => k (.n f l d))
      (fun c r _ => List.rec (motive := fun _ => γ) (k (.pk a b c d)) (fun _ _ _ => selN op fun f => k (.n f l d)) r) r) r) l)
    (fun z => List.rec (motive := fun _ => γ) (k (.al z d)) (fun _ _ _ => selN op fun f => k (.n f l d)) l)
    (List.rec (motive := fun _ => γ) (selN op fun f => k (.n f l d)) (fun a r _ => List.rec (motive := fun _ => γ) (k (.bx a d)) (fun _ _ _ => selN op fun f => k (.n f l d)) r) l)
    (selN op fun f => k (.n f l d)) q
noncomputable def cstF (as : List COpd) (d : Dst β) (k : FOp β → γ) (z : γ) : γ :=
  List.rec (motive := fun _ => γ) z (fun a r _ => List.rec (motive := fun _ => γ) (COpd.rec (motive := fun _ => γ) (fun _ => z) (fun v => k (.k v d)) a) (fun _ _ _ => z) r) as
noncomputable def isMvF (op : NOp) : Bool :=
  NOp.casesOn (motive := fun _ => Bool) op true false (fun _ => false) false (fun _ _ => false) (fun _ _ _ => false)
    (fun _ => false) false (fun _ => false) (fun _ => false) (fun _ _ => false) false false false
    (fun _ => false) false false false (fun _ => false) (fun _ _ => false) false (fun _ _ _ => false)
    (fun _ _ => false) (fun _ _ _ _ => false) (fun _ _ _ _ => false) (fun _ => false) (fun _ _ => false) (fun _ => false)
    (fun _ _ => false) (fun _ _ _ => false) false (fun _ _ _ => false) (fun _ => false) (fun _ _ _ => false)
    false false false (fun _ => false) false false false false
noncomputable def efF (op : EOp) (o : COper) (l : List Opd) (d : Dst β) (k : FOp β → γ) : γ :=
  EOp.casesOn (motive := fun _ => γ) op (cstF o.args d k <| List.rec (motive := fun _ => γ) (k (.g { o with guard := none })) (fun a r _ => List.rec (motive := fun _ => γ) (k (.u mvU a d)) (fun _ _ _ => k (.g { o with guard := none })) r) l)
    (fun s => List.rec (motive := fun _ => γ) (k (.e (storeE s) l d)) (fun a r _ => List.rec (motive := fun _ => γ) (k (.e (storeE s) l d)) (fun b r _ => List.rec (motive := fun _ => γ) (k (.st s a b d)) (fun _ _ _ => k (.e (storeE s) l d)) r) r) l) (fun e => k (.e (mapUpdE e) l d)) (fun s b => k (.e (appendX s b) l d)) (fun s => k (.e (copyE s) l d)) (fun z => k (.e (clearE z) l d)) (fun e => k (.e (deleteE e) l d))
    (fun f => k (.c f l d)) (k (.g { o with guard := none })) (fun _ => k (.g { o with guard := none }))
noncomputable def bareF (o : COper) (d : Dst β) (k : FOp β → γ) : γ :=
  opdsF o.args fun l => COp.rec (motive := fun _ => γ) (fun op => Bool.rec (motive := fun _ => γ) (neF op l d k) (cstF o.args d k (neF op l d k)) (isMvF op)) (fun op => efF op o l d k) o.op
noncomputable def fop (o : COper) : FOp β :=
  dstF (β := β) o.dst fun d => bareF o d fun op => Option.rec (motive := fun _ => FOp β) op (fun g => getOf g.1 fun p => .gd p g.2 d o op) o.guard
noncomputable def newF (ob : Option AObj) : Hp → Bid → (Hp → Bid → Option β) → Option β :=
  Option.rec (motive := fun _ => Hp → Bid → (Hp → Bid → Option β) → Option β) (fun h x k => k h x) (fun o h x k => freshF h x fun y => hputF x o h fun h => k h y) ob
/-! ### statements whose order is open -/
noncomputable def same1 (v w : AV) (c : Option β) : Option β :=
  intF v (fun kd x => intF w (fun kd' y => iteF (Nat.beq (kcF kd) (kcF kd')) (iteF (eqI x y) c none) none) (AV.sameK v w c))
    (isBoolF v (fun a => isBoolF w (fun b => iteF (Bool.rec (motive := fun _ => Bool) (notF b) b a) c none) (AV.sameK v w c)) 
      (ptrF v (fun b o => ptrF w (fun b' o' => iteF (Nat.beq o o') (iteF (b.beq b') c none) none) (AV.sameK v w c)) (AV.sameK v w c)))
noncomputable def obF (a b : Option AObj) (h : Hp) (id : Bid) (c : Option β) : Option β :=
  Option.rec (motive := fun _ => Option β) (Option.rec (motive := fun _ => Option β) c (fun _ => none) a) (fun ob => obSame a (some ob) (stillThere h id (some ob) c)) b
abbrev NR := Tm → Hp → Bid → Option (AV × Option AObj)
structure FPend where
  (last : Nat) (id : Bid) (v : AV) (ob : Option AObj) (r : NR)
inductive FDI (β : Type) where
  | ne (last : Nat) (r : NR) (d : Dst β)
  | eff (q : FOp β)
noncomputable def neRF (o : COper) (op : NOp) (k : NR → γ) : γ :=
  Option.rec (motive := fun _ => γ)
    (opdsF o.args fun l => quickN (β := AV × Option AObj) op fun q => Quick.rec (motive := fun _ => γ)
      (fun f => List.rec (motive := fun _ => γ) (k (neR o op)) (fun a r _ => List.rec (motive := fun _ => γ) (k fun t h x => f (a t) h fun v => some (v, none)) (fun _ _ _ => k (neR o op)) r) l)
      (fun f => List.rec (motive := fun _ => γ) (k (neR o op)) (fun a r _ => List.rec (motive := fun _ => γ) (k (neR o op))
        (fun b r _ => List.rec (motive := fun _ => γ) (k fun t h x => f (a t) (b t) h fun v => some (v, none)) (fun _ _ _ => k (neR o op)) r) r) l)
      (k (neR o op)) (fun _ => k (neR o op)) (k (neR o op))
      (selN op fun f => k fun t h x => evF l t fun vs => f vs h x fun v ob => some (v, ob)) q)
    (fun _ => k (neR o op)) o.guard
noncomputable def fdi (it : DIt) : FDI β :=
  DIt.rec (motive := fun _ => FDI β) (fun i o op last => dstF (β := β) o.dst fun d => neRF o op fun r => .ne last r d)
    (fun i o op => Option.rec (motive := fun _ => FDI β) (dstF (β := β) o.dst fun d => bareF o d fun q => .eff q) (fun _ => .eff (.g o)) o.guard) it
noncomputable def fdis (l : List DIt) : List (FDI β) := List.rec (motive := fun _ => List (FDI β)) [] (fun o _ ih => fdi o :: ih) l
noncomputable def fcheck1 (st : Nat) (t : Tm) (h : Hp) (p : FPend) (k : Option β) : Option β :=
  FPend.rec (motive := fun _ => Option β) (fun last id v ob r => iteF (Nat.ble st last)
    (Option.rec (motive := fun _ => Option β) none (fun vo => Prod.rec (motive := fun _ => Option β) (fun v' ob' => same1 v' v (obF ob' ob h id k)) vo) (r t h id)) k) p
noncomputable def fcheck (st : Nat) (t : Tm) (h : Hp) (ps : List FPend) (k : Option β) : Option β :=
  List.rec (motive := fun _ => Option β) k (fun p _ ih => fcheck1 st t h p ih) ps
noncomputable def frun (P : Program) (call : CALL β) (o : FOp β) : Tm → Hp → Bid → KT β → Option β :=
  FOp.rec (motive := fun _ => Tm → Hp → Bid → KT β → Option β)
    (fun v d t h x k => d t v fun t => k t h x)
    (fun c a b d t h x k => isBoolF (c t) (fun v => iteF v (avF (a t) fun v => d t v fun t => k t h x) (avF (b t) fun v => d t v fun t => k t h x))
      (avF (c t) fun c => avF (a t) fun a => avF (b t) fun b => pickF [c, a, b] h x fun v ob => newK ob h x fun h x => d t v fun t => k t h x))
    (fun z d t h x k => freshF h x fun y => hputF x (.cells z) h fun h => d t (.ptr x 0) fun t => k t h y)
    (fun a d t h x k => cellsF (a t) fun l => freshF h x fun y => hputF x (.cells l) h fun h => d t (.ptr x 0) fun t => k t h y)
    (fun s p v d t h x k => storeF1 s (p t) (v t) h x fun v h x => d t v fun t => k t h x)
    (fun f a d t h x k => f (a t) h fun v => d t v fun t => k t h x)
    (fun f a b d t h x k => f (a t) (b t) h fun v => d t v fun t => k t h x)
    (fun f l d t h x k => evF l t fun vs => f vs h x fun v ob => newF ob h x fun h x => d t v fun t => k t h x)
    (fun f l d t h x k => evF l t fun vs => f vs h x fun v h x => d t v fun t => k t h x)
    (fun f l d t h x k => evF l t fun vs => call f vs h x fun v h x => d t v fun t => k t h x)
    (fun o t h x k => operK P call o t h x k)
    (fun p want d o _ ih t h x k => isBoolF (p t) (fun b => iteF (Bool.rec (motive := fun _ => Bool) (notF b) b want) (ih t h x k) (d t (.tup []) fun t => k t h x)) (normG o.guard t fun t => operK P call o t h x k)) o
noncomputable def fregs (P : Program) (call : CALL β) (l : List (FOp β)) : Tm → Hp → Bid → KT β → Option β :=
  List.rec (motive := fun _ => Tm → Hp → Bid → KT β → Option β) (fun t h x k => k t h x) (fun o _ ih t h x k => frun P call o t h x fun t h x => ih t h x k) l
noncomputable def frunD (P : Program) (call : CALL β) (l : List (FDI β)) : Nat → List FPend → Tm → Hp → Bid → KT β → Option β :=
  List.rec (motive := fun _ => Nat → List FPend → Tm → Hp → Bid → KT β → Option β) (fun st ps t h x k => fcheck st t h ps (k t h x))
    (fun it _ ih st ps t h x k => FDI.rec (motive := fun _ => Option β)
      (fun last r d => Option.rec (motive := fun _ => Option β) none (fun vo => Prod.rec (motive := fun _ => Option β) (fun v ob =>
        iteF (okOb ob) (newF ob h x fun h y => d t v fun t => ih st (⟨last, x, v, ob, r⟩ :: ps) t h y k) none) vo) (r t h x))
      (fun q => fcheck st t h ps (frun P call q t h x fun t h x => natF (Nat.succ st) fun st => ih st ps t h x k)) it) l
noncomputable def divsF (l : List DIt) : Option (List DIt) :=
  List.rec (motive := fun _ => Option (List DIt)) none (fun it _ ih => DIt.rec (motive := fun _ => Option (List DIt))
    (fun _ o op _ => Option.rec (motive := fun _ => Option (List DIt)) ih (fun _ => some l) (divAt op o.args)) (fun _ _ _ => ih) it) l
noncomputable def normDF (its : Option (List DIt)) (t : Tm) (k : Tm → Option β) : Option β :=
  Option.rec (motive := fun _ => Option β) (k t) (fun l => normD l l t k) its
/-! ### code -/
inductive FCC (β : Type) where
  | skip
  | reg (ops : List (FOp β))
  | regD (its : List (FDI β)) (its0 : Option (List DIt))
  | seq (a b : FCC β)
  | cond (c : Opd) (c0 : COpd) (a b : FCC β)
  | block (id : Nat) (c : FCC β)
  | loop (c : FCC β)
  | exit (id : Nat)
  | ret
  | bad
noncomputable def fops (l : List COper) : List (FOp β) := List.rec (motive := fun _ => List (FOp β)) [] (fun o _ ih => fop o :: ih) l
noncomputable def fcomp (c : CC) : FCC β :=
  CC.rec (motive := fun _ => FCC β) .skip (fun l => .reg (fops l)) (fun its => .regD (fdis its) (divsF its)) (fun _ _ a b => .seq a b) (fun c _ _ a b => opdF c fun o => .cond o c a b)
    (fun id _ c => .block id c) (fun _ c => .loop c) (fun id => .exit id) .ret .bad c
noncomputable def seqF (ex : FCC β → EX β) (b : FCC β) (k : KX β) (e : Ex) : Tm → Hp → Bid → Option β :=
  Ex.rec (motive := fun _ => Tm → Hp → Bid → Option β) (fun t h x => ex b t h x k) (fun id => k (.ext id)) (k .ret) e
noncomputable def blockF (id : Nat) (k : KX β) (e : Ex) : Tm → Hp → Bid → Option β :=
  Ex.rec (motive := fun _ => Tm → Hp → Bid → Option β) (k .nrm) (fun j t h x => iteF (Nat.beq j id) (k .nrm t h x) (k (.ext j) t h x)) (k .ret) e
def condS (ea eb : EX β) (t : Tm) (h : Hp) (x : Bid) (k : KX β) : AV → Option β
  | .bool true => ea t h x k
  | .bool false => eb t h x k
  | .sbool v g => symFork g v (ea t h x k) (eb t h x k)
  | _ => none
noncomputable def fstep (P : Program) (ex : FCC β → EX β) (call : CALL β) (c : FCC β) : EX β :=
  FCC.casesOn (motive := fun _ => EX β) c (fun t h x k => k .nrm t h x) (fun ops t h x k => fregs P call ops t h x (k .nrm)) (fun its its0 t h x k => normDF its0 t fun t => frunD P call its 0 [] t h x (k .nrm))
    (fun a b t h x k => ex a t h x (seqF ex b k))
    (fun c c0 a b t h x k => isBoolF (c t) (fun v => iteF v (ex a t h x k) (ex b t h x k)) (normC c0 t fun t => evK c0 t (condS (ex a) (ex b) t h x k)))
    (fun id c t h x k => ex c t h x (blockF id k)) (fun c t h x k => ex c t h x (seqF ex (.loop c) k)) (fun id t h x k => k (.ext id) t h x) (fun t h x k => k .ret t h x) (fun _ _ _ _ => none)
inductive FRV where
  | tmp (o : Opd)
  | cell (p : P3) (agg : Option Nat)
structure FFun (β : Type) where
  n : Nat
  code : FCC β
  res : List FRV
noncomputable def frv (r : RV) : FRV := RV.rec (motive := fun _ => FRV) (fun p => getOf p fun o => .tmp o) (fun p a => .cell p a) r
noncomputable def frvs (l : List RV) : List FRV := List.rec (motive := fun _ => List FRV) [] (fun r _ ih => frv r :: ih) l
noncomputable def ffun (P : Program) (f : Nat) : Option (FFun β) :=
  Option.rec (motive := fun _ => Option (FFun β)) none (fun c => CFun.rec (motive := fun _ => Option (FFun β)) (fun n c res => some ⟨n, fcomp c, frvs res⟩) c) (compFun P f)
noncomputable def resF (l : List FRV) : Tm → Hp → (List AV → Option β) → Option β :=
  List.rec (motive := fun _ => Tm → Hp → (List AV → Option β) → Option β) (fun t h k => k [])
    (fun r _ ih t h k => FRV.rec (motive := fun _ => Option β) (fun o => avF (o t) fun v => ih t h fun vs => k (v :: vs))
      (fun p a => ptrF (t.get p) (fun b o => knownF (hgetF h b) fun c => partF a c o fun v => ih t h fun vs => k (v :: vs)) none) r) l
noncomputable def oneF (l : List AV) : (AV → Option β) → Option β :=
  List.rec (motive := fun _ => (AV → Option β) → Option β) (fun k => k (.tup [])) (fun v l _ => List.rec (motive := fun _ => (AV → Option β) → Option β) (fun k => k v) (fun w l _ k => k (.tup (v :: w :: l))) l) l
noncomputable def finF (res : List FRV) (k : EK β) (e : Ex) : Tm → Hp → Bid → Option β :=
  Ex.rec (motive := fun _ => Tm → Hp → Bid → Option β) (fun t h x => resF res t h fun vs => oneF vs fun v => k v h x) (fun _ _ _ _ => none) (fun t h x => resF res t h fun vs => oneF vs fun v => k v h x) e
noncomputable def argDs : List (Dst β) :=
  dstOf (.ofNat 0) fun d0 => dstOf (.ofNat 1) fun d1 => dstOf (.ofNat 2) fun d2 => dstOf (.ofNat 3) fun d3 => dstOf (.ofNat 4) fun d4 => dstOf (.ofNat 5) fun d5 => dstOf (.ofNat 6) fun d6 => dstOf (.ofNat 7) fun d7 => [d0, d1, d2, d3, d4, d5, d6, d7]
noncomputable def putF (vs : List AV) : Nat → List (Dst β) → Tm → (Tm → Option β) → Option β :=
  List.rec (motive := fun _ => Nat → List (Dst β) → Tm → (Tm → Option β) → Option β) (fun _ _ t k => k t)
    (fun v vs ih i ds t k => List.rec (motive := fun _ => Option β) (putAll (v :: vs) i t k) (fun d ds _ => d t v fun t => ih (Nat.succ i) ds t k) ds) vs
noncomputable def frunFun (ex : FCC β → EX β) (vs : List AV) (h : Hp) (x : Bid) (k : EK β) (f : FFun β) : Option β :=
  FFun.rec (motive := fun _ => Option β) (fun n code res => iteF (Nat.ble vs.length n) (putF vs 0 argDs e3 fun t => ex code t h x (finF res k)) none) f
noncomputable def fcallOf (P : Program) (ex : FCC β → EX β) (f : Nat) : EF β := fun vs h x k =>
  Option.rec (motive := fun _ => Option β) none (fun cf => frunFun ex vs h x k cf) (ffun P f)
noncomputable def fexecT (P : Program) (T : CALL β → CALL β) (n : Nat) : FCC β → EX β :=
  Nat.rec (motive := fun _ => FCC β → EX β) (fun _ _ _ _ _ => none) (fun _ ih c => fstep P ih (T (fcallOf P ih)) c) n
noncomputable abbrev fexec (P : Program) (n : Nat) : FCC β → EX β := fexecT P keepC n
end
end Go.Proofs.Ytpcocfdgcihpdaa.Eng
