/-
  THE ENGINE: hints: at which truths that are not worked out the evaluator goes one way alone (1: true, 2: false), by their tags. They bind nothing: a wrong one answers nothing.
-/
import Derived.WalkKit
import Derived.Below
set_option maxHeartbeats 64000000
set_option maxRecDepth 1000000
set_option linter.unusedVariables false
set_option linter.unusedSimpArgs false
set_option maxHeartbeats 64000000
set_option maxHeartbeats 64000000
set_option maxHeartbeats 64000000
set_option maxHeartbeats 64000000
namespace Go.Proofs.Ytkejnhmhbmbhcaa.Eng
def hintAt : List (Nat × Nat) → Nat → Nat
  | [], _ => 0
  | (a, b) :: l, g => match Nat.beq a g with
    | true => b
    | false => hintAt l g
def hintTab : List (Nat × Nat) := []
def hintOf (g : Nat) : Nat := hintAt hintTab g
def globStr (_ : Nat) : Option (List (List Nat)) := none
end Go.Proofs.Ytkejnhmhbmbhcaa.Eng
namespace Go.Proofs.Ytkejnhmhbmbhcaa.Eng
open Go
/-! ### eight-fold nodes -/
structure N8 (α : Type) where
  (a0 a1 a2 a3 a4 a5 a6 a7 : α)
inductive D8 where
  | d0 | d1 | d2 | d3 | d4 | d5 | d6 | d7
  deriving DecidableEq
def D8.toNat : D8 → Nat
  | .d0 => 0 | .d1 => 1 | .d2 => 2 | .d3 => 3 | .d4 => 4 | .d5 => 5 | .d6 => 6 | .d7 => 7
def D8.fromNat : Nat → D8
  | 0 => .d0 | 1 => .d1 | 2 => .d2 | 3 => .d3 | 4 => .d4 | 5 => .d5 | 6 => .d6 | _ => .d7
def D8.beq (a b : D8) : Bool := Nat.beq a.toNat b.toNat
def N8.sel {α : Type} : D8 → N8 α → α
  | .d0 => N8.a0 | .d1 => N8.a1 | .d2 => N8.a2 | .d3 => N8.a3 | .d4 => N8.a4 | .d5 => N8.a5 | .d6 => N8.a6 | .d7 => N8.a7
def N8.set {α : Type} (x : α) : D8 → N8 α → N8 α
  | .d0, n => { n with a0 := x } | .d1, n => { n with a1 := x } | .d2, n => { n with a2 := x } | .d3, n => { n with a3 := x }
  | .d4, n => { n with a4 := x } | .d5, n => { n with a5 := x } | .d6, n => { n with a6 := x } | .d7, n => { n with a7 := x }
section
variable {α β : Type}
def N8.u0 (x : α) (k : N8 α → Option β) : N8 α → Option β | ⟨a0, a1, a2, a3, a4, a5, a6, a7⟩ => k ⟨x, a1, a2, a3, a4, a5, a6, a7⟩
def N8.u1 (x : α) (k : N8 α → Option β) : N8 α → Option β | ⟨a0, a1, a2, a3, a4, a5, a6, a7⟩ => k ⟨a0, x, a2, a3, a4, a5, a6, a7⟩
def N8.u2 (x : α) (k : N8 α → Option β) : N8 α → Option β | ⟨a0, a1, a2, a3, a4, a5, a6, a7⟩ => k ⟨a0, a1, x, a3, a4, a5, a6, a7⟩
def N8.u3 (x : α) (k : N8 α → Option β) : N8 α → Option β | ⟨a0, a1, a2, a3, a4, a5, a6, a7⟩ => k ⟨a0, a1, a2, x, a4, a5, a6, a7⟩
def N8.u4 (x : α) (k : N8 α → Option β) : N8 α → Option β | ⟨a0, a1, a2, a3, a4, a5, a6, a7⟩ => k ⟨a0, a1, a2, a3, x, a5, a6, a7⟩
def N8.u5 (x : α) (k : N8 α → Option β) : N8 α → Option β | ⟨a0, a1, a2, a3, a4, a5, a6, a7⟩ => k ⟨a0, a1, a2, a3, a4, x, a6, a7⟩
def N8.u6 (x : α) (k : N8 α → Option β) : N8 α → Option β | ⟨a0, a1, a2, a3, a4, a5, a6, a7⟩ => k ⟨a0, a1, a2, a3, a4, a5, x, a7⟩
def N8.u7 (x : α) (k : N8 α → Option β) : N8 α → Option β | ⟨a0, a1, a2, a3, a4, a5, a6, a7⟩ => k ⟨a0, a1, a2, a3, a4, a5, a6, x⟩
def N8.upd : D8 → α → (N8 α → Option β) → N8 α → Option β
  | .d0 => N8.u0 | .d1 => N8.u1 | .d2 => N8.u2 | .d3 => N8.u3 | .d4 => N8.u4 | .d5 => N8.u5 | .d6 => N8.u6 | .d7 => N8.u7
end
/-! ### values -/
structure Bid where
  (x y z u v : D8)
  deriving DecidableEq
def Bid.beq (a b : Bid) : Bool := a.v.beq b.v && (a.u.beq b.u && (a.z.beq b.z && (a.y.beq b.y && a.x.beq b.x)))
inductive Cap where
  | ex (n : Nat)      -- just so many
  | op (lo : Nat)     -- all that the block has, less so many
  | em                -- the empty end of a block: not known
inductive AV where
  | un
  | bool (b : Bool)
  | int (k : IntKind) (n : Int)
  | sint (k : IntKind) (n : Int) (tag : Nat)           -- a number that is not worked out
  | nz (k : IntKind) (n : Int) (tag : Nat)    -- such a number, known not to be 0
  | sbool (b : Bool) (tag : Nat)                      -- a truth that is not worked out
  | str (s : List Nat)
  | ptr (b : Bid) (o : Nat)
  | nilp
  | slice (b : Bid) (o len : Nat) (cap : Cap)
  | nils
  | map (b : Bid)
  | nilm
  | func (fn : Fn) (first cap : List AV)
  | nilf
  | iface (t : Nat) (v : AV)
  | nili
  | agg (l : List AV)
  | tup (l : List AV)
inductive AObj where
  | no
  | cells (l : List AV)                    -- the whole block
  | opn (l : List AV) (sz : Nat)           -- a beginning; there may be more room; a size of an element
  | map (es : List (AV × AV × Nat)) (clock : Nat)
  | dead
abbrev T1 := N8 AV
abbrev T2 := N8 T1
abbrev Tm := N8 T2
structure P3 where
  (x y z : D8)
  deriving DecidableEq
def P3.toNat (p : P3) : Nat := 64 * p.x.toNat + 8 * p.y.toNat + p.z.toNat
def P3.ofNat (n : Nat) : P3 := ⟨.fromNat (n / 64), .fromNat (n / 8 % 8), .fromNat (n % 8)⟩
def e1 : T1 := ⟨.un, .un, .un, .un, .un, .un, .un, .un⟩
def e2 : T2 := ⟨e1, e1, e1, e1, e1, e1, e1, e1⟩
def e3 : Tm := ⟨e2, e2, e2, e2, e2, e2, e2, e2⟩
def Tm.get (t : Tm) (p : P3) : AV := N8.sel p.z (N8.sel p.y (N8.sel p.x t))
def Tm.put (t : Tm) (p : P3) (v : AV) : Tm := N8.set (N8.set (N8.set v p.z (N8.sel p.y (N8.sel p.x t))) p.y (N8.sel p.x t)) p.x t
abbrev H1 := N8 AObj
abbrev H2 := N8 H1
abbrev H3 := N8 H2
abbrev H4 := N8 H3
abbrev Hp := N8 H4
def f1 : H1 := ⟨.no, .no, .no, .no, .no, .no, .no, .no⟩
def f2 : H2 := ⟨f1, f1, f1, f1, f1, f1, f1, f1⟩
def f3 : H3 := ⟨f2, f2, f2, f2, f2, f2, f2, f2⟩
def f4 : H4 := ⟨f3, f3, f3, f3, f3, f3, f3, f3⟩
def f5 : Hp := ⟨f4, f4, f4, f4, f4, f4, f4, f4⟩
def Hp.get (h : Hp) (b : Bid) : AObj := N8.sel b.v (N8.sel b.u (N8.sel b.z (N8.sel b.y (N8.sel b.x h))))
def Hp.put (h : Hp) (b : Bid) (o : AObj) : Hp :=
  N8.set (N8.set (N8.set (N8.set (N8.set o b.v (N8.sel b.u (N8.sel b.z (N8.sel b.y (N8.sel b.x h))))) b.u (N8.sel b.z (N8.sel b.y (N8.sel b.x h)))) b.z (N8.sel b.y (N8.sel b.x h))) b.y (N8.sel b.x h)) b.x h
def b0 : Bid := ⟨.d0, .d0, .d0, .d0, .d0⟩
def D8.succ : D8 → D8 × Bool
  | .d0 => (.d1, false) | .d1 => (.d2, false) | .d2 => (.d3, false) | .d3 => (.d4, false) | .d4 => (.d5, false) | .d5 => (.d6, false) | .d6 => (.d7, false) | .d7 => (.d0, true)
section
variable {β : Type}
def Tm.putP (v : AV) (t : Tm) (k : Tm → Option β) (x y z : D8) : Option β :=
  N8.upd z v (fun l1 => N8.upd y l1 (fun l2 => N8.upd x l2 k t) (N8.sel x t)) (N8.sel y (N8.sel x t))
def Tm.putK : P3 → AV → Tm → (Tm → Option β) → Option β
  | ⟨x, y, z⟩, v, t, k => Tm.putP v t k x y z
def Hp.putP (o : AObj) (h : Hp) (k : Hp → Option β) (x y z u v : D8) : Option β :=
  N8.upd v o (fun l1 => N8.upd u l1 (fun l2 => N8.upd z l2 (fun l3 => N8.upd y l3 (fun l4 => N8.upd x l4 k h) (N8.sel x h)) (N8.sel y (N8.sel x h))) (N8.sel z (N8.sel y (N8.sel x h)))) (N8.sel u (N8.sel z (N8.sel y (N8.sel x h))))
def Hp.putK : Bid → AObj → Hp → (Hp → Option β) → Option β
  | ⟨x, y, z, u, v⟩, o, h, k => Hp.putP o h k x y z u v
def Bid.succK : Bid → (Bid → Option β) → Option β
  | ⟨x, y, z, u, v⟩, k =>
    match v.succ with
    | (v, false) => k ⟨x, y, z, u, v⟩
    | (v, true) => match u.succ with
      | (u, false) => k ⟨x, y, z, u, v⟩
      | (u, true) => match z.succ with
        | (z, false) => k ⟨x, y, z, u, v⟩
        | (z, true) => match y.succ with
          | (y, false) => k ⟨x, y, z, u, v⟩
          | (y, true) => match x.succ with
            | (x, _) => k ⟨x, y, z, u, v⟩
/-! ### numbers that are worked out -/
def natK (n : Nat) (k : Nat → Option β) : Option β :=
  match n with
  | .zero => k .zero
  | .succ m => k (.succ m)
def intK (n : Int) (k : Int → Option β) : Option β :=
  match n with
  | .ofNat m => natK m fun m => k (.ofNat m)
  | .negSucc m => natK m fun m => k (.negSucc m)
def boolK (b : Bool) (k : Bool → Option β) : Option β :=
  match b with
  | true => k true
  | false => k false
def avK : AV → (AV → Option β) → Option β
  | .un => fun k => k .un
  | .bool b => fun k => k (.bool b)
  | .int a n => fun k => k (.int a n)
  | .sint a n g => fun k => k (.sint a n g)
  | .nz a n g => fun k => k (.nz a n g)
  | .sbool b g => fun k => k (.sbool b g)
  | .str s => fun k => k (.str s)
  | .ptr b o => fun k => k (.ptr b o)
  | .nilp => fun k => k .nilp
  | .slice b o l c => fun k => k (.slice b o l c)
  | .nils => fun k => k .nils
  | .map b => fun k => k (.map b)
  | .nilm => fun k => k .nilm
  | .func f a b => fun k => k (.func f a b)
  | .nilf => fun k => k .nilf
  | .iface t v => fun k => k (.iface t v)
  | .nili => fun k => k .nili
  | .agg l => fun k => k (.agg l)
  | .tup l => fun k => k (.tup l)
/-! ### lists, worked out -/
variable {α : Type}
def getK : List α → Nat → (α → Option β) → Option β
  | [], _, _ => none
  | a :: l, n, k => match n with
    | .zero => k a
    | .succ n => getK l n k
def setK : List α → Nat → α → (List α → Option β) → Option β
  | [], _, _, _ => none
  | a :: l, n, v, k => match n with
    | .zero => k (v :: l)
    | .succ n => setK l n v fun l => k (a :: l)
def dropK : Nat → List α → (List α → Option β) → Option β
  | .zero, l, k => k l
  | .succ n, l, k => match l with
    | [] => none
    | _ :: l => dropK n l k
def takeK : Nat → List α → (List α → Option β) → Option β
  | .zero, _, k => k []
  | .succ n, l, k => match l with
    | [] => none
    | a :: l => takeK n l fun l => k (a :: l)
def appK : List α → List α → (List α → Option β) → Option β
  | [], m, k => k m
  | a :: l, m, k => appK l m fun r => k (a :: r)
def overK : List α → Nat → List α → (List α → Option β) → Option β
  | l, .zero, m, k => dropK m.length l fun r => appK m r k
  | l, .succ n, m, k => match l with
    | [] => none
    | a :: l => overK l n m fun l => k (a :: l)
def repK : Nat → List α → (List α → Option β) → Option β
  | .zero, _, k => k []
  | .succ n, z, k => repK n z fun r => appK z r k
end
def intEq : Int → Int → Bool
  | .ofNat a, .ofNat b => Nat.beq a b
  | .negSucc a, .negSucc b => Nat.beq a b
  | _, _ => false
def intLe : Int → Int → Bool
  | .ofNat a, .ofNat b => Nat.ble a b
  | .negSucc a, .negSucc b => Nat.ble b a
  | .negSucc _, .ofNat _ => true
  | .ofNat _, .negSucc _ => false
def intLt (a b : Int) : Bool := !(intLe b a)
def kindCode : IntKind → Nat
  | .i8 => 0 | .i16 => 1 | .i32 => 2 | .i64 => 3 | .u8 => 4 | .u16 => 5 | .u32 => 6 | .u64 => 7
def kindEq (a b : IntKind) : Bool := Nat.beq (kindCode a) (kindCode b)
def strEq : List Nat → List Nat → Bool
  | [], [] => true
  | a :: l, b :: m => Nat.beq a b && strEq l m
  | _, _ => false
def strLt : List Nat → List Nat → Bool
  | _, [] => false
  | [], _ :: _ => true
  | a :: l, b :: m => (Nat.ble (.succ a) b) || (Nat.beq a b && strLt l m)
def hiOf : IntKind → Nat
  | .i8 => 127 | .i16 => 32767 | .i32 => 2147483647 | .i64 => 9223372036854775807 | .u8 => 255 | .u16 => 65535 | .u32 => 4294967295 | .u64 => 18446744073709551615
section
variable {β : Type}
def wrapSlow (kd : IntKind) (n : Int) (k : Int → Option β) : Option β := intK (kd.wrap n) k
def wrapNeg (kd : IntKind) (m : Nat) (k : Int → Option β) : Option β :=
  match kd.signed && Nat.ble m (hiOf kd) with
  | true => k (.negSucc m)
  | false => wrapSlow kd (.negSucc m) k
def wrapPos (kd : IntKind) (m : Nat) (k : Int → Option β) : Option β :=
  match Nat.ble m (hiOf kd) with
  | true => k (.ofNat m)
  | false => wrapSlow kd (.ofNat m) k
def wrapK (kd : IntKind) (n : Int) (k : Int → Option β) : Option β :=
  match n with
  | .ofNat m => natK m fun m => wrapPos kd m k
  | .negSucc m => natK m fun m => wrapNeg kd m k
/-! ### what an operator makes -/
abbrev I2 (β : Type) := IntKind → Int → Int → (AV → Option β) → Option β
def iAdd : I2 β := fun kd x y k => wrapK kd (x + y) fun n => k (.int kd n)
def iSub : I2 β := fun kd x y k => wrapK kd (x - y) fun n => k (.int kd n)
def iMul : I2 β := fun kd x y k => wrapK kd (x * y) fun n => k (.int kd n)
def iQuo : I2 β := fun kd x y k => match intEq y 0 with
  | true => none
  | false => wrapK kd (x.tdiv y) fun n => k (.int kd n)
def iRem : I2 β := fun kd x y k => match intEq y 0 with
  | true => none
  | false => intK (x.tmod y) fun n => k (.int kd n)
def iAnd : I2 β := fun kd x y k => intK (kd.wrap ((BitVec.ofInt kd.bits x &&& BitVec.ofInt kd.bits y).toNat)) fun n => k (.int kd n)
def iOr : I2 β := fun kd x y k => intK (kd.wrap ((BitVec.ofInt kd.bits x ||| BitVec.ofInt kd.bits y).toNat)) fun n => k (.int kd n)
def iXor : I2 β := fun kd x y k => intK (kd.wrap ((BitVec.ofInt kd.bits x ^^^ BitVec.ofInt kd.bits y).toNat)) fun n => k (.int kd n)
def iAndNot : I2 β := fun kd x y k => intK (kd.wrap ((BitVec.ofInt kd.bits x &&& ~~~BitVec.ofInt kd.bits y).toNat)) fun n => k (.int kd n)
def iEql : I2 β := fun kd x y k => boolK (intEq x y) fun b => k (.bool b)
def iNeq : I2 β := fun kd x y k => boolK (!(intEq x y)) fun b => k (.bool b)
def iLss : I2 β := fun kd x y k => boolK (intLt x y) fun b => k (.bool b)
def iLeq : I2 β := fun kd x y k => boolK (intLe x y) fun b => k (.bool b)
def iGtr : I2 β := fun kd x y k => boolK (intLt y x) fun b => k (.bool b)
def iGeq : I2 β := fun kd x y k => boolK (intLe y x) fun b => k (.bool b)
def iNone : I2 β := fun kd x y k => none
def intOp : BinOp → I2 β
  | .add => iAdd | .sub => iSub | .mul => iMul | .quo => iQuo | .rem => iRem | .and => iAnd | .or => iOr | .xor => iXor | .andNot => iAndNot
  | .eql => iEql | .neq => iNeq | .lss => iLss | .leq => iLeq | .gtr => iGtr | .geq => iGeq | .shl => iNone | .shr => iNone
abbrev S2 (β : Type) := List Nat → List Nat → (AV → Option β) → Option β
def sAdd : S2 β := fun x y k => match Nat.ble (x.length + y.length) 1000000000 with
  | true => appK x y fun l => k (.str l)
  | false => none
def sEql : S2 β := fun x y k => boolK (strEq x y) fun b => k (.bool b)
def sNeq : S2 β := fun x y k => boolK (!(strEq x y)) fun b => k (.bool b)
def sLss : S2 β := fun x y k => boolK (strLt x y) fun b => k (.bool b)
def sLeq : S2 β := fun x y k => boolK (strLt x y || strEq x y) fun b => k (.bool b)
def sGtr : S2 β := fun x y k => boolK (!(strLt x y || strEq x y)) fun b => k (.bool b)
def sGeq : S2 β := fun x y k => boolK (!(strLt x y)) fun b => k (.bool b)
def sNone : S2 β := fun x y k => none
def strOp : BinOp → S2 β
  | .add => sAdd | .eql => sEql | .neq => sNeq | .lss => sLss | .leq => sLeq | .gtr => sGtr | .geq => sGeq
  | _ => sNone
/-! ### numbers that are not worked out -/
def tagB (g : Nat) (b : Bool) : Bool := b
def symFork (g : Nat) (b : Bool) (x y : Option β) : Option β :=
  match hintOf g with
  | .zero => match tagB g b with
    | true => x
    | false => y
  | .succ .zero => match tagB g b with
    | true => x
    | false => none
  | .succ (.succ _) => match tagB g b with
    | true => none
    | false => y
def tg (c g h : Nat) : Nat := Nat.mod (Nat.add (Nat.mul (Nat.add (Nat.mul g 7919) h) 104729) c) 1000000007
def tgI : Int → Nat
  | .ofNat m => Nat.add (Nat.mul 2 m) 2
  | .negSucc m => Nat.add (Nat.mul 2 m) 3
def forkI (g : Nat) : Nat → Int → (Nat → Option β) → Option β
  | .zero, _, _ => none
  | .succ n, i, k => symFork (tg 61 g n) (decide (i = (n : Int))) (k n) (forkI g n i k)
def intOf : AV → (IntKind → Int → Nat → Option β) → Option β
  | .int kd n => fun k => k kd n (tgI n)
  | .sint kd n g => fun k => k kd n g
  | .nz kd n g => fun k => k kd n g
  | _ => fun _ => none
abbrev Y2 (β : Type) := IntKind → Int → Int → Nat → (AV → Option β) → Option β
def yAdd : Y2 β := fun kd x y g k => k (.sint kd (kd.wrap (x + y)) g)
def ySub : Y2 β := fun kd x y g k => k (.sint kd (kd.wrap (x - y)) g)
def yMul : Y2 β := fun kd x y g k => k (.sint kd (kd.wrap (x * y)) g)
def yQuo : Y2 β := fun kd x y g k => symFork (tg 62 g 0) (decide (y = 0)) none (k (.sint kd (kd.wrap (x.tdiv y)) g))
def yRem : Y2 β := fun kd x y g k => symFork (tg 62 g 0) (decide (y = 0)) none (k (.sint kd (x.tmod y) g))
def yAnd : Y2 β := fun kd x y g k => k (.sint kd (kd.wrap ((BitVec.ofInt kd.bits x &&& BitVec.ofInt kd.bits y).toNat)) g)
def yOr : Y2 β := fun kd x y g k => k (.sint kd (kd.wrap ((BitVec.ofInt kd.bits x ||| BitVec.ofInt kd.bits y).toNat)) g)
def yXor : Y2 β := fun kd x y g k => k (.sint kd (kd.wrap ((BitVec.ofInt kd.bits x ^^^ BitVec.ofInt kd.bits y).toNat)) g)
def yAndNot : Y2 β := fun kd x y g k => k (.sint kd (kd.wrap ((BitVec.ofInt kd.bits x &&& ~~~BitVec.ofInt kd.bits y).toNat)) g)
def yEql : Y2 β := fun kd x y g k => k (.sbool (decide (x = y)) g)
def yNeq : Y2 β := fun kd x y g k => k (.sbool (!(decide (x = y))) g)
def yLss : Y2 β := fun kd x y g k => k (.sbool (decide (x < y)) g)
def yLeq : Y2 β := fun kd x y g k => k (.sbool (decide (x ≤ y)) g)
def yGtr : Y2 β := fun kd x y g k => k (.sbool (decide (y < x)) g)
def yGeq : Y2 β := fun kd x y g k => k (.sbool (decide (y ≤ x)) g)
def yNone : Y2 β := fun kd x y g k => none
def symOp : BinOp → Y2 β
  | .add => yAdd | .sub => ySub | .mul => yMul | .quo => yQuo | .rem => yRem | .and => yAnd | .or => yOr | .xor => yXor | .andNot => yAndNot
  | .eql => yEql | .neq => yNeq | .lss => yLss | .leq => yLeq | .gtr => yGtr | .geq => yGeq | .shl => yNone | .shr => yNone
def symSh : BinOp → Y2 β
  | .shl => fun kd x y g k => symFork (tg 63 g 0) (decide (y < 0)) none (k (.sint kd (kd.wrap (x * 2 ^ (min y.toNat kd.bits))) g))
  | .shr => fun kd x y g k => symFork (tg 63 g 0) (decide (y < 0)) none (k (.sint kd (x.fdiv (2 ^ (min y.toNat kd.bits))) g))
  | _ => yNone
def nzOp : BinOp → Y2 β
  | .quo => fun kd x y g k => k (.sint kd (kd.wrap (x.tdiv y)) g)
  | .rem => fun kd x y g k => k (.sint kd (x.tmod y) g)
  | op => symOp op
def opNo : BinOp → Nat
  | .add => 1 | .sub => 2 | .mul => 3 | .quo => 4 | .rem => 5 | .and => 6 | .or => 7 | .xor => 8 | .andNot => 9
  | .eql => 10 | .neq => 11 | .lss => 12 | .leq => 13 | .gtr => 14 | .geq => 15 | .shl => 16 | .shr => 17
def truthOf : AV → (Bool → Nat → Option β) → Option β
  | .bool b => fun k => k b (match b with | true => 1 | false => 2)
  | .sbool b g => fun k => k b g
  | _ => fun _ => none
def shOp : BinOp → I2 β
  | .shl => fun kd x y k => match intLt y 0 with
    | true => none
    | false => wrapK kd (x * 2 ^ (min y.toNat kd.bits)) fun n => k (.int kd n)
  | .shr => fun kd x y k => match intLt y 0 with
    | true => none
    | false => intK (x.fdiv (2 ^ (min y.toNat kd.bits))) fun n => k (.int kd n)
  | _ => iNone
end
inductive ET where
  | no
  | bool | int (k : IntKind) | str
  | ptr                                     -- to a type of some cells
  | iface
  | struct (fs : List (Nat × ET))           -- each field's place and kind (fields of one cell)
  | nsl | nmp | nfn                         -- a slice, a map, a function: against nil
def eqA (h : Hp) : ET → AV → AV → Option Bool
  | .bool, .bool a, .bool b => some (a == b)
  | .int _, .int j a, .int k b => match kindEq j k with
    | true => some (intEq a b)
    | false => none
  | .str, .str a, .str b => some (strEq a b)
  | .ptr, .nilp, .nilp => some true
  | .ptr, .nilp, .ptr _ _ => some false
  | .ptr, .ptr _ _, .nilp => some false
  | .ptr, .ptr a i, .ptr b j => match h.get a, h.get b with
    | .cells _, .cells _ => match a.beq b with
      | true => some (Nat.beq i j)
      | false => some false
    | _, _ => none
  | .iface, .nili, .nili => some true
  | .iface, .nili, .iface _ _ => some false
  | .iface, .iface _ _, .nili => some false
  | .nsl, .nils, .nils => some true
  | .nsl, .nils, .slice _ _ _ _ => some false
  | .nsl, .slice _ _ _ _, .nils => some false
  | .nmp, .nilm, .nilm => some true
  | .nmp, .nilm, .map _ => some false
  | .nmp, .map _, .nilm => some false
  | .nfn, .nilf, .nilf => some true
  | .nfn, .nilf, .func _ _ _ => some false
  | .nfn, .func _ _ _, .nilf => some false
  | _, _, _ => none
def eqFields (h : Hp) : List (Nat × ET) → List AV → List AV → Option Bool
  | [], _, _ => some true
  | (o, e) :: fs, x, y => match x[o]?, y[o]? with
    | some a, some b => match eqA h e a b with
      | some true => eqFields h fs x y
      | some false => some false
      | none => none
    | _, _ => none
def eqV (h : Hp) : ET → AV → AV → Option Bool
  | .struct fs, .agg x, .agg y => eqFields h fs x y
  | e, a, b => eqA h e a b
/-! ### operations that write nothing that was there -/
inductive NOp where
  | mv
  | pick
  | alloc (z : List AV)
  | box
  | build (z : List AV) (places : List (Nat × Nat))
  | buildSlice (len : Nat) (z : List AV) (places : List (Nat × Nat))
  | load (agg : Option Nat)
  | nilChk
  | ar (op : BinOp)
  | sh (op : BinOp)
  | eq (neg : Bool) (e : ET)
  | neg | bnot | inv
  | toInt (k : IntKind)
  | strId
  | s2b | b2s
  | mkIface (t : Nat)
  | mkFunc (fn : Fn) (nf : Nat)
  | mkMap
  | mkSlice (size : Nat) (z : List AV) (bytes : Nat)
  | slStr (lo hi : Bool)
  | slSl (size : Nat) (lo hi mx : Bool)
  | slArr (n size : Nat) (lo hi : Bool)
  | fieldAddr (off : Nat)
  | field (off : Nat) (agg : Option Nat)
  | idxAddrSl (size : Nat)
  | idxAddrArr (n size : Nat)
  | idxArr (n size : Nat) (agg : Bool)
  | idxStr
  | lookup (e : ET) (z : AV) (ok : Bool)
  | extract (i : Nat)
  | tassert (t : Nat) (z : AV) (ok : Bool)
  | lenStr | lenSl | lenMap | lenC (n : Nat) | cap
  | min | max
  | bad
section
variable {β : Type}
abbrev NF (β : Type) := List AV → Hp → Bid → (AV → Option AObj → Option β) → Option β
def mvF : NF β
  | [v], h, x, k => k v none
  | _, _, _, _ => none
def pickF : NF β
  | [.bool true, a, _], h, x, k => k a none
  | [.bool false, _, b], h, x, k => k b none
  | [.sbool c g, a, b], h, x, k => symFork g c (k a none) (k b none)
  | _, _, _, _ => none
def allocF (z : List AV) : NF β
  | [], h, x, k => k (.ptr x 0) (some (.cells z))
  | _, _, _, _ => none
def cellsK : AV → (List AV → Option β) → Option β
  | .agg l => fun k => k l
  | .un => fun k => none
  | .tup _ => fun k => none
  | v => fun k => k [v]
def boxF : NF β
  | [v], h, x, k => cellsK v fun l => k (.ptr x 0) (some (.cells l))
  | _, _, _, _ => none
def fillK : List (Nat × Nat) → List AV → List AV → (List AV → Option β) → Option β
  | [], [], z, k => k z
  | (off, size) :: ps, v :: vs, z, k => cellsK v fun l => match Nat.beq l.length size with
    | true => overK z off l fun z => fillK ps vs z k
    | false => none
  | _, _, _, _ => none
def buildF (z : List AV) (ps : List (Nat × Nat)) : NF β
  | vs, h, x, k => fillK ps vs z fun l => k (.agg l) none
def buildSliceF (len : Nat) (z : List AV) (ps : List (Nat × Nat)) : NF β
  | vs, h, x, k => fillK ps vs z fun l => k (.slice x 0 len (.ex len)) (some (.cells l))
def knownK : AObj → (List AV → Option β) → Option β
  | .cells l => fun k => k l
  | .opn l _ => fun k => k l
  | _ => fun _ => none
def partK (l : List AV) (o : Nat) : Option Nat → (AV → Option β) → Option β
  | none => fun k => getK l o fun v => avK v k
  | some n => fun k => dropK o l fun l => takeK n l fun l => k (.agg l)
def loadF (agg : Option Nat) : NF β
  | [.ptr b o], h, x, k => knownK (h.get b) fun l => partK l o agg fun v => k v none
  | _, _, _, _ => none
def nilChkF : NF β
  | [.ptr b o], h, x, k => k (.ptr b o) none
  | [.iface t v], h, x, k => k (.iface t v) none
  | [.func (.func f) a b], h, x, k => k (.func (.func f) a b) none
  | _, _, _, _ => none
def arF (op : BinOp) : NF β
  | [.int kd a, .int kd' b], h, x, k => match kindEq kd kd' with
    | true => intOp op kd a b fun v => k v none
    | false => none
  | [.str a, .str b], h, x, k => strOp op a b fun v => k v none
  | [a, .nz kd' b g'], h, x, k => intOf a fun kd a g => match kindEq kd kd' with
    | true => nzOp op kd a b (tg (opNo op) g g') fun v => k v none
    | false => none
  | [a, b], h, x, k => intOf a fun kd a g => intOf b fun kd' b g' => match kindEq kd kd' with
    | true => symOp op kd a b (tg (opNo op) g g') fun v => k v none
    | false => none
  | _, _, _, _ => none
def shF (op : BinOp) : NF β
  | [.int kd a, .int _ b], h, x, k => shOp op kd a b fun v => k v none
  | [a, b], h, x, k => intOf a fun kd a g => intOf b fun _ b g' => symSh op kd a b (tg (opNo op) g g') fun v => k v none
  | _, _, _, _ => none
def eqF0 (ng : Bool) (e : ET) : NF β
  | [a, b], h, x, k => match eqV h e a b with
    | some r => boolK (r != ng) fun b => k (.bool b) none
    | none => none
  | _, _, _, _ => none
def eqB (ng : Bool) : NF β
  | [a, b], h, x, k => truthOf a fun a g => truthOf b fun b g' => k (.sbool ((a == b) != ng) (tg (match ng with | true => 64 | false => 65) g g')) none
  | _, _, _, _ => none
def eqF (ng : Bool) (e : ET) : NF β := fun vs h x k => match e, vs with
  | .bool, [.bool a, .bool b] => eqF0 ng e vs h x k
  | .bool, _ => eqB ng vs h x k
  | _, _ => eqF0 ng e vs h x k
def negF : NF β
  | [.int kd a], h, x, k => iSub kd 0 a fun v => k v none
  | [.sint kd a g], h, x, k => ySub kd 0 a (tg 66 g 0) fun v => k v none
  | _, _, _, _ => none
def bnotF : NF β
  | [.bool b], h, x, k => boolK (!b) fun b => k (.bool b) none
  | [.sbool b g], h, x, k => k (.sbool (!b) (tg 67 g 0)) none
  | _, _, _, _ => none
def invF : NF β
  | [.int kd a], h, x, k => iXor kd (if kd.signed then -1 else kd.max) a fun v => k v none
  | [.sint kd a g], h, x, k => yXor kd (if kd.signed then -1 else kd.max) a (tg 68 g 0) fun v => k v none
  | _, _, _, _ => none
def toIntF (kd : IntKind) : NF β
  | [.int _ a], h, x, k => wrapK kd a fun n => k (.int kd n) none
  | [.sint _ a g], h, x, k => k (.sint kd (kd.wrap a) (tg 69 g (kindCode kd))) none
  | _, _, _, _ => none
def strIdF : NF β
  | [.str s], h, x, k => k (.str s) none
  | _, _, _, _ => none
def u8s : List Nat → (List AV → Option β) → Option β
  | [], k => k []
  | a :: l, k => u8s l fun l => k (.int .u8 (.ofNat a) :: l)
def s2bF : NF β
  | [.str s], h, x, k => u8s s fun l => natK s.length fun n => k (.slice x 0 n (.op 0)) (some (.opn l 1))
  | _, _, _, _ => none
def bytesK : List AV → (List Nat → Option β) → Option β
  | [], k => k []
  | .int .u8 (.ofNat a) :: l, k => match Nat.ble a 255 with
    | true => bytesK l fun l => k (a :: l)
    | false => none
  | .sint .u8 n _ :: l, k => bytesK l fun l => k ((UInt8.ofNat n.toNat).toNat :: l)
  | _, _ => none
def b2sF : NF β
  | [.nils], h, x, k => k (.str []) none
  | [.slice b o n _], h, x, k => knownK (h.get b) fun l => dropK o l fun l => takeK n l fun l => bytesK l fun s => k (.str s) none
  | _, _, _, _ => none
def mkIfaceF (t : Nat) : NF β
  | [v], h, x, k => k (.iface t v) none
  | _, _, _, _ => none
def mkFuncF (fn : Fn) (nf : Nat) : NF β
  | vs, h, x, k => takeK nf vs fun a => dropK nf vs fun b => k (.func fn a b) none
def mkMapF : NF β
  | [], h, x, k => k (.map x) (some (.map [] 0))
  | [.int _ _], h, x, k => k (.map x) (some (.map [] 0))
  | _, _, _, _ => none
def mkSliceF (size : Nat) (z : List AV) (bytes : Nat) : NF β
  | [.int .i64 (.ofNat n), .int .i64 (.ofNat c)], h, x, k => match Nat.ble n c && Nat.ble (bytes * c) 1000000000 && Nat.ble c 1000000000 with
    | true => repK c z fun l => k (.slice x 0 n (.ex c)) (some (.cells l))
    | false => none
  | _, _, _, _ => none
def bndK (lo hi : Bool) (vs : List AV) (dflt top : Nat) (k : Nat → Nat → Option β) : Option β :=
  match lo, hi, vs with
  | false, false, [] => match Nat.ble dflt top with | true => k 0 dflt | false => none
  | true, false, [.int _ (.ofNat l)] => match Nat.ble l dflt && Nat.ble dflt top with | true => k l dflt | false => none
  | false, true, [.int _ (.ofNat r)] => match Nat.ble r top with | true => k 0 r | false => none
  | true, true, [.int _ (.ofNat l), .int _ (.ofNat r)] => match Nat.ble l r && Nat.ble r top with | true => k l r | false => none
  | _, _, _ => none
def slStrF (lo hi : Bool) : NF β
  | .str s :: vs, h, x, k => bndK lo hi vs s.length s.length fun l r => dropK l s fun t => takeK (r - l) t fun t => k (.str t) none
  | _, _, _, _ => none
def pieceEx (size : Nat) (b : Bid) (o c l r : Nat) (k : AV → Option AObj → Option β) : Option β :=
  match Nat.beq c l with
  | true => natK (r - l) fun n => natK (c - l) fun m => k (.slice b o n (.ex m)) none
  | false => natK (o + l * size) fun o => natK (r - l) fun n => natK (c - l) fun m => k (.slice b o n (.ex m)) none
def pieceOp (size : Nat) (b : Bid) (o n g l r : Nat) (k : AV → Option AObj → Option β) : Option β :=
  match Nat.ble (.succ l) n with
  | true => natK (o + l * size) fun o => natK (r - l) fun n => natK (g + l) fun g => k (.slice b o n (.op g)) none
  | false => match l with
    | .zero => k (.slice b o 0 (.op g)) none
    | .succ _ => k (.slice b o 0 .em) none
def slMx (size : Nat) (lo hi : Bool) (b : Bid) (o lim : Nat) (vs : List AV) (k : AV → Option AObj → Option β) : Option β := match lo, hi, vs with
  | _, true, [.int _ (.ofNat l), .int _ (.ofNat r), .int _ (.ofNat m)] => match lo && Nat.ble l r && Nat.ble r m && Nat.ble m lim with
    | true => pieceEx size b o m l r k
    | false => none
  | _, true, [.int _ (.ofNat r), .int _ (.ofNat m)] => match !lo && Nat.ble r m && Nat.ble m lim with
    | true => pieceEx size b o m 0 r k
    | false => none
  | _, _, _ => none
def slSlF (size : Nat) (lo hi mx : Bool) : NF β
  | .nils :: vs, h, x, k => match mx with
    | false => bndK lo hi vs 0 0 fun l r => k .nils none
    | true => none
  | .slice b o n (.ex c) :: vs, h, x, k => match mx with
    | false => bndK lo hi vs n c fun l r => pieceEx size b o c l r k
    | true => slMx size lo hi b o c vs k
  | .slice b o n (.op g) :: vs, h, x, k => match mx with
    | false => bndK lo hi vs n n fun l r => pieceOp size b o n g l r k
    | true => slMx size lo hi b o n vs k
  | .slice b o n .em :: vs, h, x, k => match mx with
    | false => bndK lo hi vs 0 0 fun l r => k (.slice b o n .em) none
    | true => none
  | _, _, _, _ => none
def slArrF (n size : Nat) (lo hi : Bool) : NF β
  | .ptr b o :: vs, h, x, k => bndK lo hi vs n n fun l r => pieceEx size b o n l r k
  | _, _, _, _ => none
def fieldAddrF (off : Nat) : NF β
  | [.ptr b o], h, x, k => natK (o + off) fun o => k (.ptr b o) none
  | _, _, _, _ => none
def fieldF (off : Nat) (agg : Option Nat) : NF β
  | [.agg l], h, x, k => partK l off agg fun v => k v none
  | _, _, _, _ => none
def idxAddrSlF (size : Nat) : NF β
  | [.slice b o n _, .int _ (.ofNat i)], h, x, k => match Nat.ble (.succ i) n with
    | true => natK (o + i * size) fun o => k (.ptr b o) none
    | false => none
  | [.slice b o n _, .sint _ i g], h, x, k => forkI g n i fun i => natK (o + i * size) fun o => k (.ptr b o) none
  | _, _, _, _ => none
def idxAddrArrF (n size : Nat) : NF β
  | [.ptr b o, .int _ (.ofNat i)], h, x, k => match Nat.ble (.succ i) n with
    | true => natK (o + i * size) fun o => k (.ptr b o) none
    | false => none
  | [.ptr b o, .sint _ i g], h, x, k => forkI g n i fun i => natK (o + i * size) fun o => k (.ptr b o) none
  | _, _, _, _ => none
def optIf (agg : Bool) (size : Nat) : Option Nat := match agg with | true => some size | false => none
def idxArrF (n size : Nat) (agg : Bool) : NF β
  | [.agg l, .int _ (.ofNat i)], h, x, k => match Nat.ble (.succ i) n with
    | true => partK l (i * size) (optIf agg size) fun v => k v none
    | false => none
  | _, _, _, _ => none
def idxStrF : NF β
  | [.str s, .int _ (.ofNat i)], h, x, k => getK s i fun c => natK c fun c => k (.int .u8 (.ofNat c)) none
  | _, _, _, _ => none
def keyFit1 : ET → AV → Bool
  | .bool, .bool _ => true
  | .int _, .int _ _ => true
  | .str, .str _ => true
  | _, _ => false
def keyFitF : List (Nat × ET) → List AV → Bool
  | [], _ => true
  | (o, e) :: fs, l => (match l[o]? with | some v => keyFit1 e v | none => false) && keyFitF fs l
def keyFits : ET → AV → Bool
  | .struct fs, .agg l => keyFitF fs l
  | e, v => keyFit1 e v
def findA (h : Hp) (e : ET) (key : AV) : List (AV × AV × Nat) → Nat → Option (Option (Nat × AV))
  | [], _ => some none
  | (a, v, _) :: es, i => match eqV h e key a with
    | some true => some (some (i, v))
    | some false => findA h e key es (.succ i)
    | none => none
def lookK (ok : Bool) (v : AV) (was : Bool) (k : AV → Option AObj → Option β) : Option β :=
  match ok with
  | true => k (.tup [v, .bool was]) none
  | false => k v none
def lookupF (e : ET) (z : AV) (ok : Bool) : NF β
  | [.nilm, key], h, x, k => match keyFits e key with
    | true => lookK ok z false k
    | false => none
  | [.map b, key], h, x, k => match h.get b, keyFits e key with
    | .map es _, true => match findA h e key es 0 with
      | some (some (_, v)) => avK v fun v => lookK ok v true k
      | some none => lookK ok z false k
      | none => none
    | _, _ => none
  | _, _, _, _ => none
def extractF (i : Nat) : NF β
  | [.tup l], h, x, k => getK l i fun v => avK v fun v => k v none
  | _, _, _, _ => none
def tassertF (t : Nat) (z : AV) (ok : Bool) : NF β
  | [.iface u v], h, x, k => match Nat.beq u t with
    | true => avK v fun v => lookK ok v true k
    | false => match ok with
      | true => k (.tup [z, .bool false]) none
      | false => none
  | [.nili], h, x, k => match ok with
    | true => k (.tup [z, .bool false]) none
    | false => none
  | _, _, _, _ => none
def lenStrF : NF β
  | [.str s], h, x, k => natK s.length fun n => k (.int .i64 (.ofNat n)) none
  | _, _, _, _ => none
def lenSlF : NF β
  | [.nils], h, x, k => k (.int .i64 (.ofNat 0)) none
  | [.slice _ _ n _], h, x, k => k (.int .i64 (.ofNat n)) none
  | _, _, _, _ => none
def lenMapF : NF β
  | [.nilm], h, x, k => k (.int .i64 (.ofNat 0)) none
  | [.map b], h, x, k => match h.get b with
    | .map es _ => natK es.length fun n => k (.int .i64 (.ofNat n)) none
    | _ => none
  | _, _, _, _ => none
def lenCF (n : Nat) : NF β
  | [], h, x, k => k (.int .i64 (.ofNat n)) none
  | _, _, _, _ => none
def capF : NF β
  | [.nils], h, x, k => k (.int .i64 (.ofNat 0)) none
  | [.slice _ _ _ (.ex c)], h, x, k => k (.int .i64 (.ofNat c)) none
  | [.slice _ _ _ _], h, x, k => k .un none
  | _, _, _, _ => none
def minF : NF β
  | [.int kd a, .int _ b], h, x, k => match intLt b a with
    | true => k (.int kd b) none
    | false => k (.int kd a) none
  | _, _, _, _ => none
def badF : NF β
  | _, _, _, _ => none
def maxF : NF β
  | [.int kd a, .int _ b], h, x, k => match intLt a b with
    | true => k (.int kd b) none
    | false => k (.int kd a) none
  | _, _, _, _ => none
def nrun : NOp → NF β
  | .mv => mvF | .pick => pickF | .alloc z => allocF z | .box => boxF | .build z p => buildF z p | .buildSlice n z p => buildSliceF n z p
  | .load a => loadF a | .nilChk => nilChkF | .ar op => arF op | .sh op => shF op | .eq n e => eqF n e | .neg => negF | .bnot => bnotF | .inv => invF
  | .toInt k => toIntF k | .strId => strIdF | .s2b => s2bF | .b2s => b2sF | .mkIface t => mkIfaceF t | .mkFunc f n => mkFuncF f n | .mkMap => mkMapF
  | .mkSlice s z b => mkSliceF s z b | .slStr l h => slStrF l h | .slSl s l h m => slSlF s l h m | .slArr n s l h => slArrF n s l h
  | .fieldAddr o => fieldAddrF o | .field o a => fieldF o a | .idxAddrSl s => idxAddrSlF s | .idxAddrArr n s => idxAddrArrF n s | .idxArr n s a => idxArrF n s a
  | .idxStr => idxStrF | .lookup e z o => lookupF e z o | .extract i => extractF i | .tassert t z o => tassertF t z o
  | .lenStr => lenStrF | .lenSl => lenSlF | .lenMap => lenMapF | .lenC n => lenCF n | .cap => capF | .min => minF | .max => maxF | .bad => badF
/-! ### sameness of values -/
mutual
def AV.beq : AV → AV → Bool
  | .bool a, .bool b => a == b
  | .int j a, .int k b => kindEq j k && intEq a b
  | .sint j a g, .sint k b g' => kindEq j k && (Nat.beq g g' && decide (a = b))
  | .nz j a g, .nz k b g' => kindEq j k && (Nat.beq g g' && decide (a = b))
  | .sbool a g, .sbool b g' => Nat.beq g g' && a == b
  | .str a, .str b => strEq a b
  | .ptr a i, .ptr b j => Nat.beq i j && a.beq b
  | .nilp, .nilp => true
  | .slice a i l (.ex c), .slice b j m (.ex d) => Nat.beq i j && (Nat.beq l m && (Nat.beq c d && a.beq b))
  | .slice a i l (.op c), .slice b j m (.op d) => Nat.beq i j && (Nat.beq l m && (Nat.beq c d && a.beq b))
  | .nils, .nils => true
  | .map a, .map b => a.beq b
  | .nilm, .nilm => true
  | .func (.func f) a b, .func (.func g) c d => Nat.beq f g && (AV.beqs a c && AV.beqs b d)
  | .nilf, .nilf => true
  | .iface t v, .iface u w => Nat.beq t u && AV.beq v w
  | .nili, .nili => true
  | .agg a, .agg b => AV.beqs a b
  | .tup a, .tup b => AV.beqs a b
  | _, _ => false
def AV.beqs : List AV → List AV → Bool
  | [], [] => true
  | a :: l, b :: m => AV.beq a b && AV.beqs l m
  | _, _ => false
end
/-! ### sameness, with ways -/
section
variable {β : Type}
mutual
def AV.sameK : AV → AV → Option β → Option β
  | .sint j a g, b, c => match b with
    | .sint k b g' => match kindEq j k && Nat.beq g g' with
      | true => symFork 0 (decide (a = b)) c none
      | false => none
    | _ => none
  | .nz j a g, b, c => match b with
    | .nz k b g' => match kindEq j k && Nat.beq g g' with
      | true => symFork 0 (decide (a = b)) c none
      | false => none
    | _ => none
  | .sbool a g, b, c => match b with
    | .sbool b g' => match Nat.beq g g' with
      | true => symFork 0 (a == b) c none
      | false => none
    | _ => none
  | .agg l, b, c => match b with
    | .agg m => AV.samesK l m c
    | _ => none
  | .tup l, b, c => match b with
    | .tup m => AV.samesK l m c
    | _ => none
  | .iface t v, b, c => match b with
    | .iface u w => match Nat.beq t u with
      | true => AV.sameK v w c
      | false => none
    | _ => none
  | a, b, c => match AV.beq a b with
    | true => c
    | false => none
def AV.samesK : List AV → List AV → Option β → Option β
  | [], m, c => match m with
    | [] => c
    | _ :: _ => none
  | a :: l, m, c => match m with
    | [] => none
    | b :: m => AV.sameK a b (AV.samesK l m c)
end
end
/-! ### operations that write -/
inductive EOp where
  | assign
  | store (size : Option Nat)
  | mapUpd (e : ET)
  | append (size : Nat) (bytes : Nat)
  | copy (size : Nat)
  | clear (z : List AV)
  | delete (e : ET)
  | callF (f : Nat)
  | callV
  | invoke (name : String)
abbrev EK (β : Type) := AV → Hp → Bid → Option β
abbrev EF (β : Type) := List AV → Hp → Bid → EK β → Option β
def assignE : EF β
  | [v], h, x, k => k v h x
  | _, _, _, _ => none
def okCell : AV → Bool
  | .un => false
  | .agg _ => false
  | .tup _ => false
  | _ => true
def okCells : List AV → Bool
  | [] => true
  | a :: l => okCell a && okCells l
def overObj1 (o : Nat) (l : List AV) (b : Bid) (h : Hp) : AObj → (Hp → Option β) → Option β
  | .cells c => fun k => overK c o l fun c => Hp.putK b (.cells c) h k
  | .opn c sz => fun k => overK c o l fun c => Hp.putK b (.opn c sz) h k
  | _ => fun _ => none
def overObj (o : Nat) (l : List AV) (b : Bid) (h : Hp) (ob : AObj) (k : Hp → Option β) : Option β :=
  match okCells l with
  | true => overObj1 o l b h ob k
  | false => none
def storeE (size : Option Nat) : EF β
  | [.ptr b o, v], h, x, k => cellsK v fun l => match Nat.beq l.length (match size with | none => 1 | some n => n) with
    | true => overObj o l b h (h.get b) fun h => k .un h x
    | false => none
  | _, _, _, _ => none
def mapSet (v : AV) (es : List (AV × AV × Nat)) (i : Nat) (key : AV) (k : List (AV × AV × Nat) → Option β) : Option β :=
  getK es i fun e => match AV.beq e.1 key with
    | true => setK es i (key, v, e.2.2) k
    | false => none
def plainKey1 : AV → Bool
  | .bool _ => true
  | .int _ _ => true
  | .str _ => true
  | _ => false
def plainKey : AV → Bool
  | .agg l => l.all plainKey1
  | v => plainKey1 v
def mapUpdE (e : ET) : EF β
  | [.map b, key, v], h, x, k => match h.get b, keyFits e key && plainKey key with
    | .map es c, true => match findA h e key es 0 with
      | some (some (i, _)) => mapSet v es i key fun es => Hp.putK b (.map es c) h fun h => k .un h x
      | some none => appK es [(key, v, c)] fun es => natK (.succ c) fun c => Hp.putK b (.map es c) h fun h => k .un h x
      | none => none
    | _, _ => none
  | _, _, _, _ => none
def srcPart (size : Nat) (h : Hp) (b : Bid) (o : Nat) (k : List AV → Option β) : Nat → Option β
  | .zero => k []
  | .succ n => knownK (h.get b) fun l => dropK o l fun l => takeK ((.succ n) * size) l k
def srcK (size : Nat) (h : Hp) (n : Nat) : AV → (List AV → Option β) → Option β
  | .nils => fun k => match n with
    | .zero => k []
    | .succ _ => none
  | .str s => fun k => takeK n s fun s => u8s s k
  | .slice b o m _ => fun k => match Nat.ble n m with
    | true => srcPart size h b o k n
    | false => none
  | _ => fun _ => none
def lenA : AV → (Nat → Option β) → Option β
  | .nils => fun k => k 0
  | .str s => fun k => natK s.length k
  | .slice _ _ n _ => fun k => k n
  | _ => fun _ => none
def freshK (h : Hp) (x : Bid) (k : Bid → Option β) : Option β :=
  match h.get x with
  | .no => Bid.succK x k
  | _ => none
def growE (size n m : Nat) (old src : List AV) (h : Hp) (x : Bid) (k : EK β) : Option β :=
  freshK h x fun y => appK old src fun l => natK (n + m) fun n => Hp.putK x (.opn l size) h fun h => k (.slice x 0 n (.op 0)) h y
def appendE (size bytes : Nat) : EF β
  | [s, a], h, x, k => lenA a fun m => srcK size h m a fun src => match Nat.ble bytes 1024 && (Nat.ble m 1000000 && (Nat.beq src.length (m * size) && okCells src)) with
    | false => none
    | true => match s with
      | .nils => match m with
        | .zero => k .nils h x
        | .succ _ => growE size 0 m [] src h x k
      | .slice b o n (.ex c) => match Nat.ble n 1000000 with
        | false => none
        | true => match Nat.ble (n + m) c with
          | true => overObj (o + n * size) src b h (h.get b) fun h => natK (n + m) fun n => k (.slice b o n (.ex c)) h x
          | false => knownK (h.get b) fun l => dropK o l fun l => takeK (n * size) l fun old => growE size n m old src h x k
      | .slice b o n (.op g) => match Nat.ble n 1000000 with
        | false => none
        | true => match h.get b with
          | .opn l sz => match Nat.beq sz size && Nat.beq (g * size) o with
            | true => dropK o l fun l => takeK (n * size) l fun old => Hp.putK b .dead h fun h => growE size n m old src h x k
            | false => none
          | _ => none
      | _ => none
  | _, _, _, _ => none
def copyE (size : Nat) : EF β
  | [d, s], h, x, k => lenA d fun n => lenA s fun m => natK (Nat.min m n) fun n => srcK size h n s fun src =>
    match d with
    | .nils => k (.int .i64 (.ofNat n)) h x
    | .slice _ _ _ .em => match src with
      | [] => k (.int .i64 (.ofNat n)) h x
      | _ => none
    | .slice b o _ _ => overObj o src b h (h.get b) fun h => k (.int .i64 (.ofNat n)) h x
    | _ => none
  | _, _, _, _ => none
def clearE (z : List AV) : EF β
  | [.nils], h, x, k => k (.tup []) h x
  | [.nilm], h, x, k => k (.tup []) h x
  | [.slice _ _ _ .em], h, x, k => k (.tup []) h x
  | [.slice b o n _], h, x, k => repK n z fun l => overObj o l b h (h.get b) fun h => k (.tup []) h x
  | [.map b], h, x, k => match h.get b with
    | .map _ c => Hp.putK b (.map [] c) h fun h => k (.tup []) h x
    | _ => none
  | _, _, _, _ => none
def eraseK {α : Type} : List α → Nat → (List α → Option β) → Option β
  | [], _, _ => none
  | a :: l, n, k => match n with
    | .zero => k l
    | .succ n => eraseK l n fun l => k (a :: l)
def deleteE (e : ET) : EF β
  | [.nilm, key], h, x, k => match keyFits e key with
    | true => k (.tup []) h x
    | false => none
  | [.map b, key], h, x, k => match h.get b, keyFits e key with
    | .map es c, true => match findA h e key es 0 with
      | some (some (i, _)) => eraseK es i fun es => Hp.putK b (.map es c) h fun h => k (.tup []) h x
      | some none => k (.tup []) h x
      | none => none
    | _, _ => none
  | _, _, _, _ => none
/-! ### code -/
inductive COpd where
  | tmp (p : P3)
  | cst (v : AV)
inductive COp where
  | ne (op : NOp)
  | eff (op : EOp)
structure COper where
  dst : Option P3
  guard : Option (P3 × Bool)
  op : COp
  args : List COpd
inductive DIt where
  | ne (i : Nat) (o : COper) (op : NOp) (last : Nat)
  | eff (i : Nat) (o : COper) (op : EOp)
inductive CC where
  | skip
  | reg (ops : List COper)
  | regD (its : List DIt)
  | seq (a b : CC)
  | cond (c : COpd) (a b : CC)
  | block (id : Nat) (c : CC)
  | loop (c : CC)
  | exit (id : Nat)
  | ret
  | bad
inductive RV where
  | tmp (p : P3)
  | cell (p : P3) (agg : Option Nat)
structure CFun where
  n : Nat
  code : CC
  res : List RV
inductive Ex where
  | nrm
  | ext (id : Nat)
  | ret
def evK : COpd → Tm → (AV → Option β) → Option β
  | .tmp p => fun t k => avK (t.get p) k
  | .cst v => fun t k => k v
def evL : List COpd → Tm → (List AV → Option β) → Option β
  | [] => fun t k => k []
  | o :: l => fun t k => evK o t fun v => evL l t fun vs => k (v :: vs)
abbrev KT (β : Type) := Tm → Hp → Bid → Option β
abbrev KX (β : Type) := Ex → Tm → Hp → Bid → Option β
abbrev EX (β : Type) := Tm → Hp → Bid → KX β → Option β
def dstK : Option P3 → AV → Tm → (Tm → Option β) → Option β
  | none => fun v t k => k t
  | some p => fun v t k => Tm.putK p v t k
def newK : Option AObj → Hp → Bid → (Hp → Bid → Option β) → Option β
  | none => fun h x k => k h x
  | some o => fun h x k => freshK h x fun y => Hp.putK x o h fun h => k h y
def normV (p : P3) (t : Tm) (k : Tm → Option β) : AV → Option β
  | .sbool b g => symFork g b (Tm.putK p (.bool true) t k) (Tm.putK p (.bool false) t k)
  | _ => k t
def normP (p : P3) (t : Tm) (k : Tm → Option β) : Option β := normV p t k (t.get p)
def normG : Option (P3 × Bool) → Tm → (Tm → Option β) → Option β
  | none => fun t k => k t
  | some (p, _) => fun t k => normP p t k
def normC : COpd → Tm → (Tm → Option β) → Option β
  | .tmp p => fun t k => normP p t k
  | .cst _ => fun t k => k t
def normZV (p : P3) (t : Tm) (k : Tm → Option β) : AV → Option β
  | .sint kd n g => symFork (tg 62 g 0) (decide (n = 0)) none (Tm.putK p (.nz kd n g) t k)
  | _ => k t
def normZ (p : P3) (t : Tm) (k : Tm → Option β) : Option β := normZV p t k (t.get p)
def isDiv : NOp → Bool
  | .ar .quo => true
  | .ar .rem => true
  | _ => false
def divAt (op : NOp) : List COpd → Option P3
  | [_, .tmp p] => match isDiv op with
    | true => some p
    | false => none
  | _ => none
def isMv : NOp → Bool
  | .mv => true
  | _ => false
def srcOf (p : P3) (o : COper) (op : NOp) : Option P3 := match o.dst, o.args with
  | some q, [.tmp s] => match isMv op && (q.z.beq p.z && (q.y.beq p.y && q.x.beq p.x)) with
    | true => some s
    | false => none
  | _, _ => none
def normS (p : P3) : List DIt → Tm → (Tm → Option β) → Option β
  | [], t, k => normZ p t k
  | .ne _ o op _ :: l, t, k => match srcOf p o op with
    | some s => normZ s t fun t => normS p l t k
    | none => normS p l t k
  | .eff _ _ _ :: l, t, k => normS p l t k
def normD (all : List DIt) : List DIt → Tm → (Tm → Option β) → Option β
  | [], t, k => k t
  | .ne _ o op _ :: l, t, k => match divAt op o.args with
    | some p => normS p all t fun t => normD all l t k
    | none => normD all l t k
  | .eff _ _ _ :: l, t, k => normD all l t k
def guardK : Option (P3 × Bool) → Tm → Option β → Option β → Option β
  | none => fun t yes no => yes
  | some (p, want) => fun t yes no => match t.get p with
    | .bool b => match b == want with
      | true => yes
      | false => no
    | .sbool b g => match want with
      | true => symFork g b yes no
      | false => symFork g b no yes
    | .tup _ => no
    | _ => none
def resK : List RV → Tm → Hp → (List AV → Option β) → Option β
  | [] => fun t h k => k []
  | .tmp p :: l => fun t h k => avK (t.get p) fun v => resK l t h fun vs => k (v :: vs)
  | .cell p a :: l => fun t h k => match t.get p with
    | .ptr b o => knownK (h.get b) fun c => partK c o a fun v => resK l t h fun vs => k (v :: vs)
    | _ => none
def oneK : List AV → (AV → Option β) → Option β
  | [v] => fun k => k v
  | vs => fun k => k (.tup vs)
def putAll : List AV → Nat → Tm → (Tm → Option β) → Option β
  | [] => fun i t k => k t
  | v :: vs => fun i t k => Tm.putK (.ofNat i) v t fun t => natK (.succ i) fun i => putAll vs i t k
end
end Go.Proofs.Ytkejnhmhbmbhcaa.Eng
namespace Go.Proofs.Ytkejnhmhbmbhcaa.Eng
open Go
/-! ### sameness of objects -/
section
variable {β : Type}
def AObj.sameK : AObj → AObj → Option β → Option β
  | .cells a, .cells b, c => AV.samesK a b c
  | .opn a s, .opn b t, c => match Nat.beq s t with
    | true => AV.samesK a b c
    | false => none
  | .map [] i, .map [] j, c => match Nat.beq i j with
    | true => c
    | false => none
  | _, _, _ => none
def obSame : Option AObj → Option AObj → Option β → Option β
  | none, none, c => c
  | some a, some b, c => AObj.sameK a b c
  | _, _, _ => none
end
section
variable {β : Type}
abbrev CALL (β : Type) := Nat → EF β
def callVE (call : CALL β) : EF β
  | .func (.func f) a b :: vs, h, x, k => appK a vs fun vs => appK vs b fun vs => call f vs h x k
  | _, _, _, _ => none
def resolveM (P : Program) (t : Nat) (name : String) : Option Nat :=
  match P.info? t with
  | none => none
  | some i => match i.methods.find? (·.name == name) with
    | none => none
    | some m => match m.path.isEmpty, m.func with
      | true, some (f, pr) => match P.underlying t, pr with
        | some (.pointer _), true => some f
        | some (.pointer _), false => none
        | some _, false => some f
        | _, _ => none
      | _, _ => none
def invokeE (P : Program) (call : CALL β) (name : String) : EF β
  | .iface t v :: vs, h, x, k => match resolveM P t name with
    | some f => call f (v :: vs) h x k
    | none => none
  | _, _, _, _ => none
def erun (P : Program) (call : CALL β) : EOp → EF β
  | .assign => assignE | .store s => storeE s | .mapUpd e => mapUpdE e | .append s b => appendE s b | .copy s => copyE s | .clear z => clearE z | .delete e => deleteE e
  | .callF f => call f | .callV => callVE call | .invoke name => invokeE P call name
def opRun (P : Program) (call : CALL β) : COp → EF β
  | .ne op => fun vs h x k => nrun op vs h x fun v ob => newK ob h x fun h x => k v h x
  | .eff e => erun P call e
def operK (P : Program) (call : CALL β) (o : COper) (t : Tm) (h : Hp) (x : Bid) (k : KT β) : Option β :=
  guardK o.guard t
    (evL o.args t fun vs => opRun P call o.op vs h x fun v h x => dstK o.dst v t fun t => k t h x)
    (dstK o.dst (.tup []) t fun t => k t h x)
def regsK (P : Program) (call : CALL β) : List COper → Tm → Hp → Bid → KT β → Option β
  | [] => fun t h x k => k t h x
  | o :: l => fun t h x k => normG o.guard t fun t => operK P call o t h x fun t h x => regsK P call l t h x k
def neR (o : COper) (op : NOp) (t : Tm) (h : Hp) (x : Bid) : Option (AV × Option AObj) :=
  guardK o.guard t (evL o.args t fun vs => nrun op vs h x fun v ob => some (v, ob)) (some (.tup [], none))
def okOb : Option AObj → Bool
  | some .no => false
  | _ => true
structure Pend where
  (i : Nat) (o : COper) (op : NOp) (last : Nat) (id : Bid) (v : AV) (ob : Option AObj)
def stillThere (h : Hp) (id : Bid) : Option AObj → Option β → Option β
  | none, c => c
  | some ob, c => AObj.sameK (h.get id) ob c
def sameAs (h : Hp) (p : Pend) (v : AV) (ob : Option AObj) (c : Option β) : Option β := AV.sameK v p.v (obSame ob p.ob (stillThere h p.id p.ob c))
def checkOne (st : Nat) (t : Tm) (h : Hp) (p : Pend) (k : Option β) : Option β :=
  match Nat.ble st p.last with
  | false => k
  | true => match neR p.o p.op t h p.id with
    | some (v, ob) => sameAs h p v ob k
    | none => none
def checkAll (st : Nat) (t : Tm) (h : Hp) : List Pend → Option β → Option β
  | [], k => k
  | p :: l, k => checkOne st t h p (checkAll st t h l k)
def runD (P : Program) (call : CALL β) : List DIt → Nat → List Pend → Tm → Hp → Bid → KT β → Option β
  | [], st, pend, t, h, x, k => checkAll st t h pend (k t h x)
  | .ne i o op last :: its, st, pend, t, h, x, k => match neR o op t h x with
    | some (v, ob) => match okOb ob with
      | true => newK ob h x fun h y => dstK o.dst v t fun t => runD P call its st (⟨i, o, op, last, x, v, ob⟩ :: pend) t h y k
      | false => none
    | none => none
  | .eff i o op :: its, st, pend, t, h, x, k => checkAll st t h pend (operK P call o t h x fun t h x => natK (.succ st) fun st => runD P call its st pend t h x k)
def seqK (ex : CC → EX β) (b : CC) (k : KX β) : KX β
  | .nrm => fun t h x => ex b t h x k
  | e => k e
def blockK (id : Nat) (k : KX β) : KX β
  | .ext j => match Nat.beq j id with
    | true => k .nrm
    | false => k (.ext j)
  | e => k e
def condK (ex : CC → EX β) (a b : CC) (t : Tm) (h : Hp) (x : Bid) (k : KX β) : AV → Option β
  | .bool true => ex a t h x k
  | .bool false => ex b t h x k
  | .sbool v g => symFork g v (ex a t h x k) (ex b t h x k)
  | _ => none
def xSkip : EX β := fun t h x k => k .nrm t h x
def xReg (P : Program) (call : CALL β) (ops : List COper) : EX β := fun t h x k => regsK P call ops t h x (k .nrm)
def xRegD (P : Program) (call : CALL β) (its : List DIt) : EX β := fun t h x k => normD its its t fun t => runD P call its 0 [] t h x (k .nrm)
def xSeq (ex : CC → EX β) (a b : CC) : EX β := fun t h x k => ex a t h x (seqK ex b k)
def xCond (ex : CC → EX β) (c : COpd) (a b : CC) : EX β := fun t h x k => normC c t fun t => evK c t (condK ex a b t h x k)
def xBlock (ex : CC → EX β) (id : Nat) (c : CC) : EX β := fun t h x k => ex c t h x (blockK id k)
def xLoop (ex : CC → EX β) (c : CC) : EX β := fun t h x k => ex c t h x (seqK ex (.loop c) k)
def xExit (id : Nat) : EX β := fun t h x k => k (.ext id) t h x
def xRet : EX β := fun t h x k => k .ret t h x
def xBad : EX β := fun _ _ _ _ => none
def stepC (P : Program) (ex : CC → EX β) (call : CALL β) : CC → EX β
  | .skip => xSkip
  | .reg ops => xReg P call ops
  | .regD its => xRegD P call its
  | .seq a b => xSeq ex a b
  | .cond c a b => xCond ex c a b
  | .block id c => xBlock ex id c
  | .loop c => xLoop ex c
  | .exit id => xExit id
  | .ret => xRet
  | .bad => xBad
def finK (res : List RV) (k : EK β) : KX β
  | .ext _ => fun _ _ _ => none
  | _ => fun t h x => resK res t h fun vs => oneK vs fun v => k v h x
def runFun (ex : CC → EX β) (vs : List AV) (h : Hp) (x : Bid) (k : EK β) : CFun → Option β
  | ⟨n, code, res⟩ => match Nat.ble vs.length n with
    | true => putAll vs 0 e3 fun t => ex code t h x (finK res k)
    | false => none
end
/-! ### making ready -/
def scalarAV : Value → Option AV
  | .bool b => some (.bool b)
  | .int k n => some (.int k n)
  | .string s => some (.str (s.data.toList.map UInt8.toNat))
  | .pointer none => some .nilp
  | .slice none 0 0 => some .nils
  | .map none => some .nilm
  | .nilFunc => some .nilf
  | .nilIface => some .nili
  | _ => none
def scalarsAV : List Value → Option (List AV)
  | [] => some []
  | v :: l => match scalarAV v, scalarsAV l with
    | some a, some b => some (a :: b)
    | _, _ => none
def toAV : Value → Option AV
  | .agg cs => match scalarsAV cs.toList with
    | some l => some (.agg l)
    | none => none
  | v => scalarAV v
def compOpd : Operand → Option COpd
  | .tmp t => if t < 512 then some (.tmp (.ofNat t)) else none
  | .const v => (toAV v).map .cst
  | .func f => some (.cst (.func (.func f) [] []))
  | .global _ => none
def compOpds : List Operand → Option (List COpd)
  | [] => some []
  | o :: l => match compOpd o, compOpds l with
    | some a, some b => some (a :: b)
    | _, _ => none
section
variable (P : Program)
def sizeP (t : Nat) : Option Nat := (P.info? t).map (·.size)
def isAggP (t : Nat) : Option Bool := (P.underlying t).map fun d => match d with | .struct _ | .array _ _ => true | _ => false
def zeroP (t : Nat) : Option (List AV) := match P.info? t with
  | some i => match i.zero with
    | some z => scalarsAV z.cells.toList
    | none => none
  | none => none
def zeroV (t : Nat) : Option AV := match P.info? t with
  | some i => match i.zero with
    | some z => toAV z
    | none => none
  | none => none
def aggP (t : Nat) : Option (Option Nat) := match isAggP P t, sizeP P t with
  | some true, some n => some (some n)
  | some false, some _ => some none
  | _, _ => none
def etScalar (t : Nat) : ET := match P.underlying t with
  | some .bool => .bool
  | some (.int k) => .int k
  | some .string => .str
  | some (.pointer e) => match sizeP P e with
    | some (.succ _) => .ptr
    | _ => .no
  | _ => .no
def etFields : List Field → Option (List (Nat × ET))
  | [] => some []
  | f :: fs => match etScalar P f.type, f.name != "_", isAggP P f.type, etFields fs with
    | .no, _, _, _ => none
    | e, true, some false, some l => some ((f.offset, e) :: l)
    | _, _, _, _ => none
def etOf (t : Nat) : ET := match P.underlying t with
  | some (.interface _) => .iface
  | some (.slice _) => .nsl
  | some (.map _ _) => .nmp
  | some (.func _ _ _) => .nfn
  | some (.struct fs) => match P.stoodInHeld t, etFields P fs.toList with
    | false, some l => .struct l
    | _, _ => .no
  | _ => etScalar P t
def isConst : Operand → Bool
  | .const _ => true
  | _ => false
def eqLet (t : Nat) (x y : Operand) : Bool := match etOf P t with
  | .iface => isConst x || isConst y
  | .struct _ => !(P.eqGuardType P.depth t)
  | .no => false
  | _ => true
def isInt : Option TypeDesc → Bool
  | some (.int _) => true
  | _ => false
def isStr : Option TypeDesc → Bool
  | some .string => true
  | _ => false
def strOrSlice : Option TypeDesc → Bool
  | some .string => true
  | some (.slice _) => true
  | _ => false
def placesS : List Field → List (Nat × Operand) → Option (List (Nat × Nat))
  | fs, [] => some []
  | fs, (i, _) :: ps => match fs[i]?, placesS fs ps with
    | some f, some l => match sizeP P f.type with
      | some n => some ((f.offset, n) :: l)
      | none => none
    | _, _ => none
def allSized : List Field → Bool
  | [] => true
  | f :: fs => (sizeP P f.type).isSome && allSized fs
def placesA (size : Nat) : List (Nat × Operand) → List (Nat × Nat)
  | [] => []
  | (i, _) :: ps => (i * size, size) :: placesA size ps
def repL : Nat → List AV → List AV
  | 0, _ => []
  | n + 1, z => z ++ repL n z
def keyET (e : ET) : ET := match e with
  | .bool | .int _ | .str => e
  | .struct fs => if fs.all (fun f => match f.2 with | .bool | .int _ | .str => true | _ => false) then e else .no
  | _ => .no
abbrev CN := NOp × List Operand
def bad : CN := (.bad, [])
def optL : Option Operand → List Operand
  | none => []
  | some o => [o]
def compBuild (t : Nat) (parts : List (Nat × Operand)) : CN := match P.underlying t, zeroP P t with
  | some (.struct fs), some z => match allSized P fs.toList, placesS P fs.toList parts with
    | true, some ps => (.build z ps, parts.map (·.2))
    | _, _ => bad
  | some (.array _ e), some z => match sizeP P e with
    | some n => (.build z (placesA n parts), parts.map (·.2))
    | none => bad
  | _, _ => bad
def compBuildSlice (t len : Nat) (parts : List (Nat × Operand)) : CN := match P.underlying t with
  | some (.slice e) => match sizeP P e, zeroP P e with
    | some n, some z => if z.length = n ∧ n ≠ 0 ∧ len * n ≤ 100000 then (.buildSlice len (repL len z) (placesA n parts), parts.map (·.2)) else bad
    | _, _ => bad
  | _ => bad
def compBin (op : BinOp) (t : Nat) (x y : Operand) : CN := match op with
  | .shl | .shr => (.sh op, [x, y])
  | .eql => if isInt (P.underlying t) || isStr (P.underlying t) then (.ar op, [x, y]) else if eqLet P t x y then (.eq false (etOf P t), [x, y]) else bad
  | .neq => if isInt (P.underlying t) || isStr (P.underlying t) then (.ar op, [x, y]) else if eqLet P t x y then (.eq true (etOf P t), [x, y]) else bad
  | _ => (.ar op, [x, y])
def compConv (src dst : Nat) (x : Operand) : CN := match P.underlying src, P.underlying dst with
  | some (.int _), some (.int k) => (.toInt k, [x])
  | some .string, some .string => (.strId, [x])
  | some .string, some (.slice e) => match P.underlying e with
    | some (.int .u8) => (.s2b, [x])
    | _ => bad
  | some (.slice e), some .string => match P.underlying e with
    | some (.int .u8) => (.b2s, [x])
    | _ => bad
  | _, _ => bad
def compField (s f : Nat) (x : Operand) : CN := match P.underlying s with
  | some (.struct fs) => match fs[f]? with
    | some fd => match aggP P fd.type with
      | some a => (.field fd.offset a, [x])
      | none => bad
    | none => bad
  | _ => bad
def compFieldAddr (s f : Nat) (x : Operand) : CN := match P.underlying s with
  | some (.struct fs) => match fs[f]? with
    | some fd => match sizeP P fd.type with
      | some (.succ _) => (.fieldAddr fd.offset, [x])
      | _ => bad
    | none => bad
  | _ => bad
def compSlice (t : Nat) (x : Operand) (lo hi mx : Option Operand) : CN := match P.underlying t with
  | some .string => match mx with
    | none => (.slStr lo.isSome hi.isSome, x :: (optL lo ++ optL hi))
    | some _ => bad
  | some (.slice e) => match sizeP P e with
    | some n => (.slSl n lo.isSome hi.isSome mx.isSome, x :: (optL lo ++ (optL hi ++ optL mx)))
    | none => bad
  | some (.array n e) => match sizeP P e, mx with
    | some s, none => (.slArr n s lo.isSome hi.isSome, x :: (optL lo ++ optL hi))
    | _, _ => bad
  | _ => bad
def compIndex (t : Nat) (x i : Operand) : CN := match P.underlying t with
  | some (.array n e) => match sizeP P e, isAggP P e with
    | some s, some a => (.idxArr n s a, [x, i])
    | _, _ => bad
  | some .string => (.idxStr, [x, i])
  | _ => bad
def compIndexAddr (t : Nat) (x i : Operand) : CN := match P.underlying t with
  | some (.array n e) => match sizeP P e with
    | some s => (.idxAddrArr n s, [x, i])
    | none => bad
  | some (.slice e) => match sizeP P e with
    | some s => (.idxAddrSl s, [x, i])
    | none => bad
  | _ => bad
def compLookup (t : Nat) (x i : Operand) (ok : Bool) : CN := match P.underlying t with
  | some (.map k e) => match keyET (etOf P k), zeroV P e with
    | .no, _ => bad
    | et, some z => (.lookup et z ok, [x, i])
    | _, _ => bad
  | _ => bad
def compLen (t : Nat) (x : Operand) : CN := match P.underlying t with
  | some .string => (.lenStr, [x])
  | some (.slice _) => (.lenSl, [x])
  | some (.map _ _) => (.lenMap, [x])
  | some (.array n _) => (.lenC n, [])
  | some (.pointer a) => match P.underlying a with
    | some (.array n _) => (.lenC n, [])
    | _ => bad
  | _ => bad
def compCap (t : Nat) (x : Operand) : CN := match P.underlying t with
  | some (.slice _) => (.cap, [x])
  | some (.array n _) => (.lenC n, [])
  | some (.pointer a) => match P.underlying a with
    | some (.array n _) => (.lenC n, [])
    | _ => bad
  | _ => bad
def compAssert (x : Operand) (t : Nat) (ok : Bool) : CN := match P.underlying t, zeroV P t with
  | some (.interface _), _ => bad
  | some _, some z => (.tassert t z ok, [x])
  | _, _ => bad
def compMkSlice (t : Nat) (l c : Operand) : CN := match P.underlying t with
  | some (.slice e) => match P.info? e, zeroP P e with
    | some i, some z => if z.length = i.size ∧ i.size ≠ 0 then (.mkSlice i.size z i.bytes, [l, c]) else bad
    | _, _ => bad
  | _ => bad
def compIface (t : Nat) (x : Operand) : CN := match P.underlying t with
  | some (.interface _) => bad
  | some _ => (.mkIface t, [x])
  | none => bad
def compUn (op : UnOp) (x : Operand) : CN := match op with
  | .neg => (.neg, [x])
  | .not => (.bnot, [x])
  | .xor => (.inv, [x])
  | .plus => bad
def compMkMap (t : Nat) : Option Operand → CN
  | none => (.mkMap, [])
  | some r => match P.underlying t with
    | some (.map _ _) => (.mkMap, [r])
    | _ => bad
def compBuiltinN (b : Builtin) (ts : Array TypeId) (as : List Operand) : CN := match b, as with
  | .len, [x] => match ts[0]? with | some t => compLen P t x | none => bad
  | .cap, [x] => match ts[0]? with | some t => compCap P t x | none => bad
  | .min, [x, y] => (.min, [x, y])
  | .max, [x, y] => (.max, [x, y])
  | _, _ => bad
def globVal (l : List (List Nat)) : Value := .agg (l.map fun s => Value.string ⟨(s.map UInt8.ofNat).toArray⟩).toArray
def compNE : Op → CN
  | .move x => (.mv, [x])
  | .pick c a b => (.pick, [c, a, b])
  | .alloc t => match zeroP P t with
    | some z => (.alloc z, [])
    | none => bad
  | .box _ x => (.box, [x])
  | .build t ps => compBuild P t ps.toList
  | .buildSlice t n ps => compBuildSlice P t n ps.toList
  | .load t (.global n) => match aggP P t, globStr n with
    | some (some m), some l => if l.length = m then (.mv, [.const (globVal l)]) else bad
    | _, _ => bad
  | .load t a => match aggP P t with
    | some g => (.load g, [a])
    | none => bad
  | .nilCheck x => (.nilChk, [x])
  | .binOp op t x y _ => compBin P op t x y
  | .unOp op _ x => compUn op x
  | .convert s d x => compConv P s d x
  | .makeInterface t x => compIface P t x
  | .makeFunc fn a b => (.mkFunc fn a.size, a.toList ++ b.toList)
  | .makeMap t r => compMkMap P t r
  | .makeSlice t l c => compMkSlice P t l c
  | .slice t x lo hi mx => compSlice P t x lo hi mx
  | .fieldAddr s x f => compFieldAddr P s f x
  | .field s x f => compField P s f x
  | .indexAddr t x i => compIndexAddr P t x i
  | .index t x i => compIndex P t x i
  | .lookup t x i ok => compLookup P t x i ok
  | .typeAssert x _ t ok => compAssert P x t ok
  | .extract x i => (.extract i, [x])
  | .call ⟨.builtin b, as, ts⟩ => compBuiltinN P b ts as.toList
  | _ => bad
abbrev CE := EOp × List Operand
def compBuiltinE (b : Builtin) (ts : Array TypeId) (as : List Operand) : Option CE := match b, as, ts[0]? with
  | .append, [x, y], some t => match P.underlying t, ts[1]? with
    | some (.slice e), some u => match P.info? e, zeroP P e, strOrSlice (P.underlying u) with
      | some i, some z, true => if z.length = i.size then some (.append i.size i.bytes, [x, y]) else none
      | _, _, _ => none
    | _, _ => none
  | .copy, [x, y], some t => match P.underlying t with
    | some (.slice e) => match sizeP P e with
      | some n => some (.copy n, [x, y])
      | none => none
    | _ => none
  | _, _, _ => none
def compEF : Op → Option CE
  | .assign x => some (.assign, [x])
  | .store t a v => match sizeP P t with
    | some n => some (.store (some n), [a, v])
    | none => none
  | .mapUpdate t m k v => match P.underlying t with
    | some (.map kt _) => match keyET (etOf P kt) with
      | .no => none
      | et => some (.mapUpd et, [m, k, v])
    | _ => none
  | .insert t m k v => match P.underlying t with
    | some (.map kt _) => match keyET (etOf P kt) with
      | .no => none
      | et => some (.mapUpd et, [m, k, v])
    | _ => none
  | .call ⟨.builtin b, as, ts⟩ => compBuiltinE P b ts as.toList
  | .call ⟨.value (.func f), as, _⟩ => some (.callF f, as.toList)
  | .call ⟨.value f, as, _⟩ => some (.callV, f :: as.toList)
  | .call ⟨.invoke r name, as, _⟩ => some (.invoke name, r :: as.toList)
  | _ => none
def compDst (N : Nat) : Option Nat → Option (Option P3)
  | none => some none
  | some d => if d < N then some (some (.ofNat d)) else none
def compGuard (ops : Array Oper) (N : Nat) : Option (Nat × Bool) → Option (Option (P3 × Bool))
  | none => some none
  | some (j, b) => match ops[j]? with
    | some o => match o.dst with
      | some d => if d < N then some (some (.ofNat d, b)) else none
      | none => none
    | none => none
def compOper (N : Nat) (ops : Array Oper) (o : Oper) : Option COper :=
  match compDst N o.dst, compGuard ops N o.guard with
  | some d, some g => match compEF P o.op with
    | some (e, xs) => match compOpds xs with
      | some as => some ⟨d, g, .eff e, as⟩
      | none => some ⟨d, g, .ne .bad, []⟩
    | none => match compOpds (compNE P o.op).2 with
      | some as => some ⟨d, g, .ne (compNE P o.op).1, as⟩
      | none => some ⟨d, g, .ne .bad, []⟩
  | _, _ => none
def compOpers (N : Nat) (ops : Array Oper) : List Oper → Option (List COper)
  | [] => some []
  | o :: l => match compOper P N ops o, compOpers N ops l with
    | some a, some b => some (a :: b)
    | _, _ => none
/-! ### statements whose order is open -/
def ancs (ops : List Oper) : List Nat :=
  ops.foldl (init := []) fun acc o =>
    acc ++ [o.after.toList.foldl (fun s e => if Region.binds .any e then s ||| 2 ^ e.on ||| acc.getD e.on 0 else s) 0]
def isEff (o : COper) : Bool := match o.op with | .eff _ => true | .ne _ => false
def effIdx (cs : List COper) : List Nat := (cs.zipIdx.filter fun c => isEff c.1).map (·.2)
def mkIts (cs : List COper) (an : List Nat) (effs : List Nat) : List DIt :=
  let stage (i : Nat) : Nat := (effs.filter fun e => (an.getD i 0).testBit e).length
  let last (i : Nat) : Nat := (effs.filter fun e => !(an.getD e 0).testBit i).length
  let group (k : Nat) : List DIt := (cs.zipIdx).filterMap fun c => match c.1.op with
    | .ne op => if stage c.2 = k then some (.ne c.2 c.1 op (last c.2)) else none
    | .eff _ => none
  let one (e : Nat) : List DIt := match cs[e]? with
    | some c => match c.op with
      | .eff op => [.eff e c op]
      | .ne _ => []
    | none => []
  (effs.zipIdx.flatMap fun e => group e.2 ++ one e.1) ++ group effs.length
def opdP : List COpd → List P3
  | [] => []
  | .tmp p :: l => p :: opdP l
  | .cst _ :: l => opdP l
def readsP (o : COper) : List P3 := match o.guard with
  | some (p, _) => p :: opdP o.args
  | none => opdP o.args
def P3.same (p q : P3) : Bool := p.z.beq q.z && (p.y.beq q.y && p.x.beq q.x)
def DIt.idx : DIt → Nat
  | .ne i _ _ _ => i
  | .eff i _ _ => i
def DIt.oper : DIt → COper
  | .ne _ o _ _ => o
  | .eff _ o _ => o
def effsOf : List DIt → List Nat
  | [] => []
  | .ne _ _ _ _ :: l => effsOf l
  | .eff i _ _ :: l => i :: effsOf l
def behind (an : List Nat) (i : Nat) : Option Nat → Bool
  | none => true
  | some e => (an.getD i 0).testBit e
def chainOk (an : List Nat) : List DIt → Option Nat → Bool
  | [], _ => true
  | .ne i _ _ _ :: l, e => behind an i e && chainOk an l e
  | .eff i _ _ :: l, e => behind an i e && chainOk an l (some i)
def lastOk (an effs : List Nat) : List DIt → Bool
  | [] => true
  | .ne i _ _ last :: l => (match effs[last]? with | some e => (an.getD e 0).testBit i | none => true) && lastOk an effs l
  | .eff _ _ _ :: l => lastOk an effs l
def readOk1 (a : Nat) (ps : List P3) : List DIt → Bool
  | [] => true
  | .ne j o _ _ :: l => (match o.dst with | some p => a.testBit j || !(ps.any (P3.same p)) | none => true) && readOk1 a ps l
  | .eff _ _ _ :: l => readOk1 a ps l
def readOk (an : List Nat) (all : List DIt) : List DIt → Bool
  | [] => true
  | it :: l => readOk1 (an.getD it.idx 0) (readsP it.oper) all && readOk an all l
def dstFree (p : P3) : List DIt → Bool
  | [] => true
  | it :: l => (match it.oper.dst with | some q => !(P3.same p q) | none => true) && dstFree p l
def dstOk : List DIt → Bool
  | [] => true
  | .ne _ o _ _ :: l => (match o.dst with | some p => dstFree p l | none => true) && dstOk l
  | .eff _ o _ :: l => (match o.dst with | some p => l.all (fun it => match it with | .ne _ o' _ _ => (match o'.dst with | some q => !(P3.same p q) | none => true) | .eff _ _ _ => true) | none => true) && dstOk l
def ancBit (an : List Nat) (es : List Edge) (j : Nat) : Bool := es.any fun e => Region.binds .any e && (Nat.beq e.on j || (an.getD e.on 0).testBit j)
def ancOk1 (an : List Nat) (es : List Edge) (a : Nat) : Nat → Bool
  | 0 => true
  | j + 1 => (!(a.testBit j) || ancBit an es j) && ancOk1 an es a j
def ancOk (an : List Nat) : List Oper → Nat → Bool
  | [], _ => true
  | o :: l, i => (o.after.toList.all fun e => !(Region.binds .any e) || Nat.ble (.succ e.on) i) && (Nat.ble (.succ (an.getD i 0)) (2 ^ i) && (ancOk1 an o.after.toList (an.getD i 0) i && ancOk an l (i + 1)))
def itOk (cs : List COper) : List DIt → Bool
  | [] => true
  | .ne i o op _ :: l => (match cs[i]? with | some c => (match c.op with | .ne _ => true | .eff _ => false) | none => false) && itOk cs l
  | .eff i o op :: l => (match cs[i]? with | some c => (match c.op with | .eff _ => true | .ne _ => false) | none => false) && itOk cs l
def idxIn (i : Nat) : List DIt → Bool
  | [] => false
  | it :: l => Nat.beq it.idx i || idxIn i l
def idxNodup : List DIt → Bool
  | [] => true
  | it :: l => !(idxIn it.idx l) && idxNodup l
def allIn (its : List DIt) : Nat → Bool
  | 0 => true
  | n + 1 => idxIn n its && allIn its n
def okD (cs : List COper) (ops : List Oper) (an : List Nat) (its : List DIt) : Bool :=
  itOk cs its && (idxNodup its && (allIn its ops.length && (chainOk an its none && (lastOk an (effsOf its) its && (readOk an its its && (dstOk its && ancOk an ops 0))))))
def withOps (cs : List COper) : List DIt → List DIt
  | [] => []
  | .ne i o op last :: l => (match cs[i]? with | some c => (match c.op with | .ne op => .ne i c op last | .eff _ => .ne i o .bad last) | none => .ne i o .bad last) :: withOps cs l
  | .eff i o op :: l => (match cs[i]? with | some c => (match c.op with | .eff op => .eff i c op | .ne _ => .eff i o op) | none => .eff i o op) :: withOps cs l
def compD (N : Nat) (ops : Array Oper) : CC :=
  match compOpers P N ops ops.toList with
  | some cs => match P.follows .mixedOrders && okD cs ops.toList (ancs ops.toList) (withOps cs (mkIts cs (ancs ops.toList) (effIdx cs))) with
    | true => .regD (withOps cs (mkIts cs (ancs ops.toList) (effIdx cs)))
    | false => .bad
  | none => .bad
def compC (N : Nat) : Code → CC
  | .skip => .skip
  | .label _ => .skip
  | .region _ ops false => match compOpers P N ops ops.toList with
    | some l => .reg l
    | none => .bad
  | .region _ ops true => compD P N ops
  | .seq a b => .seq (compC N a) (compC N b)
  | .cond c a b => match compOpd c with
    | some c => .cond c (compC N a) (compC N b)
    | none => .bad
  | .block id b => .block id (compC N b)
  | .loop b => .loop (compC N b)
  | .exit id => .exit id
  | .scope b => .seq .skip (compC N b)
  | .ret => .ret
  | _ => .bad
def compRes (N : Nat) : List ResultVar → Option (List RV)
  | [] => some []
  | .tmp t :: l => match compRes N l with
    | some r => if t < N then some (.tmp (.ofNat t) :: r) else none
    | none => none
  | .cell t ty :: l => match compRes N l, aggP P ty with
    | some r, some a => if t < N then some (.cell (.ofNat t) a :: r) else none
    | _, _ => none
def compFun (f : Nat) : Option CFun := match P.funcs[f]? with
  | none => none
  | some fn => match fn.body, compRes P fn.ntmps fn.results.toList with
    | some c, some rs => if fn.ntmps ≤ 512 ∧ fn.name ≠ "runtime.NumGoroutine" then some ⟨fn.ntmps, compC P fn.ntmps c, rs⟩ else none
    | _, _ => none
end
section
variable {β : Type} (P : Program)
def callOf (ex : CC → EX β) (f : Nat) : EF β := fun vs h x k => match compFun P f with
  | some cf => runFun ex vs h x k cf
  | none => none
def execT (T : CALL β → CALL β) : Nat → CC → EX β
  | 0 => fun _ _ _ _ _ => none
  | n + 1 => fun c => stepC P (execT T n) (T (callOf P (execT T n))) c
def keepC (call : CALL β) : CALL β := call
abbrev exec (n : Nat) : CC → EX β := execT P keepC n
end
end Go.Proofs.Ytkejnhmhbmbhcaa.Eng
