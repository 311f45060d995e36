/-
  THE ENGINE, PART B: the evaluator over code; how a function of the program is made ready for it. Definitions alone.
-/
import Derived.Test.YtpcocfdgcihpdaaEngA
namespace Go.Proofs.Ytpcocfdgcihpdaa.Eng
open Go
set_option linter.unusedVariables false

/-! ### sameness of objects -/
section
variable {β : Type}
def AObj.sameK : AObj → AObj → Option β → Option β
  | .cells a, .cells b, c => AV.samesK a b c
  | .opn a s, .opn b t, c => match Nat.beq s t with
    | true => AV.samesK a b c
    | false => none
  | .map [] i, .map [] j, c => match Nat.beq i j with
    | true => c
    | false => none
  | _, _, _ => none
def obSame : Option AObj → Option AObj → Option β → Option β
  | none, none, c => c
  | some a, some b, c => AObj.sameK a b c
  | _, _, _ => none
end

section
variable {β : Type}
abbrev CALL (β : Type) := Nat → EF β

def callVE (call : CALL β) : EF β
  | .func (.func f) a b :: vs, h, x, k => appK a vs fun vs => appK vs b fun vs => call f vs h x k
  | _, _, _, _ => none

/-- the function behind a method's name, of a type whose method takes the value as it is -/
def resolveM (P : Program) (t : Nat) (name : String) : Option Nat :=
  match P.info? t with
  | none => none
  | some i => match i.methods.find? (·.name == name) with
    | none => none
    | some m => match m.path.isEmpty, m.func with
      | true, some (f, pr) => match P.underlying t, pr with
        | some (.pointer _), true => some f
        | some (.pointer _), false => none
        | some _, false => some f
        | _, _ => none
      | _, _ => none
def invokeE (P : Program) (call : CALL β) (name : String) : EF β
  | .iface t v :: vs, h, x, k => match resolveM P t name with
    | some f => call f (v :: vs) h x k
    | none => none
  | _, _, _, _ => none

def erun (P : Program) (call : CALL β) : EOp → EF β
  | .assign => assignE | .store s => storeE s | .mapUpd e => mapUpdE e | .append s b => appendE s b | .copy s => copyE s | .clear z => clearE z | .delete e => deleteE e
  | .callF f => call f | .callV => callVE call | .invoke name => invokeE P call name

def opRun (P : Program) (call : CALL β) : COp → EF β
  | .ne op => fun vs h x k => nrun op vs h x fun v ob => newK ob h x fun h x => k v h x
  | .eff e => erun P call e

def operK (P : Program) (call : CALL β) (o : COper) (t : Tm) (h : Hp) (x : Bid) (k : KT β) : Option β :=
  guardK o.guard t
    (evL o.args t fun vs => opRun P call o.op vs h x fun v h x => dstK o.dst v t fun t => k t h x)
    (dstK o.dst (.tup []) t fun t => k t h x)

def regsK (P : Program) (call : CALL β) : List COper → Tm → Hp → Bid → KT β → Option β
  | [] => fun t h x k => k t h x
  | o :: l => fun t h x k => normG o.guard t fun t => operK P call o t h x fun t h x => regsK P call l t h x k

/-- an operation that writes nothing, at some stage: what it makes -/
def neR (o : COper) (op : NOp) (t : Tm) (h : Hp) (x : Bid) : Option (AV × Option AObj) :=
  guardK o.guard t (evL o.args t fun vs => nrun op vs h x fun v ob => some (v, ob)) (some (.tup [], none))

def okOb : Option AObj → Bool
  | some .no => false
  | _ => true

structure Pend where
  (i : Nat) (o : COper) (op : NOp) (last : Nat) (id : Bid) (v : AV) (ob : Option AObj)

def stillThere (h : Hp) (id : Bid) : Option AObj → Option β → Option β
  | none, c => c
  | some ob, c => AObj.sameK (h.get id) ob c
def sameAs (h : Hp) (p : Pend) (v : AV) (ob : Option AObj) (c : Option β) : Option β := AV.sameK v p.v (obSame ob p.ob (stillThere h p.id p.ob c))
def checkOne (st : Nat) (t : Tm) (h : Hp) (p : Pend) (k : Option β) : Option β :=
  match Nat.ble st p.last with
  | false => k
  | true => match neR p.o p.op t h p.id with
    | some (v, ob) => sameAs h p v ob k
    | none => none
def checkAll (st : Nat) (t : Tm) (h : Hp) : List Pend → Option β → Option β
  | [], k => k
  | p :: l, k => checkOne st t h p (checkAll st t h l k)

def runD (P : Program) (call : CALL β) : List DIt → Nat → List Pend → Tm → Hp → Bid → KT β → Option β
  | [], st, pend, t, h, x, k => checkAll st t h pend (k t h x)
  | .ne i o op last :: its, st, pend, t, h, x, k => match neR o op t h x with
    | some (v, ob) => match okOb ob with
      | true => newK ob h x fun h y => dstK o.dst v t fun t => runD P call its st (⟨i, o, op, last, x, v, ob⟩ :: pend) t h y k
      | false => none
    | none => none
  | .eff i o op :: its, st, pend, t, h, x, k => checkAll st t h pend (operK P call o t h x fun t h x => natK (.succ st) fun st => runD P call its st pend t h x k)

def seqK (ex : CC → EX β) (b : CC) (k : KX β) : KX β
  | .nrm => fun t h x => ex b t h x k
  | e => k e
def blockK (id : Nat) (k : KX β) : KX β
  | .ext j => match Nat.beq j id with
    | true => k .nrm
    | false => k (.ext j)
  | e => k e
def condK (ex : CC → EX β) (a b : CC) (t : Tm) (h : Hp) (x : Bid) (k : KX β) : AV → Option β
  | .bool true => ex a t h x k
  | .bool false => ex b t h x k
  | .sbool v g => symFork g v (ex a t h x k) (ex b t h x k)
  | _ => none

def xSkip : EX β := fun t h x k => k .nrm t h x
def xReg (P : Program) (call : CALL β) (ops : List COper) : EX β := fun t h x k => regsK P call ops t h x (k .nrm)
def xRegD (P : Program) (call : CALL β) (its : List DIt) : EX β := fun t h x k => normD its its t fun t => runD P call its 0 [] t h x (k .nrm)
def xSeq (ex : CC → EX β) (a b : CC) : EX β := fun t h x k => ex a t h x (seqK ex b k)
def xCond (ex : CC → EX β) (c : COpd) (a b : CC) : EX β := fun t h x k => normC c t fun t => evK c t (condK ex a b t h x k)
def xBlock (ex : CC → EX β) (id : Nat) (c : CC) : EX β := fun t h x k => ex c t h x (blockK id k)
def xLoop (ex : CC → EX β) (c : CC) : EX β := fun t h x k => ex c t h x (seqK ex (.loop c) k)
def xExit (id : Nat) : EX β := fun t h x k => k (.ext id) t h x
def xRet : EX β := fun t h x k => k .ret t h x
def xBad : EX β := fun _ _ _ _ => none

def stepC (P : Program) (ex : CC → EX β) (call : CALL β) : CC → EX β
  | .skip => xSkip
  | .reg ops => xReg P call ops
  | .regD its => xRegD P call its
  | .seq a b => xSeq ex a b
  | .cond c a b => xCond ex c a b
  | .block id c => xBlock ex id c
  | .loop c => xLoop ex c
  | .exit id => xExit id
  | .ret => xRet
  | .bad => xBad

def finK (res : List RV) (k : EK β) : KX β
  | .ext _ => fun _ _ _ => none
  | _ => fun t h x => resK res t h fun vs => oneK vs fun v => k v h x
def runFun (ex : CC → EX β) (vs : List AV) (h : Hp) (x : Bid) (k : EK β) : CFun → Option β
  | ⟨n, code, res⟩ => match Nat.ble vs.length n with
    | true => putAll vs 0 e3 fun t => ex code t h x (finK res k)
    | false => none
end

/-! ### making ready -/
def scalarAV : Value → Option AV
  | .bool b => some (.bool b)
  | .int k n => some (.int k n)
  | .string s => some (.str (s.data.toList.map UInt8.toNat))
  | .pointer none => some .nilp
  | .slice none 0 0 => some .nils
  | .map none => some .nilm
  | .nilFunc => some .nilf
  | .nilIface => some .nili
  | _ => none
def scalarsAV : List Value → Option (List AV)
  | [] => some []
  | v :: l => match scalarAV v, scalarsAV l with
    | some a, some b => some (a :: b)
    | _, _ => none
def toAV : Value → Option AV
  | .agg cs => match scalarsAV cs.toList with
    | some l => some (.agg l)
    | none => none
  | v => scalarAV v

def compOpd : Operand → Option COpd
  | .tmp t => if t < 512 then some (.tmp (.ofNat t)) else none
  | .const v => (toAV v).map .cst
  | .func f => some (.cst (.func (.func f) [] []))
  | .global _ => none
def compOpds : List Operand → Option (List COpd)
  | [] => some []
  | o :: l => match compOpd o, compOpds l with
    | some a, some b => some (a :: b)
    | _, _ => none

section
variable (P : Program)
def sizeP (t : Nat) : Option Nat := (P.info? t).map (·.size)
def isAggP (t : Nat) : Option Bool := (P.underlying t).map fun d => match d with | .struct _ | .array _ _ => true | _ => false
def zeroP (t : Nat) : Option (List AV) := match P.info? t with
  | some i => match i.zero with
    | some z => scalarsAV z.cells.toList
    | none => none
  | none => none
def zeroV (t : Nat) : Option AV := match P.info? t with
  | some i => match i.zero with
    | some z => toAV z
    | none => none
  | none => none
/-- the size, of an aggregate alone -/
def aggP (t : Nat) : Option (Option Nat) := match isAggP P t, sizeP P t with
  | some true, some n => some (some n)
  | some false, some _ => some none
  | _, _ => none
def etScalar (t : Nat) : ET := match P.underlying t with
  | some .bool => .bool
  | some (.int k) => .int k
  | some .string => .str
  | some (.pointer e) => match sizeP P e with
    | some (.succ _) => .ptr
    | _ => .no
  | _ => .no
def etFields : List Field → Option (List (Nat × ET))
  | [] => some []
  | f :: fs => match etScalar P f.type, f.name != "_", isAggP P f.type, etFields fs with
    | .no, _, _, _ => none
    | e, true, some false, some l => some ((f.offset, e) :: l)
    | _, _, _, _ => none
def etOf (t : Nat) : ET := match P.underlying t with
  | some (.interface _) => .iface
  | some (.slice _) => .nsl
  | some (.map _ _) => .nmp
  | some (.func _ _ _) => .nfn
  | some (.struct fs) => match P.stoodInHeld t, etFields P fs.toList with
    | false, some l => .struct l
    | _, _ => .no
  | _ => etScalar P t
def isConst : Operand → Bool
  | .const _ => true
  | _ => false
/-- nothing bars that two values of this type are held against each other -/
def eqLet (t : Nat) (x y : Operand) : Bool := match etOf P t with
  | .iface => isConst x || isConst y
  | .struct _ => !(P.eqGuardType P.depth t)
  | .no => false
  | _ => true
def isInt : Option TypeDesc → Bool
  | some (.int _) => true
  | _ => false
def isStr : Option TypeDesc → Bool
  | some .string => true
  | _ => false
def strOrSlice : Option TypeDesc → Bool
  | some .string => true
  | some (.slice _) => true
  | _ => false
def placesS : List Field → List (Nat × Operand) → Option (List (Nat × Nat))
  | fs, [] => some []
  | fs, (i, _) :: ps => match fs[i]?, placesS fs ps with
    | some f, some l => match sizeP P f.type with
      | some n => some ((f.offset, n) :: l)
      | none => none
    | _, _ => none
def allSized : List Field → Bool
  | [] => true
  | f :: fs => (sizeP P f.type).isSome && allSized fs
def placesA (size : Nat) : List (Nat × Operand) → List (Nat × Nat)
  | [] => []
  | (i, _) :: ps => (i * size, size) :: placesA size ps
def repL : Nat → List AV → List AV
  | 0, _ => []
  | n + 1, z => z ++ repL n z

def keyET (e : ET) : ET := match e with
  | .bool | .int _ | .str => e
  | .struct fs => if fs.all (fun f => match f.2 with | .bool | .int _ | .str => true | _ => false) then e else .no
  | _ => .no

abbrev CN := NOp × List Operand
def bad : CN := (.bad, [])
def optL : Option Operand → List Operand
  | none => []
  | some o => [o]

def compBuild (t : Nat) (parts : List (Nat × Operand)) : CN := match P.underlying t, zeroP P t with
  | some (.struct fs), some z => match allSized P fs.toList, placesS P fs.toList parts with
    | true, some ps => (.build z ps, parts.map (·.2))
    | _, _ => bad
  | some (.array _ e), some z => match sizeP P e with
    | some n => (.build z (placesA n parts), parts.map (·.2))
    | none => bad
  | _, _ => bad
def compBuildSlice (t len : Nat) (parts : List (Nat × Operand)) : CN := match P.underlying t with
  | some (.slice e) => match sizeP P e, zeroP P e with
    | some n, some z => if z.length = n ∧ n ≠ 0 ∧ len * n ≤ 100000 then (.buildSlice len (repL len z) (placesA n parts), parts.map (·.2)) else bad
    | _, _ => bad
  | _ => bad
def compBin (op : BinOp) (t : Nat) (x y : Operand) : CN := match op with
  | .shl | .shr => (.sh op, [x, y])
  | .eql => if isInt (P.underlying t) || isStr (P.underlying t) then (.ar op, [x, y]) else if eqLet P t x y then (.eq false (etOf P t), [x, y]) else bad
  | .neq => if isInt (P.underlying t) || isStr (P.underlying t) then (.ar op, [x, y]) else if eqLet P t x y then (.eq true (etOf P t), [x, y]) else bad
  | _ => (.ar op, [x, y])
def compConv (src dst : Nat) (x : Operand) : CN := match P.underlying src, P.underlying dst with
  | some (.int _), some (.int k) => (.toInt k, [x])
  | some .string, some .string => (.strId, [x])
  | some .string, some (.slice e) => match P.underlying e with
    | some (.int .u8) => (.s2b, [x])
    | _ => bad
  | some (.slice e), some .string => match P.underlying e with
    | some (.int .u8) => (.b2s, [x])
    | _ => bad
  | _, _ => bad
def compField (s f : Nat) (x : Operand) : CN := match P.underlying s with
  | some (.struct fs) => match fs[f]? with
    | some fd => match aggP P fd.type with
      | some a => (.field fd.offset a, [x])
      | none => bad
    | none => bad
  | _ => bad
def compFieldAddr (s f : Nat) (x : Operand) : CN := match P.underlying s with
  | some (.struct fs) => match fs[f]? with
    | some fd => match sizeP P fd.type with
      | some (.succ _) => (.fieldAddr fd.offset, [x])
      | _ => bad
    | none => bad
  | _ => bad
def compSlice (t : Nat) (x : Operand) (lo hi mx : Option Operand) : CN := match P.underlying t with
  | some .string => match mx with
    | none => (.slStr lo.isSome hi.isSome, x :: (optL lo ++ optL hi))
    | some _ => bad
  | some (.slice e) => match sizeP P e with
    | some n => (.slSl n lo.isSome hi.isSome mx.isSome, x :: (optL lo ++ (optL hi ++ optL mx)))
    | none => bad
  | some (.array n e) => match sizeP P e, mx with
    | some s, none => (.slArr n s lo.isSome hi.isSome, x :: (optL lo ++ optL hi))
    | _, _ => bad
  | _ => bad
def compIndex (t : Nat) (x i : Operand) : CN := match P.underlying t with
  | some (.array n e) => match sizeP P e, isAggP P e with
    | some s, some a => (.idxArr n s a, [x, i])
    | _, _ => bad
  | some .string => (.idxStr, [x, i])
  | _ => bad
def compIndexAddr (t : Nat) (x i : Operand) : CN := match P.underlying t with
  | some (.array n e) => match sizeP P e with
    | some s => (.idxAddrArr n s, [x, i])
    | none => bad
  | some (.slice e) => match sizeP P e with
    | some s => (.idxAddrSl s, [x, i])
    | none => bad
  | _ => bad
def compLookup (t : Nat) (x i : Operand) (ok : Bool) : CN := match P.underlying t with
  | some (.map k e) => match keyET (etOf P k), zeroV P e with
    | .no, _ => bad
    | et, some z => (.lookup et z ok, [x, i])
    | _, _ => bad
  | _ => bad
def compLen (t : Nat) (x : Operand) : CN := match P.underlying t with
  | some .string => (.lenStr, [x])
  | some (.slice _) => (.lenSl, [x])
  | some (.map _ _) => (.lenMap, [x])
  | some (.array n _) => (.lenC n, [])
  | some (.pointer a) => match P.underlying a with
    | some (.array n _) => (.lenC n, [])
    | _ => bad
  | _ => bad
def compCap (t : Nat) (x : Operand) : CN := match P.underlying t with
  | some (.slice _) => (.cap, [x])
  | some (.array n _) => (.lenC n, [])
  | some (.pointer a) => match P.underlying a with
    | some (.array n _) => (.lenC n, [])
    | _ => bad
  | _ => bad
def compAssert (x : Operand) (t : Nat) (ok : Bool) : CN := match P.underlying t, zeroV P t with
  | some (.interface _), _ => bad
  | some _, some z => (.tassert t z ok, [x])
  | _, _ => bad
def compMkSlice (t : Nat) (l c : Operand) : CN := match P.underlying t with
  | some (.slice e) => match P.info? e, zeroP P e with
    | some i, some z => if z.length = i.size ∧ i.size ≠ 0 then (.mkSlice i.size z i.bytes, [l, c]) else bad
    | _, _ => bad
  | _ => bad
def compIface (t : Nat) (x : Operand) : CN := match P.underlying t with
  | some (.interface _) => bad
  | some _ => (.mkIface t, [x])
  | none => bad
def compUn (op : UnOp) (x : Operand) : CN := match op with
  | .neg => (.neg, [x])
  | .not => (.bnot, [x])
  | .xor => (.inv, [x])
  | .plus => bad
def compMkMap (t : Nat) : Option Operand → CN
  | none => (.mkMap, [])
  | some r => match P.underlying t with
    | some (.map _ _) => (.mkMap, [r])
    | _ => bad
def compBuiltinN (b : Builtin) (ts : Array TypeId) (as : List Operand) : CN := match b, as with
  | .len, [x] => match ts[0]? with | some t => compLen P t x | none => bad
  | .cap, [x] => match ts[0]? with | some t => compCap P t x | none => bad
  | .min, [x, y] => (.min, [x, y])
  | .max, [x, y] => (.max, [x, y])
  | _, _ => bad

/-- an operation that writes nothing -/
def compNE : Op → CN
  | .move x => (.mv, [x])
  | .pick c a b => (.pick, [c, a, b])
  | .alloc t => match zeroP P t with
    | some z => (.alloc z, [])
    | none => bad
  | .box _ x => (.box, [x])
  | .build t ps => compBuild P t ps.toList
  | .buildSlice t n ps => compBuildSlice P t n ps.toList
  | .load t a => match aggP P t with
    | some g => (.load g, [a])
    | none => bad
  | .nilCheck x => (.nilChk, [x])
  | .binOp op t x y _ => compBin P op t x y
  | .unOp op _ x => compUn op x
  | .convert s d x => compConv P s d x
  | .makeInterface t x => compIface P t x
  | .makeFunc fn a b => (.mkFunc fn a.size, a.toList ++ b.toList)
  | .makeMap t r => compMkMap P t r
  | .makeSlice t l c => compMkSlice P t l c
  | .slice t x lo hi mx => compSlice P t x lo hi mx
  | .fieldAddr s x f => compFieldAddr P s f x
  | .field s x f => compField P s f x
  | .indexAddr t x i => compIndexAddr P t x i
  | .index t x i => compIndex P t x i
  | .lookup t x i ok => compLookup P t x i ok
  | .typeAssert x _ t ok => compAssert P x t ok
  | .extract x i => (.extract i, [x])
  | .call ⟨.builtin b, as, ts⟩ => compBuiltinN P b ts as.toList
  | _ => bad

abbrev CE := EOp × List Operand
def compBuiltinE (b : Builtin) (ts : Array TypeId) (as : List Operand) : Option CE := match b, as, ts[0]? with
  | .append, [x, y], some t => match P.underlying t, ts[1]? with
    | some (.slice e), some u => match P.info? e, zeroP P e, strOrSlice (P.underlying u) with
      | some i, some z, true => if z.length = i.size then some (.append i.size i.bytes, [x, y]) else none
      | _, _, _ => none
    | _, _ => none
  | .copy, [x, y], some t => match P.underlying t with
    | some (.slice e) => match sizeP P e with
      | some n => some (.copy n, [x, y])
      | none => none
    | _ => none
  | _, _, _ => none
/-- an operation that writes -/
def compEF : Op → Option CE
  | .assign x => some (.assign, [x])
  | .store t a v => match sizeP P t with
    | some n => some (.store (some n), [a, v])
    | none => none
  | .mapUpdate t m k v => match P.underlying t with
    | some (.map kt _) => match keyET (etOf P kt) with
      | .no => none
      | et => some (.mapUpd et, [m, k, v])
    | _ => none
  | .insert t m k v => match P.underlying t with
    | some (.map kt _) => match keyET (etOf P kt) with
      | .no => none
      | et => some (.mapUpd et, [m, k, v])
    | _ => none
  | .call ⟨.builtin b, as, ts⟩ => compBuiltinE P b ts as.toList
  | .call ⟨.value (.func f), as, _⟩ => some (.callF f, as.toList)
  | .call ⟨.value f, as, _⟩ => some (.callV, f :: as.toList)
  | .call ⟨.invoke r name, as, _⟩ => some (.invoke name, r :: as.toList)
  | _ => none

def compDst (N : Nat) : Option Nat → Option (Option P3)
  | none => some none
  | some d => if d < N then some (some (.ofNat d)) else none
def compGuard (ops : Array Oper) (N : Nat) : Option (Nat × Bool) → Option (Option (P3 × Bool))
  | none => some none
  | some (j, b) => match ops[j]? with
    | some o => match o.dst with
      | some d => if d < N then some (some (.ofNat d, b)) else none
      | none => none
    | none => none
def compOper (N : Nat) (ops : Array Oper) (o : Oper) : Option COper :=
  match compDst N o.dst, compGuard ops N o.guard with
  | some d, some g => match compEF P o.op with
    | some (e, xs) => match compOpds xs with
      | some as => some ⟨d, g, .eff e, as⟩
      | none => some ⟨d, g, .ne .bad, []⟩
    | none => match compOpds (compNE P o.op).2 with
      | some as => some ⟨d, g, .ne (compNE P o.op).1, as⟩
      | none => some ⟨d, g, .ne .bad, []⟩
  | _, _ => none
def compOpers (N : Nat) (ops : Array Oper) : List Oper → Option (List COper)
  | [] => some []
  | o :: l => match compOper P N ops o, compOpers N ops l with
    | some a, some b => some (a :: b)
    | _, _ => none

/-! ### statements whose order is open -/
/-- the operations that must come ahead of each, as bits -/
def ancs (ops : List Oper) : List Nat :=
  ops.foldl (init := []) fun acc o =>
    acc ++ [o.after.toList.foldl (fun s e => if Region.binds .any e then s ||| 2 ^ e.on ||| acc.getD e.on 0 else s) 0]
def isEff (o : COper) : Bool := match o.op with | .eff _ => true | .ne _ => false
def effIdx (cs : List COper) : List Nat := (cs.zipIdx.filter fun c => isEff c.1).map (·.2)
def mkIts (cs : List COper) (an : List Nat) (effs : List Nat) : List DIt :=
  let stage (i : Nat) : Nat := (effs.filter fun e => (an.getD i 0).testBit e).length
  let last (i : Nat) : Nat := (effs.filter fun e => !(an.getD e 0).testBit i).length
  let group (k : Nat) : List DIt := (cs.zipIdx).filterMap fun c => match c.1.op with
    | .ne op => if stage c.2 = k then some (.ne c.2 c.1 op (last c.2)) else none
    | .eff _ => none
  let one (e : Nat) : List DIt := match cs[e]? with
    | some c => match c.op with
      | .eff op => [.eff e c op]
      | .ne _ => []
    | none => []
  (effs.zipIdx.flatMap fun e => group e.2 ++ one e.1) ++ group effs.length
/-- the slots that an operation reads -/
def opdP : List COpd → List P3
  | [] => []
  | .tmp p :: l => p :: opdP l
  | .cst _ :: l => opdP l
def readsP (o : COper) : List P3 := match o.guard with
  | some (p, _) => p :: opdP o.args
  | none => opdP o.args
def P3.same (p q : P3) : Bool := p.z.beq q.z && (p.y.beq q.y && p.x.beq q.x)
def DIt.idx : DIt → Nat
  | .ne i _ _ _ => i
  | .eff i _ _ => i
def DIt.oper : DIt → COper
  | .ne _ o _ _ => o
  | .eff _ o _ => o
def effsOf : List DIt → List Nat
  | [] => []
  | .ne _ _ _ _ :: l => effsOf l
  | .eff i _ _ :: l => i :: effsOf l
/-- is an operation behind the last one that writes, if there was one? -/
def behind (an : List Nat) (i : Nat) : Option Nat → Bool
  | none => true
  | some e => (an.getD i 0).testBit e
def chainOk (an : List Nat) : List DIt → Option Nat → Bool
  | [], _ => true
  | .ne i _ _ _ :: l, e => behind an i e && chainOk an l e
  | .eff i _ _ :: l, e => behind an i e && chainOk an l (some i)
def lastOk (an effs : List Nat) : List DIt → Bool
  | [] => true
  | .ne i _ _ last :: l => (match effs[last]? with | some e => (an.getD e 0).testBit i | none => true) && lastOk an effs l
  | .eff _ _ _ :: l => lastOk an effs l
/-- what an operation reads of those that write nothing is there -/
def readOk1 (a : Nat) (ps : List P3) : List DIt → Bool
  | [] => true
  | .ne j o _ _ :: l => (match o.dst with | some p => a.testBit j || !(ps.any (P3.same p)) | none => true) && readOk1 a ps l
  | .eff _ _ _ :: l => readOk1 a ps l
def readOk (an : List Nat) (all : List DIt) : List DIt → Bool
  | [] => true
  | it :: l => readOk1 (an.getD it.idx 0) (readsP it.oper) all && readOk an all l
/-- each of their slots is written once -/
def dstFree (p : P3) : List DIt → Bool
  | [] => true
  | it :: l => (match it.oper.dst with | some q => !(P3.same p q) | none => true) && dstFree p l
def dstOk : List DIt → Bool
  | [] => true
  | .ne _ o _ _ :: l => (match o.dst with | some p => dstFree p l | none => true) && dstOk l
  | .eff _ o _ :: l => (match o.dst with | some p => l.all (fun it => match it with | .ne _ o' _ _ => (match o'.dst with | some q => !(P3.same p q) | none => true) | .eff _ _ _ => true) | none => true) && dstOk l
/-- an ancestor is an edge's end, or an ancestor of one -/
def ancBit (an : List Nat) (es : List Edge) (j : Nat) : Bool := es.any fun e => Region.binds .any e && (Nat.beq e.on j || (an.getD e.on 0).testBit j)
def ancOk1 (an : List Nat) (es : List Edge) (a : Nat) : Nat → Bool
  | 0 => true
  | j + 1 => (!(a.testBit j) || ancBit an es j) && ancOk1 an es a j
def ancOk (an : List Nat) : List Oper → Nat → Bool
  | [], _ => true
  | o :: l, i => (o.after.toList.all fun e => !(Region.binds .any e) || Nat.ble (.succ e.on) i) && (Nat.ble (.succ (an.getD i 0)) (2 ^ i) && (ancOk1 an o.after.toList (an.getD i 0) i && ancOk an l (i + 1)))
def itOk (cs : List COper) : List DIt → Bool
  | [] => true
  | .ne i o op _ :: l => (match cs[i]? with | some c => (match c.op with | .ne _ => true | .eff _ => false) | none => false) && itOk cs l
  | .eff i o op :: l => (match cs[i]? with | some c => (match c.op with | .eff _ => true | .ne _ => false) | none => false) && itOk cs l
def idxIn (i : Nat) : List DIt → Bool
  | [] => false
  | it :: l => Nat.beq it.idx i || idxIn i l
def idxNodup : List DIt → Bool
  | [] => true
  | it :: l => !(idxIn it.idx l) && idxNodup l
def allIn (its : List DIt) : Nat → Bool
  | 0 => true
  | n + 1 => idxIn n its && allIn its n
def okD (cs : List COper) (ops : List Oper) (an : List Nat) (its : List DIt) : Bool :=
  itOk cs its && (idxNodup its && (allIn its ops.length && (chainOk an its none && (lastOk an (effsOf its) its && (readOk an its its && (dstOk its && ancOk an ops 0))))))
/-- the items, each with its own operation out of the list -/
def withOps (cs : List COper) : List DIt → List DIt
  | [] => []
  | .ne i o op last :: l => (match cs[i]? with | some c => (match c.op with | .ne op => .ne i c op last | .eff _ => .ne i o .bad last) | none => .ne i o .bad last) :: withOps cs l
  | .eff i o op :: l => (match cs[i]? with | some c => (match c.op with | .eff op => .eff i c op | .ne _ => .eff i o op) | none => .eff i o op) :: withOps cs l
def compD (N : Nat) (ops : Array Oper) : CC :=
  match compOpers P N ops ops.toList with
  | some cs => match P.follows .mixedOrders && okD cs ops.toList (ancs ops.toList) (withOps cs (mkIts cs (ancs ops.toList) (effIdx cs))) with
    | true => .regD (withOps cs (mkIts cs (ancs ops.toList) (effIdx cs)))
    | false => .bad
  | none => .bad

def compC (N : Nat) : Code → CC
  | .skip => .skip
  | .label _ => .skip
  | .region _ ops false => match compOpers P N ops ops.toList with
    | some l => .reg l
    | none => .bad
  | .region _ ops true => compD P N ops
  | .seq a b => .seq (compC N a) (compC N b)
  | .cond c a b => match compOpd c with
    | some c => .cond c (compC N a) (compC N b)
    | none => .bad
  | .block id b => .block id (compC N b)
  | .loop b => .loop (compC N b)
  | .exit id => .exit id
  | .scope b => .seq .skip (compC N b)
  | .ret => .ret
  | _ => .bad

def compRes (N : Nat) : List ResultVar → Option (List RV)
  | [] => some []
  | .tmp t :: l => match compRes N l with
    | some r => if t < N then some (.tmp (.ofNat t) :: r) else none
    | none => none
  | .cell t ty :: l => match compRes N l, aggP P ty with
    | some r, some a => if t < N then some (.cell (.ofNat t) a :: r) else none
    | _, _ => none

def compFun (f : Nat) : Option CFun := match P.funcs[f]? with
  | none => none
  | some fn => match fn.body, compRes P fn.ntmps fn.results.toList with
    | some c, some rs => if fn.ntmps ≤ 512 ∧ fn.name ≠ "runtime.NumGoroutine" then some ⟨fn.ntmps, compC P fn.ntmps c, rs⟩ else none
    | _, _ => none
end

section
variable {β : Type} (P : Program)
def callOf (ex : CC → EX β) (f : Nat) : EF β := fun vs h x k => match compFun P f with
  | some cf => runFun ex vs h x k cf
  | none => none
/-- the evaluator; T: what is put over the calls (contracts that are proved elsewhere) -/
def execT (T : CALL β → CALL β) : Nat → CC → EX β
  | 0 => fun _ _ _ _ _ => none
  | n + 1 => fun c => stepC P (execT T n) (T (callOf P (execT T n))) c
def keepC (call : CALL β) : CALL β := call
abbrev exec (n : Nat) : CC → EX β := execT P keepC n
end
end Go.Proofs.Ytpcocfdgcihpdaa.Eng
