/- The operations that leave the world alone: what they answer, symbolically. -/
import Derived.Test.YtmjonggabppgaaaEngC
set_option linter.unusedSimpArgs false
set_option linter.unusedVariables false
namespace Go.Eng

def litSC : Value → Option SC
  | .bool b => some (.bool (.bool b))
  | .int k n => some (.int k (.int n))
  | .string s => some (.str (.byt s.data.toList))
  | .pointer none => some (.ptr (.int (-1)) 0)
  | .slice none 0 0 => some (.slice (.int (-1)) (.int 0) (.int 0) (.int 0) (.int 0) (.int 0) 1)
  | .map none => some (.map (.int (-1)))
  | .nilFunc => some .nilfn
  | .nilIface => some .nilif
  | _ => none
def litSCs : List Value → Option (List SC)
  | [] => some []
  | v :: l => match litSC v, litSCs l with | some c, some cs => some (c :: cs) | _, _ => none
def oneOr : Option SC → SV | some c => .one c | none => .junk
def litSV (v : Value) : SV :=
  match v with
  | .agg cs => (match litSCs cs.toList with | some l => .agg l | none => .junk)
  | .tuple vs => (bif Nat.beq vs.size 0 then .tup [] else .junk)
  | v => oneOr (litSC v)

def getSV : List SV → Nat → SV
  | [], _ => .junk
  | s :: _, 0 => s
  | _ :: l, n + 1 => getSV l n
def setSV : List SV → Nat → SV → List SV
  | [], _, _ => []
  | _ :: l, 0, v => v :: l
  | s :: l, n + 1, v => s :: setSV l n v
def lk (fr : List SV) : Operand → SV
  | .tmp t => getSV fr t
  | .const v => litSV v
  | .global g => .one (.ptr (.int (g : Nat)) 0)
  | .func f => .one (.fn f)

def inAsm (e : SX) : List SX → Bool
  | [] => false
  | x :: l => bif SX.bq x e then true else inAsm e l
/-- Surely true: a length, a byte is not below zero. -/
def triv : SX → Bool
  | .f2 47 (.int 0) x => (match x with | .f1 30 _ | .f1 31 _ | .f1 32 _ | .f1 33 _ | .f2 111 _ _ => true | _ => false)
  | _ => false
/-- The obligation e, unless it is known. -/
def need (asm : List SX) (e : SX) (ns : List SX) : List SX :=
  match e with
  | .bool true => ns
  | e => bif triv e then ns else bif inAsm e asm then ns else (bif inAsm e ns then ns else e :: ns)
def eLe (a b : SX) : SX := SX.mk2 47 a b
def eLt (a b : SX) : SX := SX.mk2 46 a b
def eEq (a b : SX) : SX := bif SX.bq a b then .bool true else SX.mk2 45 a b
def eNot (a : SX) : SX :=
  match a with
  | .f2 46 x y => SX.mk2 47 y x
  | .f2 47 x y => SX.mk2 46 y x
  | .f1 2 x => (match x with | .f2 45 a b => .f2 45 a b | x => .f1 2 (.f1 2 x))
  | x => SX.mk1 2 x

/-- Surely not below zero: a block that is held. -/
def held (b : SX) : List Ch → Bool
  | [] => false
  | .cel b' _ (_ :: _) :: l => bif SX.bq b' b then true else held b l
  | .map _ _ b' _ :: l => bif SX.bq b' b then true else held b l
  | _ :: l => held b l
def needPos (hp : List Ch) (asm : List SX) (b : SX) (ns : List SX) : List SX :=
  bif held b hp then ns else need asm (eLe (.int 0) b) ns

/-- Cells lo .. lo + n of a block that is held cell by cell. -/
def findCel (b : SX) (lo n : Nat) : List Ch → Option (List SC)
  | [] => none
  | .cel b' o cs :: l => bif SX.bq b' b then (bif Nat.ble o lo then (bif Nat.ble (lo + n) (o + cs.length) then some ((cs.drop (lo - o)).take n) else findCel b lo n l) else findCel b lo n l) else findCel b lo n l
  | _ :: l => findCel b lo n l
/-- The content of an array that is held or may be read. -/
def findArr (b o : SX) (s : Nat) : List Ch → Option (En × SX)
  | [] => none
  | .arr e b' x _ :: l => bif SX.bq b' b then (bif SX.bq o (.int 0) then (bif Nat.beq s e.stride then some (e, x) else findArr b o s l) else findArr b o s l) else findArr b o s l
  | .ro e b' o' x :: l => bif SX.bq b' b then (bif SX.bq o o' then (bif Nat.beq s e.stride then some (e, x) else findArr b o s l) else findArr b o s l) else findArr b o s l
  | .rd _ e b' o' x _ :: l => bif SX.bq b' b then (bif SX.bq o o' then (bif Nat.beq s e.stride then some (e, x) else findArr b o s l) else findArr b o s l) else findArr b o s l
  | _ :: l => findArr b o s l
def findMap (b : SX) : List Ch → Option (IntKind × Fd × SX)
  | [] => none
  | .map kk v b' m :: l => bif SX.bq b' b then some (kk, v, m) else findMap b l
  | _ :: l => findMap b l

def En.lenX (e : En) (x : SX) : SX := SX.mk1 (30 + e.t) x
def Fd.sc (f : Fd) (x i : SX) (p : Nat) : SC :=
  let g (q : Nat) : SX := nthR x i (.int (.ofNat q))
  match f with
  | .int k => .int k (g p)
  | .bool => .bool (SX.mk1 2 (SX.mk2 45 (g p) (.int 0)))
  | .ptr => .ptr (g p) 0
  | .slice s => .slice (g p) (.int 0) (.int 0) (.int 0) (g (p + 1)) (g (p + 2)) s
  | .map => .map (g p)
def rowSC : List Fd → SX → SX → Nat → List SC
  | [], _, _, _ => []
  | f :: fs, x, i, p => f.sc x i p :: rowSC fs x i (p + f.width)
def En.get (e : En) (x i : SX) : List SC :=
  match e with
  | .ints k => [.int k (nthI x i)]
  | .bytes => [.int .u8 (nthB x i)]
  | .rows fs => rowSC fs x i 0

def ofCells (agg : Bool) : List SC → Option SV
  | [c] => some (bif agg then .agg [c] else .one c)
  | cs => bif agg then some (.agg cs) else none

def tyAgg (d : TypeDesc) : Bool := match d with | .struct _ | .array _ _ => true | _ => false

section
variable (P : Program)
def szOf (t : TypeId) : Option Nat := match P.info? t with | some i => some i.size | none => none

/-- Cells that are all integers of one kind. -/
def allInts (k : IntKind) : List SC → Option (List SX)
  | [] => some []
  | .int k' e :: l => bif Nat.beq (kn k) (kn k') then (match allInts k l with | some r => some (e :: r) | none => none) else none
  | _ :: _ => none
/-- Integers that stand cell by cell in a block, from a place on. -/
def celInts (b : SX) (lo : Nat) : List Ch → Option (IntKind × List SX)
  | [] => none
  | .cel b' o cs :: l => bif SX.bq b' b then (bif Nat.ble o lo then (match cs.drop (lo - o) with
      | .int k e :: r => (match allInts k r with | some q => some (k, e :: q) | none => celInts b lo l)
      | _ => celInts b lo l) else celInts b lo l) else celInts b lo l
  | _ :: l => celInts b lo l
/-- What a load of n cells at an address answers. -/
def loadAt (hp : List Ch) (asm : List SX) (agg : Bool) (n : Nat) : SC → Option (List SX × SV)
  | .ptr b o => bif Nat.ble 1 n then (match findCel b o n hp with
    | some cs => (match ofCells agg cs with | some v => some ([], v) | none => none)
    | none => none) else none
  | .ep b o i s j => match findArr b o s hp with
    | some (e, x) => (match ofCells agg (((e.get x i).drop j).take n) with
      | some v => bif Nat.ble (j + n) s then some (need asm (eLe (.int 0) i) (need asm (eLt i (e.lenX x)) []), v) else none
      | none => none)
    | none => (match o with
      | .int (.ofNat lo) => bif (bif agg then false else (bif Nat.beq s 1 then Nat.beq j 0 else false)) then (match celInts b lo hp with
        | some (k, es) => some (need asm (eLe (.int 0) i) (need asm (eLt i (.int (.ofNat es.length))) []), .one (.int k (nthI (consI es) i)))
        | none => none) else none
      | _ => none)
  | _ => none

def fitsNeed (asm : List SX) (k : IntKind) (e : SX) : List SX := need asm (SX.mk1 (20 + kn k) e) []
/-- The outcome e of an operation on integers of kind k: of a signed kind it must fit; else it is wrapped. -/
def wrapped (asm : List SX) (k : IntKind) (e : SX) : List SX × SV :=
  bif k.signed then (fitsNeed asm k e, .one (.int k e)) else ([], .one (.int k (SX.mk1 (10 + kn k) e)))
def isByte : SX → Bool | .f2 111 _ _ => true | .int (.ofNat n) => Nat.ble n 255 | _ => false

def intBin (asm : List SX) (op : BinOp) (k : IntKind) (a b : SX) : Option (List SX × SV) :=
  match op with
  | .add => some (wrapped asm k (SX.mk2 40 a b))
  | .sub => some (wrapped asm k (SX.mk2 41 a b))
  | .mul => some (wrapped asm k (SX.mk2 42 a b))
  | .quo => let w := wrapped asm k (SX.mk2 43 a b); some (need asm (eNot (eEq b (.int 0))) w.1, w.2)
  | .rem => some (need asm (eNot (eEq b (.int 0))) [], .one (.int k (SX.mk2 44 a b)))
  | .and => some ([], .one (.int k (SX.mk2 (60 + kn k) a b)))
  | .or => some ([], .one (.int k (SX.mk2 (68 + kn k) a b)))
  | .xor => some ([], .one (.int k (SX.mk2 (76 + kn k) a b)))
  | .andNot => some ([], .one (.int k (SX.mk2 (84 + kn k) a b)))
  | .eql => some ([], .one (.bool (eEq a b)))
  | .neq => some ([], .one (.bool (eNot (eEq a b))))
  | .lss => some ([], .one (.bool (eLt a b)))
  | .leq => some ([], .one (.bool (eLe a b)))
  | .gtr => some ([], .one (.bool (eLt b a)))
  | .geq => some ([], .one (.bool (eLe b a)))
  | _ => none
def ptrNil : SC → Option SX
  | .ptr b _ => some (eLt b (.int 0))
  | .ep .. => some (.bool false)
  | _ => none
def isNilLit : SX → Bool | .int (.negSucc _) => true | _ => false
/-- '==' on what is no integer. -/
def eqlOf (hp : List Ch) (d : TypeDesc) (a b : SC) : Option SX :=
  match d, a, b with
  | .bool, .bool x, .bool y => some (match x, y with | .bool a, .bool b => .bool (bbq a b) | x, y => .f2 48 x y)
  | .pointer _, .ptr x o, .ptr y o' =>
    (bif isNilLit x then some (eLt y (.int 0)) else (bif isNilLit y then some (eLt x (.int 0)) else none))
  | .pointer _, .ep .., .ptr y _ => bif isNilLit y then some (.bool false) else none
  | .slice _, .slice x _ _ _ _ _ _, .slice y _ _ _ _ _ _ => (bif isNilLit x then some (eLt y (.int 0)) else (bif isNilLit y then some (eLt x (.int 0)) else none))
  | .map _ _, .map x, .map y => (bif isNilLit x then some (eLt y (.int 0)) else (bif isNilLit y then some (eLt x (.int 0)) else none))
  | .func _ _ _, .nilfn, .nilfn => some (.bool true)
  | .func _ _ _, .fn _, .nilfn => some (.bool false)
  | .func _ _ _, .nilfn, .fn _ => some (.bool false)
  | _, _, _ => none
def strBin (op : BinOp) (a b : SX) : Option SV :=
  match op with
  | .eql => some (.one (.bool (SX.mk2 150 a b)))
  | .neq => some (.one (.bool (SX.mk1 2 (SX.mk2 150 a b))))
  | .lss => some (.one (.bool (SX.mk2 151 a b)))
  | .gtr => some (.one (.bool (SX.mk1 2 (SX.mk2 50 (SX.mk2 151 a b) (SX.mk2 150 a b)))))
  | .leq => some (.one (.bool (SX.mk2 50 (SX.mk2 151 a b) (SX.mk2 150 a b))))
  | .geq => some (.one (.bool (SX.mk1 2 (SX.mk2 151 a b))))
  | _ => none

def binOpX (hp : List Ch) (asm : List SX) (op : BinOp) (t : TypeId) (a b : SV) : Option (List SX × SV) :=
  match op, a, b with
  | .shl, .one (.int k x), .one (.int _ y) => some (need asm (eLe (.int 0) y) [], .one (.int k (SX.mk2 (92 + kn k) x y)))
  | .shr, .one (.int k x), .one (.int _ y) => some (need asm (eLe (.int 0) y) [], .one (.int k (SX.mk2 (100 + kn k) x y)))
  | op, .one (.int k x), .one (.int k' y) => bif Nat.beq (kn k) (kn k') then intBin asm op k x y else none
  | op, .one (.str x), .one (.str y) => (match strBin op x y with | some v => some ([], v) | none => none)
  | .eql, .one x, .one y => (match P.underlying t with
    | some d => (match eqlOf hp d x y with | some e => some ([], .one (.bool e)) | none => none)
    | none => none)
  | .neq, .one x, .one y => (match P.underlying t with
    | some d => (match eqlOf hp d x y with | some e => some ([], .one (.bool (eNot e))) | none => none)
    | none => none)
  | _, _, _ => none

/-- Filling the parts of a struct or array into its zero cells. -/
def putCells : List SC → Nat → List SC → Option (List SC)
  | cs, 0, [] => some cs
  | cs, 0, p :: ps => (match cs with | _ :: cs => (match putCells cs 0 ps with | some r => some (p :: r) | none => none) | [] => none)
  | c :: cs, n + 1, ps => (match putCells cs n ps with | some r => some (c :: r) | none => none)
  | [], _ + 1, _ => none
def svCells : SV → Option (List SC)
  | .one c => some [c]
  | .agg cs => some cs
  | _ => none
def fillX (place : Nat → Option (Nat × Nat)) (L : Operand → SV) : List SC → List (Nat × Operand) → Option (List SC)
  | cs, [] => some cs
  | cs, (i, x) :: rest => match place i, svCells (L x) with
    | some (off, size), some ps => bif Nat.beq ps.length size then (match putCells cs off ps with | some cs' => fillX place L cs' rest | none => none) else none
    | _, _ => none
def structPlace (fs : Array Field) (i : Nat) : Option (Nat × Nat) :=
  match fs[i]? with | some f => (match szOf P f.type with | some n => some (f.offset, n) | none => none) | none => none
def zeroSCs (t : TypeId) : Option (List SC) :=
  match P.info? t with | some i => (match i.zero with | some z => litSCs z.cells.toList | none => none) | none => none
def buildX (L : Operand → SV) (t : TypeId) (parts : Array (Nat × Operand)) : Option SV :=
  match P.underlying t, zeroSCs P t with
  | some (.struct fs), some z => (bif fs.all (fun f => (szOf P f.type).isSome) then (match fillX (structPlace P fs) L z parts.toList with | some cs => some (.agg cs) | none => none) else none)
  | some (.array _ e), some z => (match szOf P e with
    | some s => (match fillX (fun i => some (i * s, s)) L z parts.toList with | some cs => some (.agg cs) | none => none)
    | none => none)
  | _, _ => none

def ite0 (c z k : SX) : SX := bif SX.bq z k then k else SX.mk3 133 (SX.mk2 45 c (.int 0)) z k

def bnd (asm : List SX) (x : Option SX) (up : SX) (ns : List SX) : List SX :=
  match x with | some x => need asm (eLe (.int 0) x) (need asm (eLe x up) ns) | none => ns
def orE (x : Option SX) (d : SX) : SX := match x with | some x => x | none => d
def sliceX (asm : List SX) (b o k z l c : SX) (s : Nat) (lo hi mx : Option SX) : List SX × SV :=
  (need asm (eLe (.int 0) l) (need asm (eLe (.int 0) c) (need asm (eLe (.int 0) k) (bnd asm lo (orE hi l) (bnd asm hi (orE mx c) (bnd asm mx c (match hi with | some _ => [] | none => need asm (eLe l c) [])))))),
   .one (.slice b o (SX.mk2 40 k (orE lo (.int 0))) (ite0 c z k) (SX.mk2 41 (orE hi l) (orE lo (.int 0))) (SX.mk2 41 (orE mx c) (orE lo (.int 0))) s))

def dropE (lo : Option SX) (e : SX) : SX := match lo with | some l => SX.mkS2 117 e l | none => e
def intOfSV : SV → Option SX | .one (.int _ e) => some e | _ => none
def optInt (L : Operand → SV) : Option Operand → Option (Option SX)
  | none => some none
  | some x => (match intOfSV (L x) with | some e => some (some e) | none => none)

def byteGet (x i : SX) : SX := nthB x i

/-- A bytes' slice as a text. -/
def textOf (hp : List Ch) (asm : List SX) : SV → Option (List SX × SV)
  | .one (.slice b o k z l c s) => bif isNilLit b then some ([], .one (.str (.byt []))) else (match findArr b o 1 hp with
    | some (.bytes, x) => bif Nat.beq s 1 then some (need asm (eLe (.int 0) k) (need asm (eLe (.int 0) l) (need asm (eLe (SX.mk2 40 k l) (SX.mk1 31 x)) (need asm (eLe l c) []))),
        .one (.str (bif SX.bq k (.int 0) then (bif SX.bq l (SX.mk1 31 x) then x else .f2 114 x l) else .f2 114 (.f2 117 x k) l)))
      else none
    | _ => none)
  | _ => none

/-- What a quiet operation answers: what must hold, the answer. -/
def qev (hp : List Ch) (asm : List SX) (L : Operand → SV) (o : Op) : Option (List SX × SV) :=
  match o with
  | .move x => some ([], L x)
  | .assign x => some ([], L x)
  | .pick c a b => (match L c with
    | .one (.bool (.bool true)) => some ([], L a)
    | .one (.bool (.bool false)) => some ([], L b)
    | .one (.bool e) => (match L a, L b with
      | .one (.bool x), .one (.bool y) => some ([], .one (.bool (SX.mk3 134 e x y)))
      | _, _ => none)
    | _ => none)
  | .nilCheck x => (match L x with
    | .one (.ptr b o) => some (needPos hp asm b [], .one (.ptr b o))
    | .one (.ep b o i s j) => some ([], .one (.ep b o i s j))
    | .one (.fn f) => some ([], .one (.fn f))
    | .one (.slice b o k z l c s) => some ([], .one (.slice b o k z l c s))
    | .one (.map b) => some ([], .one (.map b))
    | _ => none)
  | .binOp op t x y _ => binOpX P hp asm op t (L x) (L y)
  | .unOp op _ x => (match op, L x with
    | .not, .one (.bool e) => some ([], .one (.bool (eNot e)))
    | .neg, .one (.int k e) => some (wrapped asm k (SX.mk2 41 (.int 0) e))
    | .xor, .one (.int k e) => some ([], .one (.int k (SX.mk2 (76 + kn k) (.int (if k.signed then -1 else k.max)) e)))
    | _, _ => none)
  | .convert src dst x => (match P.underlying src, P.underlying dst, L x with
    | some _, some (.int k), .one (.int _ e) => some (bif isByte e then ([], .one (.int k (bif Nat.beq (kn k) 0 then SX.mk1 10 e else e))) else wrapped asm k e)
    | some _, some .string, .one (.str e) => some ([], .one (.str e))
    | some (.slice t), some .string, v => (match P.underlying t with | some (.int .u8) => textOf hp asm v | _ => none)
    | _, _, _ => none)
  | .fieldAddr s x f => (match P.underlying s, L x with
    | some (.struct fs), .one c => (match fs[f]? with
      | some fd => (match szOf P fd.type with
        | some (_ + 1) => (match c with
          | .ptr b o => some (needPos hp asm b [], .one (.ptr b (o + fd.offset)))
          | .ep b o i s j => some ([], .one (.ep b o i s (j + fd.offset)))
          | _ => none)
        | _ => none)
      | none => none)
    | _, _ => none)
  | .field t x f => (match P.underlying t, L x with
    | some (.struct fs), .agg cs => (match fs[f]? with
      | some fd => (match szOf P fd.type, P.underlying fd.type with
        | some n, some d => bif Nat.ble (fd.offset + n) cs.length then (bif tyAgg d then some ([], .agg ((cs.drop fd.offset).take n)) else
            (match (cs.drop fd.offset) with | c :: _ => some ([], .one c) | [] => none)) else none
        | _, _ => none)
      | none => none)
    | _, _ => none)
  | .indexAddr t x ix => (match P.underlying t, L x, intOfSV (L ix) with
    | some (.slice e), .one (.slice b o k z l c s), some i => (match szOf P e, findArr b o s hp with
      | some n, some (en, xs) => bif (bif Nat.ble 1 n then Nat.beq n s else false) then
          some (need asm (eLe (.int 0) i) (need asm (eLt i l) (need asm (eLe (.int 0) k) (need asm (eLt (SX.mk2 40 k i) (en.lenX xs)) (bif SX.bq z k then [] else need asm (eLt (.int 0) c) [])))),
            .one (.ep b o (SX.mk2 40 k i) s 0)) else none
      | _, _ => none)
    | some (.array n e), .one (.ptr b o), some (.int (.ofNat i)) => (match szOf P e with
      | some s => bif Nat.blt i n then some (needPos hp asm b [], .one (.ptr b (o + i * s))) else none
      | none => none)
    | some (.array n e), .one (.ptr b o), some i => (match szOf P e with
      | some s => some (needPos hp asm b (need asm (eLe (.int 0) i) (need asm (eLt i (.int (.ofNat n))) [])), .one (.ep b (.int (.ofNat o)) i s 0))
      | none => none)
    | _, _, _ => none)
  | .index t x ix => (match P.underlying t, L x, intOfSV (L ix) with
    | some .string, .one (.str e), some i => some (need asm (eLe (.int 0) i) (need asm (eLt i (SX.mk1 31 e)) []), .one (.int .u8 (byteGet e i)))
    | some (.array n e), .agg cs, some (.int (.ofNat i)) => (match szOf P e, P.underlying e with
      | some s, some d => bif Nat.blt i n then (bif Nat.ble (i * s + s) cs.length then (bif tyAgg d then some ([], .agg ((cs.drop (i * s)).take s)) else
          (match cs.drop (i * s) with | c :: _ => some ([], .one c) | [] => none)) else none) else none
      | _, _ => none)
    | _, _, _ => none)
  | .slice t x lo hi mx => (match P.underlying t, L x, optInt L lo, optInt L hi, optInt L mx with
    | some (.slice e), .one (.slice b o k z l c s), some lo, some hi, some mx => (match szOf P e, (match mx, hi with | some _, none => false | _, _ => true) with
      | some n, true => bif Nat.beq n s then some (sliceX asm b o k z l c s lo hi mx) else none
      | _, _ => none)
    | some .string, .one (.str e), some lo, some hi, some none =>
      some (bnd asm lo (orE hi (SX.mk1 31 e)) (bnd asm hi (SX.mk1 31 e) []),
        .one (.str (SX.mkS2 114 (dropE lo e) (SX.mk2 41 (orE hi (SX.mk1 31 e)) (orE lo (.int 0))))))
    | _, _, _, _, _ => none)
  | .lookup t x ix ok => (match P.underlying t, L x, intOfSV (L ix) with
    | some (.map kt et), .one (.map b), some i => (match findMap b hp, P.underlying kt, (match P.info? et with | some i => i.zero | none => none) with
      | some (kk, v, m), some (.int kk'), some z =>
        bif Nat.beq (kn kk) (kn kk') then
          (match L ix with
          | .one (.int k2 _) => bif Nat.beq (kn k2) (kn kk) then
              (let g (d : Int) : SX := .f3 140 (.int d) m i
              let r : Option SC := (match v, z with
                | .int k, .int k' n => bif Nat.beq (kn k) (kn k') then some (.int k (g n)) else none
                | .bool, .bool false => some (.bool (SX.mk1 2 (SX.mk2 45 (g 0) (.int 0))))
                | .ptr, .pointer none => some (.ptr (g (-1)) 0)
                | .map, .map none => some (.map (g (-1)))
                | _, _ => none)
              (match r with
              | some c => some ([], bif ok then .tup [(false, [c]), (false, [.bool (.f2 141 m i)])] else .one c)
              | none => none)) else none
          | _ => none) else none
      | _, _, _ => none)
    | _, _, _ => none)
  | .load t a => (match P.underlying t, szOf P t, L a with
    | some d, some n, .one c => loadAt hp asm (tyAgg d) (bif tyAgg d then n else 1) c
    | _, _, _ => none)
  | .extract t ix => (match L t with
    | .tup vs => (match vs[ix]? with
      | some (false, [c]) => some ([], .one c)
      | some (true, cs) => some ([], .agg cs)
      | _ => none)
    | _ => none)
  | .makeInterface t x => (match P.underlying t, L x with
    | some (.interface _), _ => none
    | some _, .one c => some ([], .one (.ifc t c))
    | _, _ => none)
  | .makeFunc (.func f) first captured => bif Nat.beq first.size 0 then
      (let r := captured.toList.foldl (fun (acc : Option SC) x => match acc, L x with | some g, .one c => some (SC.cap g c) | _, _ => none) (some (.fn f))
      match r with | some g => some ([], .one g) | none => none) else none
  | .build t parts => (match buildX P L t parts with | some v => some ([], v) | none => none)
  | .call c => (match c.callee, c.args.toList, c.argTypes.toList with
    | .builtin .len, [x], t :: _ => (match P.underlying t, L x with
      | some (.slice _), .one (.slice _ _ _ _ l _ _) => some (need asm (eLe (.int 0) l) [], .one (.int .i64 l))
      | some .string, .one (.str e) => some ([], .one (.int .i64 (SX.mk1 31 e)))
      | some (.map _ _), .one (.map b) => (match findMap b hp with | some (_, _, m) => some ([], .one (.int .i64 (.f1 33 m))) | none => none)
      | _, _ => none)
    | .builtin .cap, [x], t :: _ => (match P.underlying t, L x with
      | some (.slice _), .one (.slice _ _ _ _ _ c _) => some (need asm (eLe (.int 0) c) [], .one (.int .i64 c))
      | _, _ => none)
    | .builtin .max, [x, y], _ => (match L x, L y with
      | .one (.int k a), .one (.int k' b) => bif Nat.beq (kn k) (kn k') then some ([], .one (.int k (.f2 52 a b))) else none
      | _, _ => none)
    | .builtin .min, [x, y], _ => (match L x, L y with
      | .one (.int k a), .one (.int k' b) => bif Nat.beq (kn k) (kn k') then some ([], .one (.int k (.f2 51 a b))) else none
      | _, _ => none)
    | _, _, _ => none)
  | _ => none
end

/-- The operations that qev knows to leave the world alone. -/
def isQuiet : Op → Bool
  | .move _ | .assign _ | .pick .. | .nilCheck _ | .binOp .. | .unOp .. | .fieldAddr .. | .field .. | .indexAddr .. | .index .. | .slice .. | .lookup .. | .load .. | .extract .. | .makeInterface .. | .makeFunc .. | .build .. => true
  | .convert .. => true
  | .call { callee := .builtin .len, .. } | .call { callee := .builtin .cap, .. } | .call { callee := .builtin .max, .. } | .call { callee := .builtin .min, .. } => true
  | _ => false

end Go.Eng
