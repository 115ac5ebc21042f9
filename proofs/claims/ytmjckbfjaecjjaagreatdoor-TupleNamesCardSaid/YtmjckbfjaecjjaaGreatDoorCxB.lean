/- A run with written-out values: the operations. -/
import Derived.Test.YtmjckbfjaecjjaaGreatDoorCxA
set_option linter.unusedVariables false
namespace Go.Cx
noncomputable section

/-! ### The program's tables -/
def nthL {α : Type} : List α → Nat → Option α
  | [], _ => none
  | a :: _, 0 => some a
  | _ :: l, i + 1 => nthL l i
def dropL {α : Type} : Nat → List α → List α
  | 0, l => l
  | _ + 1, [] => []
  | n + 1, _ :: l => dropL n l
def blk {α : Type} (l : List α) : Nat → List α
  | 0 => l
  | j + 1 => dropL 64 (blk l j)
def look {α : Type} (l : List α) (i : Nat) : Option α := nthL (blk l (i / 64)) (i % 64)
def tyI (P : Program) (t : Nat) : Option TypeInfo := look P.types.toList t
def tyD (P : Program) (t : Nat) : Option TypeDesc :=
  match tyI P t with
  | some i => (match i.desc with
    | .named _ u => (match tyI P u with | some j => some j.desc | none => none)
    | d => some d)
  | none => none
def tySz (P : Program) (t : Nat) : Option Nat := match tyI P t with | some i => some i.size | none => none
def isAg : TypeDesc → Bool | .struct _ => true | .array _ _ => true | _ => false
/-- Is it a struct or an array; how many cells has it? -/
def tyA (P : Program) (t : Nat) : Option (Bool × Nat) :=
  match tyD P t with | some d => (match tySz P t with | some n => some (isAg d, n) | none => none) | none => none
def elSl (P : Program) (t : Nat) : Option Nat := match tyD P t with | some (.slice e) => some e | _ => none
def isU8 (P : Program) (t : Nat) : Bool := bif Nat.beq t u8T then (match tyD P t with | some (.int .u8) => true | _ => false) else false

/-! ### Constants -/
def litCV1 : Value → CV
  | .bool b => .bool b
  | .int k n => .int (kn k) n
  | .string s => .str s.data.toList.length (ofBytes s.data.toList)
  | .pointer none => .nilp
  | .slice none 0 0 => .nils
  | .map none => .nilm
  | .nilFunc => .nilf
  | .nilIface => .nili
  | _ => .junk
def litCVs : List Value → List CV
  | [] => []
  | v :: l => litCV1 v :: litCVs l
def litCV (v : Value) : CV := match v with | .agg cs => .agg (litCVs cs.toList) | v => litCV1 v
def zeroC (P : Program) (t : Nat) : Option (List CV) :=
  match tyI P t with | some i => (match i.zero with | some z => some (litCVs z.cells.toList) | none => none) | none => none
/-- A type's zero value. -/
def zeroV (P : Program) (t : Nat) : Option CV :=
  match tyI P t with | some i => (match i.zero with | some z => some (litCV z) | none => none) | none => none
def lk (fr : F) : Operand → CV
  | .tmp t => fg fr t
  | .const v => litCV v
  | .global _ => .junk
  | .func f => .fn f [] []
def lks (fr : F) : List Operand → List CV
  | [] => []
  | x :: l => lk fr x :: lks fr l

/-! ### Memory -/
/-- A value of one cell that may be stored. -/
def cellOk : CV → Bool
  | .agg _ => false | .tup _ => false | .junk => false | _ => true
def allCell : List CV → Bool
  | [] => true
  | c :: l => bif cellOk c then allCell l else false
def rd1 (hp : H) (b o : Nat) : Option CV :=
  match hget hp b with
  | .cells cs => nthC cs o
  | .bytes l n => bif Nat.blt o l then some (.int 4 (.ofNat (bnth n o))) else none
  | .tcells cs => nthC cs o
  | _ => none
def rdN (hp : H) (b o n : Nat) : Option (List CV) :=
  match hget hp b with
  | .cells cs => takeC n (dropC o cs)
  | .bytes l m => bif Nat.ble (o + n) l then some (byteCVs (m / pw o) n) else none
  | .tcells cs => takeC n (dropC o cs)
  | _ => none
def wrN (hp : H) (b o : Nat) (cs : List CV) : Option H :=
  match hget hp b with
  | .cells old => bif allCell cs then (match putC cs o old with | some new => some (hset hp b (.cells new)) | none => none) else none
  | .bytes l m => bif Nat.ble (o + cs.length) l then (match cvBytes cs with | some x => some (hset hp b (.bytes l (bput m o cs.length x l))) | none => none) else none
  | .tcells old => bif allCell cs then (match putC cs o old with | some new => some (hset hp b (.tcells new)) | none => none) else none
  | _ => none
def cellsOf : CV → List CV
  | .agg cs => cs
  | v => [v]

def findM (name : String) : List Method → Option Method
  | [] => none
  | m :: l => bif m.name == name then some m else findM name l
/-- The function that a method's name means at a dynamic type. -/
def methodAt (P : Program) (t : Nat) (name : String) : Option Nat :=
  match tyI P t with
  | some i => (match findM name i.methods.toList with
    | some m => (match m.path.toList, m.func, tyD P t with
      | [], some (f, true), some (.pointer _) => some f
      | [], some (f, false), some (.pointer _) => none
      | [], some (f, false), some _ => some f
      | _, _, _ => none)
    | none => none)
  | none => none
/-! ### Quiet operations -/
section
variable (P : Program) (fr : F) (hp : H)
def qLoad (t : Nat) (a : Operand) (k : CV → Res) : Res :=
  match lk fr a with
  | .ptr b o => (match tyA P t with
    | some (true, n) => (match rdN hp b o n with | some cs => k (.agg cs) | none => none)
    | some (false, _) => (match rd1 hp b o with | some c => k c | none => none)
    | none => none)
  | _ => none
def qPick (c a b : Operand) (k : CV → Res) : Res :=
  match lk fr c with
  | .bool true => k (lk fr a)
  | .bool false => k (lk fr b)
  | _ => none
def qNil (x : Operand) (k : CV → Res) : Res :=
  match lk fr x with
  | .nilp => none | .nili => none | .nilf => none | .junk => none
  | .mth name v => (match v with
    | .ifc t u => (match methodAt P t name with | some _ => k (.mth name (.ifc t u)) | none => none)
    | _ => none)
  | v => k v
def intOp (op : BinOp) (kd : Nat) (x y : Int) (k : CV → Res) : Res :=
  match op with
  | .add => k (.int kd (wrapK kd (x + y)))
  | .sub => k (.int kd (wrapK kd (x - y)))
  | .mul => k (.int kd (wrapK kd (x * y)))
  | .quo => bif ibq y 0 then none else k (.int kd (wrapK kd (x.tdiv y)))
  | .rem => bif ibq y 0 then none else k (.int kd (x.tmod y))
  | .and => k (.int kd ((kc kd).wrap (BitVec.ofInt (kc kd).bits x &&& BitVec.ofInt (kc kd).bits y).toNat))
  | .or => k (.int kd ((kc kd).wrap (BitVec.ofInt (kc kd).bits x ||| BitVec.ofInt (kc kd).bits y).toNat))
  | .xor => k (.int kd ((kc kd).wrap (BitVec.ofInt (kc kd).bits x ^^^ BitVec.ofInt (kc kd).bits y).toNat))
  | .andNot => k (.int kd ((kc kd).wrap (BitVec.ofInt (kc kd).bits x &&& ~~~ (BitVec.ofInt (kc kd).bits y)).toNat))
  | .eql => k (.bool (ibq x y))
  | .neq => k (.bool (!(ibq x y)))
  | .lss => k (.bool (decide (x < y)))
  | .leq => k (.bool (decide (x ≤ y)))
  | .gtr => k (.bool (decide (y < x)))
  | .geq => k (.bool (decide (y ≤ x)))
  | _ => none
def shOp (op : BinOp) (kd : Nat) (x y : Int) (k : CV → Res) : Res :=
  match y with
  | .negSucc _ => none
  | .ofNat m => (match op with
    | .shl => k (.int kd (wrapK kd (x * 2 ^ (min m (kc kd).bits))))
    | .shr => k (.int kd (x.fdiv (2 ^ (min m (kc kd).bits))))
    | _ => none)
def strOp (op : BinOp) (l n l' n' : Nat) (k : CV → Res) : Res :=
  match op with
  | .add => bif Nat.ble (l + l') 4611686018427387904 then k (.str (l + l') (bcat l n n')) else none
  | .eql => k (.bool (bif Nat.beq l l' then Nat.beq (n % pw l) (n' % pw l) else false))
  | .neq => k (.bool (!(bif Nat.beq l l' then Nat.beq (n % pw l) (n' % pw l) else false)))
  | .lss => k (.bool (bleBytes l l' n n'))
  | .geq => k (.bool (!(bleBytes l l' n n')))
  | .gtr => k (.bool (bleBytes l' l n' n))
  | .leq => k (.bool (!(bleBytes l' l n' n)))
  | _ => none
/-- Are two values of one cell, of a type of this kind, the same? -/
def eqCell (P : Program) (d : TypeDesc) (a b : CV) : Option Bool :=
  match d with
  | .int _ => (match a, b with | .int k x, .int j y => bif Nat.beq k j then some (ibq x y) else none | _, _ => none)
  | .bool => (match a, b with | .bool x, .bool y => some (bbq x y) | _, _ => none)
  | .string => (match a, b with | .str l n, .str l' n' => some (bif Nat.beq l l' then Nat.beq (n % pw l) (n' % pw l) else false) | _, _ => none)
  | .pointer e => (match a, b with
    | .nilp, .nilp => some true
    | .nilp, .ptr _ _ => some false
    | .ptr _ _, .nilp => some false
    | .ptr b o, .ptr b' o' => (match tySz P e with
      | some (_ + 1) => bif Nat.beq b b' then some (Nat.beq o o') else (match hget hp b with
        | .cells _ => (match hget hp b' with | .cells _ => some false | _ => none)
        | _ => none)
      | _ => none)
    | _, _ => none)
  | .slice _ => (match a, b with
    | .nils, .nils => some true
    | .nils, .slice .. => some false
    | .slice .., .nils => some false
    | _, _ => none)
  | .map _ _ => (match a, b with
    | .nilm, .nilm => some true
    | .nilm, .map _ => some false
    | .map _, .nilm => some false
    | _, _ => none)
  | .func _ _ _ => (match a, b with
    | .nilf, .nilf => some true
    | .nilf, .fn _ _ _ => some false
    | .nilf, .mth _ _ => some false
    | .nilf, .yld _ => some false
    | .fn _ _ _, .nilf => some false
    | .mth _ _, .nilf => some false
    | .yld _, .nilf => some false
    | _, _ => none)
  | .interface _ => (match a, b with
    | .nili, .nili => some true
    | .nili, .ifc _ _ => some false
    | .ifc _ _, .nili => some false
    | .ifc t x, .ifc u y => bif Nat.beq t u then none else some false
    | _, _ => none)
  | _ => none
def flatEq (P : Program) (x y : List CV) : List Field → Option Bool
  | [] => some true
  | f :: fs => bif f.name == "_" then none else (match tyD P f.type with
    | some d => bif isAg d then none else (match nthC x f.offset, nthC y f.offset with
      | some a, some b => (match eqCell hp P d a b with
        | some true => flatEq P x y fs
        | some false => some false
        | none => none)
      | _, _ => none)
    | none => none)
/-- '==' on what is no integer and no text. -/
def eqVal (t : Nat) (a b : CV) : Option Bool :=
  match tyD P t with
  | some d => (match d with
    | .struct fs => (match a, b with
      | .agg x, .agg y => bif (bif P.stoodInHeld t then false else !(P.eqGuardType P.depth t)) then flatEq hp P x y fs.toList else none
      | _, _ => none)
    | d => eqCell hp P d a b)
  | none => none
def isConst : Operand → Bool | .const _ => true | _ => false
def twoNil (x y : Operand) (a b : CV) : Bool :=
  match a, b with | .nili, .nili => (bif isConst x then false else !(isConst y)) | _, _ => false
def qBin (op : BinOp) (t : Nat) (x y : Operand) (k : CV → Res) : Res :=
  match lk fr x, lk fr y with
  | .int kd a, .int kd' b => (match op with
    | .shl => shOp .shl kd a b k
    | .shr => shOp .shr kd a b k
    | op => bif Nat.beq kd kd' then intOp op kd a b k else none)
  | .str l n, .str l' n' => strOp op l n l' n' k
  | a, b => bif twoNil x y a b then none else (match op with
    | .eql => (match eqVal P hp t a b with | some r => k (.bool r) | none => none)
    | .neq => (match eqVal P hp t a b with | some r => k (.bool (!r)) | none => none)
    | _ => none)
def qUn (op : UnOp) (x : Operand) (k : CV → Res) : Res :=
  match op, lk fr x with
  | .not, .bool b => k (.bool (!b))
  | .neg, .int kd n => k (.int kd (wrapK kd (0 - n)))
  | .xor, .int kd n => k (.int kd ((kc kd).wrap (BitVec.ofInt (kc kd).bits (if (kc kd).signed then -1 else (kc kd).max) ^^^ BitVec.ofInt (kc kd).bits n).toNat))
  | _, _ => none
def qConv (src dst : Nat) (x : Operand) (k : CV → Res) : Res :=
  match tyD P dst, lk fr x with
  | some (.int kd), .int _ n => (match tyD P src with | some _ => k (.int (kn kd) (wrapK (kn kd) n)) | none => none)
  | some .string, .str l n => (match tyD P src with | some _ => k (.str l n) | none => none)
  | some .string, .nils => (match tyD P src with | some (.slice e) => bif isU8 P e then k (.str 0 0) else none | _ => none)
  | some .string, .slice b o s l kk ex => (match tyD P src with
    | some (.slice e) => bif isU8 P e then (match hget hp b with
      | .bytes m n => bif Nat.beq l 0 then k (.str 0 0) else bif Nat.ble (o + l) m then k (.str l (bsub n o l)) else none
      | _ => none) else none
    | _ => none)
  | _, _ => none
def qFieldA (s : Nat) (x : Operand) (f : Nat) (k : CV → Res) : Res :=
  match lk fr x with
  | .ptr b o => (match tyD P s with
    | some (.struct fs) => (match nthL fs.toList f with
      | some fd => (match tySz P fd.type with | some (_ + 1) => k (.ptr b (o + fd.offset)) | _ => none)
      | none => none)
    | _ => none)
  | _ => none
def part (t : Nat) (cs : List CV) (off : Nat) (k : CV → Res) : Res :=
  match tyA P t with
  | some (true, n) => (match takeC n (dropC off cs) with | some r => k (.agg r) | none => none)
  | some (false, _) => (match nthC cs off with | some c => k c | none => none)
  | none => none
def qField (t : Nat) (x : Operand) (f : Nat) (k : CV → Res) : Res :=
  match lk fr x with
  | .agg cs => (match tyD P t with
    | some (.struct fs) => (match nthL fs.toList f with | some fd => part P fd.type cs fd.offset k | none => none)
    | _ => none)
  | _ => none
def qIndexA (t : Nat) (x ix : Operand) (k : CV → Res) : Res :=
  match lk fr ix with
  | .int _ (.ofNat i) => (match lk fr x with
    | .slice b o s l kk ex => (match tyD P t with
      | some (.slice e) => bif Nat.blt i l then (match tySz P e with | some (n + 1) => bif Nat.beq s (n + 1) then k (.ptr b (o + i * s)) else none | _ => none) else none
      | _ => none)
    | .ptr b o => (match tyD P t with
      | some (.array m e) => bif Nat.blt i m then (match tySz P e with | some (n + 1) => k (.ptr b (o + i * (n + 1))) | _ => none) else none
      | _ => none)
    | _ => none)
  | _ => none
def qIndex (t : Nat) (x ix : Operand) (k : CV → Res) : Res :=
  match lk fr ix with
  | .int _ (.ofNat i) => (match lk fr x with
    | .str l n => (match tyD P t with | some .string => bif Nat.blt i l then k (.int 4 (.ofNat (bnth n i))) else none | _ => none)
    | .agg cs => (match tyD P t with
      | some (.array m e) => bif Nat.blt i m then (match tySz P e with | some s => part P e cs (i * s) k | none => none) else none
      | _ => none)
    | _ => none)
  | _ => none
def optN : Option Operand → Option (Option Nat)
  | none => some none
  | some x => (match lk fr x with | .int _ (.ofNat n) => some (some n) | _ => none)
def orN (d : Nat) : Option Nat → Nat | some n => n | none => d
def qSlice (t : Nat) (x : Operand) (lo hi mx : Option Operand) (k : CV → Res) : Res :=
  match optN fr lo with
  | none => none
  | some lo => (match optN fr hi with
    | none => none
    | some hi => (match optN fr mx with
      | none => none
      | some mx => (match lk fr x with
        | .str l n => (match tyD P t with
          | some .string => (match mx with
            | none => bif Nat.ble (orN l hi) l then (bif Nat.ble (orN 0 lo) (orN l hi) then k (.str (orN l hi - orN 0 lo) (bsub n (orN 0 lo) (orN l hi - orN 0 lo))) else none) else none
            | _ => none)
          | _ => none)
        | .nils => (match tyD P t with
          | some (.slice e) => (match tySz P e with
            | some _ => (match mx with
              | some _ => none
              | none => bif Nat.beq (orN 0 hi) 0 then (bif Nat.beq (orN 0 lo) 0 then k .nils else none) else none)
            | none => none)
          | _ => none)
        | .ptr b o => (match tyD P t with
          | some (.array m e) => (match tySz P e with
            | some sz => (match mx with
              | some _ => none
              | none => bif Nat.ble (orN m hi) m then (bif Nat.ble (orN 0 lo) (orN m hi) then (match hget hp b with
                | .cells cs => bif Nat.ble (o + m * sz) cs.length then k (.slice b (bif Nat.beq (orN 0 lo) m then o else o + orN 0 lo * sz) sz (orN m hi - orN 0 lo) (m - orN 0 lo) true) else none
                | _ => none) else none) else none)
            | none => none)
          | _ => none)
        | .slice b o s l c ex => (match tyD P t with
          | some (.slice e) => (match tySz P e with
            | some sz => bif Nat.beq sz s then
              (match mx with
              | none => bif Nat.ble (orN l hi) c then (bif Nat.ble (orN 0 lo) (orN l hi) then
                  k (.slice b (bif Nat.beq (orN 0 lo) c then o else o + orN 0 lo * s) s (orN l hi - orN 0 lo) (c - orN 0 lo) ex) else none) else none
              | some m => (match hi with
                | none => none
                | some h => bif (bif Nat.ble 1 c then true else ex) then bif Nat.ble m c then (bif Nat.ble h m then (bif Nat.ble (orN 0 lo) h then
                    k (.slice b (bif Nat.beq (orN 0 lo) m then o else o + orN 0 lo * s) s (h - orN 0 lo) (m - orN 0 lo) true) else none) else none) else none else none)) else none
            | none => none)
          | _ => none)
        | _ => none)))
def qExtract (t : Operand) (ix : Nat) (k : CV → Res) : Res :=
  match lk fr t with
  | .tup vs => (match nthC vs ix with | some v => k v | none => none)
  | _ => none
def qMakeI (t : Nat) (x : Operand) (k : CV → Res) : Res :=
  match tyD P t with
  | some (.interface _) => none
  | some _ => (match lk fr x with | .junk => none | v => k (.ifc t v))
  | none => none
def qMakeF (fn : Fn) (first captured : Array Operand) (k : CV → Res) : Res :=
  match fn with
  | .func f => k (.fn f (lks fr first.toList) (lks fr captured.toList))
  | .method name => (match first.toList, captured.toList with
    | [x], [] => (match lk fr x with | .ifc t v => k (.mth name (.ifc t v)) | _ => none)
    | _, _ => none)
  | _ => none
/-! maps -/
def keyEq : CV → CV → Option Bool
  | .int k a, .int j b => bif Nat.beq k j then some (ibq a b) else none
  | .bool a, .bool b => some (bbq a b)
  | .str l n, .str l' n' => some (bif Nat.beq l l' then Nat.beq (n % pw l) (n' % pw l) else false)
  | _, _ => none
/-- The place of a key; none: it is not there. (None outside: the keys are of no kind that is served.) -/
def findE (x : CV) : List Ent → Nat → Option (Option (Nat × CV))
  | [], _ => some none
  | e :: es, i => (match keyEq x e.key with
    | some true => some (some (i, e.val))
    | some false => findE x es (i + 1)
    | none => none)
def keyKind (P : Program) (t : Nat) (x : CV) : Bool :=
  match tyD P t, x with
  | some (.int _), .int _ _ => true
  | some .string, .str _ _ => true
  | some .bool, .bool _ => true
  | some (.pointer _), .ptr _ _ => true
  | _, _ => false
def entsOf (hp : H) (x : CV) : Option (List Ent) :=
  match x with
  | .nilm => some []
  | .map b => (match hget hp b with | .map es _ => some es | _ => none)
  | _ => none
def qLook (t : Nat) (x ix : Operand) (ok : Bool) (k : CV → Res) : Res :=
  match tyD P t with
  | some (.map kt et) => bif keyKind P kt (lk fr ix) then
      (match entsOf hp (lk fr x) with
      | some es => (match findE (lk fr ix) es 0 with
        | some (some (_, v)) => k (bif ok then .tup [v, .bool true] else v)
        | some none => (match zeroV P et with
          | some v => k (bif ok then .tup [v, .bool false] else v)
          | none => none)
        | none => none)
      | none => none) else none
  | _ => none
def qLen (x : CV) (t : Nat) (k : CV → Res) : Res :=
  match tyD P t, x with
  | some .string, .str l _ => k (.int 3 (.ofNat l))
  | some (.slice _), .nils => k (.int 3 0)
  | some (.slice _), .slice _ _ _ l _ _ => k (.int 3 (.ofNat l))
  | some (.map _ _), .nilm => k (.int 3 0)
  | some (.map _ _), .map b => (match hget hp b with | .map es _ => k (.int 3 (.ofNat es.length)) | _ => none)
  | some (.array n _), _ => k (.int 3 (.ofNat n))
  | _, _ => none
def qCap (x : CV) (t : Nat) (k : CV → Res) : Res :=
  match tyD P t, x with
  | some (.slice _), .nils => k (.int 3 0)
  | some (.slice _), .slice _ _ _ _ c true => k (.int 3 (.ofNat c))
  | _, _ => none
def qMinMax (mx : Bool) (x y : CV) (k : CV → Res) : Res :=
  match x, y with
  | .int kd a, .int kd' b => bif Nat.beq kd kd' then k (.int kd (bif mx then (if b > a then b else a) else (if b < a then b else a))) else none
  | _, _ => none
def fillC (place : Nat → Option (Nat × Nat)) (fr : F) : List (Nat × Operand) → List CV → Option (List CV)
  | [], cs => some cs
  | (i, x) :: rest, cs => (match place i with
    | some (off, size) => bif (match lk fr x with | .junk => false | v => Nat.beq (cellsOf v).length size) then
        (match putC (cellsOf (lk fr x)) off cs with | some cs' => fillC place fr rest cs' | none => none) else none
    | none => none)
def stPlace (fs : List Field) (i : Nat) : Option (Nat × Nat) :=
  match nthL fs i with | some f => (match tySz P f.type with | some n => some (f.offset, n) | none => none) | none => none
def allSz : List Field → Bool
  | [] => true
  | f :: l => (match tySz P f.type with | some _ => allSz l | none => false)
def qBuild (t : Nat) (parts : Array (Nat × Operand)) (k : CV → Res) : Res :=
  match zeroC P t with
  | some z => (match tyD P t with
    | some (.struct fs) => bif allSz P fs.toList then (match fillC (stPlace P fs.toList) fr parts.toList z with | some cs => k (.agg cs) | none => none) else none
    | some (.array _ e) => (match tySz P e with
      | some s => (match fillC (fun i => some (i * s, s)) fr parts.toList z with | some cs => k (.agg cs) | none => none)
      | none => none)
    | _ => none)
  | none => none
def qAssert (x : Operand) (xt t : Nat) (ok : Bool) (k : CV → Res) : Res :=
  match tyD P t with
  | some (.interface want) => (match lk fr x with
    | .ifc d v => (match tyI P d with
      | some i => (match Instr.missingMethod want i.methods with
        | none => k (bif ok then .tup [.ifc d v, .bool true] else .ifc d v)
        | some _ => bif ok then (match zeroV P t with | some z => k (.tup [z, .bool false]) | none => none) else none)
      | none => none)
    | .nili => bif ok then (match zeroV P t with | some z => k (.tup [z, .bool false]) | none => none) else none
    | _ => none)
  | some d => (match lk fr x with
    | .ifc u v => bif Nat.beq u t then k (bif ok then .tup [v, .bool true] else v) else (bif ok then (match zeroV P t with | some v => k (.tup [v, .bool false]) | none => none) else none)
    | .nili => bif ok then (match zeroV P t with | some v => k (.tup [v, .bool false]) | none => none) else none
    | _ => none)
  | none => none
def qCallB (b : Builtin) (args : List Operand) (ts : List Nat) (k : CV → Res) : Res :=
  match b, args, ts with
  | .len, [x], t :: _ => qLen P hp (lk fr x) t k
  | .cap, [x], t :: _ => qCap P (lk fr x) t k
  | .max, [x, y], _ => qMinMax true (lk fr x) (lk fr y) k
  | .min, [x, y], _ => qMinMax false (lk fr x) (lk fr y) k
  | _, _, _ => none
def qCall (c : Call) (k : CV → Res) : Res :=
  match c.callee with
  | .builtin b => qCallB P fr hp b c.args.toList c.argTypes.toList k
  | _ => none
/-- What a quiet operation answers. -/
def qev (o : Op) (k : CV → Res) : Res :=
  match o with
  | .move x => (match lk fr x with | v => k v)
  | .assign x => k (lk fr x)
  | .pick c a b => qPick fr c a b k
  | .load t a => qLoad P fr hp t a k
  | .nilCheck x => qNil P fr x k
  | .binOp op t x y _ => qBin P fr hp op t x y k
  | .unOp op _ x => qUn fr op x k
  | .convert s d x => qConv P fr hp s d x k
  | .makeInterface t x => qMakeI P fr t x k
  | .makeFunc fn a b => qMakeF fr fn a b k
  | .slice t x lo hi mx => qSlice P fr hp t x lo hi mx k
  | .fieldAddr s x f => qFieldA P fr s x f k
  | .field t x f => qField P fr t x f k
  | .indexAddr t x ix => qIndexA P fr t x ix k
  | .index t x ix => qIndex P fr t x ix k
  | .lookup t x ix ok => qLook P fr hp t x ix ok k
  | .typeAssert x xt t ok => qAssert P fr x xt t ok k
  | .extract t ix => qExtract fr t ix k
  | .build t parts => qBuild P fr t parts k
  | .call c => qCall P fr hp c k
  | _ => none
end

/-! ### Loud operations -/
abbrev KS := CV → H → Nat → Res
section
variable (P : Program) (fr : F) (hp : H) (n : Nat)
/-- Which names are free is told in one number: the next one, and 2 ^ 20 times the first that is not. -/
def idN (n : Nat) : Nat := n % 1048576
def limN (n : Nat) : Nat := n / 1048576
def mkN (lim id : Nat) : Nat := id + lim * 1048576
def newCk (c : Ck) (v : Nat → CV) (k : KS) : Res := bif Nat.blt (idN n) (limN n) then k (v (idN n)) (hset hp (idN n) c) (n + 1) else none
def newPtr (cs : List CV) (k : KS) : Res := newCk hp n (.cells cs) (fun i => .ptr i 0) k
def lAlloc (t : Nat) (k : KS) : Res := match zeroC P t with | some cs => (bif Nat.beq t bldT then newCk hp n (.tcells cs) (fun i => .ptr i 0) k else newPtr hp n cs k) | none => none
def lBox (t : Nat) (x : Operand) (k : KS) : Res := match lk fr x with | .junk => none | v => newPtr hp n (cellsOf v) k
def lStore (t : Nat) (a v : Operand) (k : KS) : Res :=
  match lk fr a with
  | .ptr b o => (match tySz P t with
    | some sz => (match lk fr v with
      | .junk => none
      | v => bif Nat.beq (cellsOf v).length sz then (match wrN hp b o (cellsOf v) with | some hp' => k (.tup []) hp' n | none => none) else none)
    | none => none)
  | _ => none
/-- m zero elements, of so many cells each. -/
def zeroN (P : Program) (e sz m : Nat) : Option Ck :=
  match zeroC P e with
  | some z => bif Nat.beq z.length sz then (bif isU8 P e then (match z with
      | [c] => (match cvByte c with | some 0 => some (.bytes m 0) | _ => none)
      | _ => none) else some (.cells (repC z m))) else none
  | none => none
def lMakeS (t : Nat) (l c : Operand) (k : KS) : Res :=
  match lk fr l, lk fr c with
  | .int _ (.ofNat l), .int _ (.ofNat c) => bif Nat.ble l c then (match tyD P t with
    | some (.slice e) => (match tyI P e with
      | some i => bif Nat.ble c 140737488355328 then bif Nat.ble (i.bytes * c) 140737488355328 then (bif Nat.ble 1 i.size then (match zeroN P e i.size c with
        | some ck => newCk hp n ck (fun b => .slice b 0 i.size l c true) k
        | none => none) else none) else none else none
      | none => none)
    | _ => none) else none
  | _, _ => none
def lMakeM (t : Nat) (r : Option Operand) (k : KS) : Res :=
  match tyD P t with
  | some (.map _ _) => (match r with
    | none => newCk hp n (.map [] 0) (fun b => .map b) k
    | some x => (match lk fr x with | .int _ _ => newCk hp n (.map [] 0) (fun b => .map b) k | _ => none))
  | _ => none
def lBuildS (t len : Nat) (parts : Array (Nat × Operand)) (k : KS) : Res :=
  match tyD P t with
  | some (.slice e) => (match tySz P e with
    | some s => bif Nat.ble 1 s then bif Nat.ble (len * s) 16777216 then (match zeroC P e with
      | some z => bif Nat.beq z.length s then (match fillC (fun i => some (i * s, s)) fr parts.toList (repC z len) with
        | some cs => bif isU8 P e then (match (bif Nat.beq s 1 then cvBytes cs else none) with
            | some x => newCk hp n (.bytes len x) (fun b => .slice b 0 1 len len true) k
            | none => none)
          else newCk hp n (.cells cs) (fun b => .slice b 0 s len len true) k
        | none => none) else none
      | none => none) else none else none
    | none => none)
  | _ => none
def setE (x v : CV) (i : Nat) : List Ent → List Ent
  | [] => []
  | e :: l => (match i with | 0 => ⟨x, v, e.born⟩ :: l | i + 1 => e :: setE x v i l)
def delE (i : Nat) : List Ent → List Ent
  | [] => []
  | e :: l => (match i with | 0 => l | i + 1 => e :: delE i l)
def lMapUp (t : Nat) (m x v : Operand) (k : KS) : Res :=
  match tyD P t with
  | some (.map kt _) => bif keyKind P kt (lk fr x) then (match lk fr m with
    | .map b => (match hget hp b with
      | .map es clock => (match lk fr v with
        | .junk => none
        | v => (match findE (lk fr x) es 0 with
          | some (some (i, _)) => k (.tup []) (hset hp b (.map (setE (lk fr x) v i es) clock)) n
          | some none => k (.tup []) (hset hp b (.map (es ++ [⟨lk fr x, v, clock⟩]) (clock + 1))) n
          | none => none))
      | _ => none)
    | _ => none) else none
  | _ => none
def lDelete (t : Nat) (m x : Operand) (k : KS) : Res :=
  match tyD P t with
  | some (.map kt _) => bif keyKind P kt (lk fr x) then (match lk fr m with
    | .nilm => k (.tup []) hp n
    | .map b => (match hget hp b with
      | .map es clock => (match findE (lk fr x) es 0 with
          | some (some (i, _)) => k (.tup []) (hset hp b (.map (delE i es) clock)) n
          | some none => k (.tup []) hp n
          | none => none)
      | _ => none)
    | _ => none) else none
  | _ => none
def entAt (i : Nat) : List Ent → Option Ent
  | [] => none
  | e :: l => (match i with | 0 => some e | i + 1 => entAt i l)
def lMapEntry (t : Nat) (m x : Operand) (k : KS) : Res :=
  match tyD P t with
  | some (.map kt et) => bif keyKind P kt (lk fr x) then (match lk fr m with
    | .map b => (match hget hp b with
      | .map es clock => (match findE (lk fr x) es 0 with
          | some (some (i, v)) => (match entAt i es with
            | some e => k (.tup [v, .int 3 (.ofNat e.born)]) (hset hp b (.map (setE (lk fr x) v i es) clock)) n
            | none => none)
          | some none => (match zeroV P et with
            | some v => k (.tup [v, .int 3 (.ofNat clock)]) (hset hp b (.map (es ++ [⟨lk fr x, v, clock⟩]) (clock + 1))) n
            | none => none)
          | none => none)
      | _ => none)
    | _ => none) else none
  | _ => none
def bornAt (s : Nat) (v : CV) : List Ent → Option (List Ent)
  | [] => none
  | e :: l => bif Nat.beq e.born s then some (⟨e.key, v, e.born⟩ :: l) else (match bornAt s v l with | some r => some (e :: r) | none => none)
def lEntryStore (m s v : Operand) (k : KS) : Res :=
  match lk fr m with
  | .map b => (match hget hp b with
    | .map es clock => (match lk fr s with
      | .int _ (.ofNat st) => (match lk fr v with
        | .junk => none
        | v => (match bornAt st v es with | some es' => k (.tup []) (hset hp b (.map es' clock)) n | none => none))
      | _ => none)
    | _ => none)
  | _ => none
def lRange (t : Nat) (x : Operand) (k : KS) : Res :=
  match tyD P t, lk fr x with
  | some .string, .str l m => newCk hp n (.siter l m 0) (fun b => .ptr b 0) k
  | some (.map _ _), .nilm => newCk hp n .iter0 (fun b => .ptr b 0) k
  | some (.map _ _), .map b => (match hget hp b with
    | .map _ clock => newCk hp n (.iter b clock [] clock) (fun b => .ptr b 0) k
    | _ => none)
  | _, _ => none
def has (x : Nat) : List Nat → Bool
  | [] => false
  | a :: l => bif Nat.beq a x then true else has x l
/-- The entries that may come next. -/
def cands (seen : List Nat) : List Ent → List Ent
  | [] => []
  | e :: l => bif has e.born seen then cands seen l else e :: cands seen l
def allOld (since : Nat) : List Ent → Bool
  | [] => true
  | e :: l => bif Nat.blt e.born since then allOld since l else false
def eachE (f : Ent → Res) : List Ent → Res
  | [] => some []
  | [e] => f e
  | e :: l => Res.cat (f e) (eachE f l)
def lNext (x : Operand) (str : Bool) (k : KS) : Res :=
  match lk fr x with
  | .ptr r 0 => (match hget hp r with
    | .iter m since seen stepped => bif str then none else (match hget hp m with
      | .map es clock => bif (bif Nat.ble since stepped then allOld since es else false) then (match cands seen es with
          | [] => k (.tup [.bool false]) hp n
          | c => eachE (fun e => k (.tup [.bool true, e.key, e.val]) (hset hp r (.iter m since (seen ++ [e.born]) clock)) n) c) else none
      | _ => none)
    | .iter0 => bif str then none else k (.tup [.bool false]) hp n
    | .siter l m pos => bif str then (bif Nat.blt pos l then (bif Nat.blt (bnth m pos) 128 then
          k (.tup [.bool true, .int 3 (.ofNat pos), .int 2 (.ofNat (bnth m pos))]) (hset hp r (.siter l m (pos + 1))) n else none)
        else k (.tup [.bool false]) hp n) else none
    | _ => none)
  | _ => none
def lastN : List Nat → Option Nat
  | [] => none
  | [a] => some a
  | _ :: l => lastN l
def findBorn (s : Nat) : List Ent → Option Ent
  | [] => none
  | e :: l => bif Nat.beq e.born s then some e else findBorn s l
def lEntry (x : Operand) (k : KS) : Res :=
  match lk fr x with
  | .ptr r 0 => (match hget hp r with
    | .iter m since seen stepped => (match hget hp m with
      | .map es clock => bif Nat.beq clock stepped then (match lastN seen with
        | some s => (match findBorn s es with | some e => k (.tup [e.key, e.val]) hp n | none => none)
        | none => none) else none
      | _ => none)
    | _ => none)
  | _ => none

/-! append, copy, clear -/
inductive Els where
  | cs (l : List CV)
  | bs (l n : Nat)
/-- The elements of a slice or a text. -/
def elsOf (hp : H) (u8 : Bool) (s : Nat) (v : CV) (m : Nat) : Option Els :=
  match v with
  | .nils => bif Nat.beq m 0 then some (bif u8 then .bs 0 0 else .cs []) else none
  | .str l x => bif u8 then (bif Nat.ble m l then some (.bs m x) else none) else none
  | .slice b o s' l _ _ => bif Nat.beq s s' then (bif Nat.ble m l then (bif Nat.beq m 0 then some (bif u8 then .bs 0 0 else .cs []) else
      (bif u8 then (match hget hp b with
        | .bytes k x => bif Nat.ble (o + m) k then some (.bs m (bsub x o m)) else none
        | _ => none)
      else (match hget hp b with
        | .cells cs => (match takeC (m * s) (dropC o cs) with | some r => some (.cs r) | none => none)
        | _ => none))) else none) else none
  | _ => none
def lenOf : CV → Option Nat
  | .nils => some 0
  | .str l _ => some l
  | .slice _ _ _ l _ _ => some l
  | _ => none
/-- Elements laid over a block, from a cell on. -/
def layEls (hp : H) (b o : Nat) (e : Els) : Option H :=
  match e with
  | .cs l => (match hget hp b with
    | .cells old => bif allCell l then (match overC l o old with | some new => some (hset hp b (.cells new)) | none => none) else none
    | _ => none)
  | .bs l x => (match hget hp b with
    | .bytes k y => bif Nat.ble o k then (bif Nat.ble (o + l) k then some (hset hp b (.bytes k (bput y o l x k))) else some (hset hp b (.bytes (o + l) (bcat o y (x % pw l))))) else none
    | _ => none)
def catEls : Els → Els → Option Ck
  | .cs a, .cs b => some (.cells (a ++ b))
  | .bs l n, .bs l' n' => some (.bytes (l + l') (bcat l n n'))
  | _, _ => none
/-- An element type that is served: its table's row. -/
def elI (P : Program) (e : Nat) : Option TypeInfo :=
  match tyI P e with
  | some i => bif (bif Nat.ble 1 i.size then bif Nat.ble 1 i.bytes then (bif isU8 P e then Nat.beq i.size 1 else true) else false else false) then (match zeroC P e with
    | some z => bif Nat.beq z.length i.size then some i else none
    | none => none) else none
  | none => none
def allEls : Els → Bool | .cs l => allCell l | .bs _ _ => true
def isRow (u8 : Bool) (c : Ck) : Bool := match c with | .cells _ => !u8 | .bytes _ _ => u8 | _ => false
def lAppend (t t2 : Nat) (d s : CV) (k : KS) : Res :=
  match tyD P t with
  | some (.slice e) => (match elI P e with
    | some i => (match tyD P t2 with
      | some (.int _) => none
      | some _ =>
        (match lenOf s with
        | some m => (match elsOf hp (isU8 P e) i.size s m with
          | some new => (match d with
            | .nils => bif Nat.beq m 0 then k .nils hp n else
                (match catEls (bif isU8 P e then .bs 0 0 else .cs []) new with
                | some ck => bif Nat.ble (i.bytes * m) 70368744177664 then newCk hp n ck (fun b => .slice b 0 i.size m m false) k else none
                | none => none)
            | .slice b o sz l c ex => bif Nat.beq sz i.size then
                (bif Nat.ble (l + m) c then (bif Nat.beq m 0 then k (.slice b o sz l c ex) hp n else
                  (match layEls hp b (o + l * sz) new with | some hp' => k (.slice b o sz (l + m) c ex) hp' n | none => none))
                else (match elsOf hp (isU8 P e) i.size d l with
                  | some old => (match catEls old new with
                    | some ck => bif Nat.ble (i.bytes * (l + m)) 70368744177664 then
                        (bif ex then newCk hp n ck (fun b => .slice b 0 sz (l + m) (l + m) false) k
                        else (bif (bif Nat.beq o 0 then (bif Nat.ble 1 c then (bif isRow (isU8 P e) (hget hp b) then allEls new else false) else false) else false) then newCk (hset hp b .no) n ck (fun b => .slice b 0 sz (l + m) (l + m) false) k else none)) else none
                    | none => none)
                  | none => none)) else none
            | _ => none)
          | none => none)
        | none => none)
      | none => none)
    | none => none)
  | _ => none
def lCopy (t : Nat) (d s : CV) (k : KS) : Res :=
  match tyD P t with
  | some (.slice e) => (match elI P e with
    | some i => (match lenOf s with
      | some m => (match lenOf d with
        | some l => (match (bif Nat.ble m l then m else l) with
          | 0 => (match d with | .nils => k (.int 3 0) hp n | .slice .. => k (.int 3 0) hp n | _ => none)
          | j => (match elsOf hp (isU8 P e) i.size s j with
            | some new => (match d with
              | .slice b o sz' _ _ _ => bif Nat.beq i.size sz' then (match layEls hp b o new with | some hp' => k (.int 3 (.ofNat j)) hp' n | none => none) else none
              | _ => none)
            | none => none))
        | none => none)
      | none => none)
    | none => none)
  | _ => none
def lClear (t : Nat) (x : CV) (k : KS) : Res :=
  match tyD P t, x with
  | some (.map _ _), .nilm => k (.tup []) hp n
  | some (.map _ _), .map b => (match hget hp b with | .map _ clock => k (.tup []) (hset hp b (.map [] clock)) n | _ => none)
  | some (.slice _), .nils => k (.tup []) hp n
  | some (.slice e), .slice b o s l _ _ => (match l with
    | 0 => k (.tup []) hp n
    | l => (match zeroN P e s l with
      | some (.bytes m x) => (match layEls hp b o (.bs m x) with | some hp' => k (.tup []) hp' n | none => none)
      | some (.cells cs) => (match layEls hp b o (.cs cs) with | some hp' => k (.tup []) hp' n | none => none)
      | _ => none))
  | _, _ => none
def lConv (src dst : Nat) (x : Operand) (k : KS) : Res :=
  match tyD P dst, lk fr x with
  | some (.slice e), .str l m => (match tyD P src with
    | some _ => bif isU8 P e then newCk hp n (.bytes l m) (fun b => .slice b 0 1 l l false) k else none
    | none => none)
  | some (.slice e), .slice b o s l kk ex => (match tyD P src with
    | some (.slice _) => bif (bif Nat.beq src dst then isU8 P e else false) then (match hget hp b with
      | .bytes _ _ => k (.slice b o s l kk ex) hp n
      | _ => none) else none
    | _ => none)
  | _, _ => qConv P fr hp src dst x (fun v => k v hp n)
def lCallB (b : Builtin) (args : List Operand) (ts : List Nat) (k : KS) : Res :=
  match b, args, ts with
  | .append, [d, s], [t, t2] => lAppend P hp n t t2 (lk fr d) (lk fr s) k
  | .copy, [d, s], t :: _ => lCopy P hp n t (lk fr d) (lk fr s) k
  | .clear, [x], t :: _ => lClear P hp n t (lk fr x) k
  | .delete, [m, x], t :: _ => lDelete P fr hp n t m x k
  | b, args, ts => qCallB P fr hp b args ts (fun v => k v hp n)
end
end
end Go.Cx
