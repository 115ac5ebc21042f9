/- A run with values written out: its data. -/
import Derived.Calls
import Derived.Below
import Derived.Orders
import Derived.LaidEql
import Derived.WalkKit
import Derived.Laws.Tables
import Derived.Laws.IdiomStrings
import Derived.Laws.StructEq
import Derived.Laws.CopyRow
import Derived.Laws.RangeString
import Derived.Maps.RangeRun
set_option linter.unusedVariables false
namespace Go.Cx
noncomputable section

/-! ### Kinds by number -/
def kc : Nat → IntKind
  | 0 => .i8 | 1 => .i16 | 2 => .i32 | 3 => .i64 | 4 => .u8 | 5 => .u16 | 6 => .u32 | _ => .u64
def kn : IntKind → Nat
  | .i8 => 0 | .i16 => 1 | .i32 => 2 | .i64 => 3 | .u8 => 4 | .u16 => 5 | .u32 => 6 | .u64 => 7
def hiN : Nat → Nat
  | 0 => 127 | 1 => 32767 | 2 => 2147483647 | 3 => 9223372036854775807 | 4 => 255 | 5 => 65535 | 6 => 4294967295 | _ => 18446744073709551615
def loN : Nat → Nat
  | 0 => 128 | 1 => 32768 | 2 => 2147483648 | 3 => 9223372036854775808 | _ => 0
def fits (k : Nat) (n : Int) : Bool := match n with | .ofNat m => Nat.ble m (hiN k) | .negSucc m => Nat.blt m (loN k)
def wrapK (k : Nat) (n : Int) : Int := bif fits k n then n else (kc k).wrap n

/-! ### Values -/
inductive CV where
  | int (k : Nat) (n : Int) | bool (b : Bool) | str (l n : Nat)
  | ptr (b o : Nat) | nilp
  | slice (b o s l k : Nat) (ex : Bool) | nils
  | map (b : Nat) | nilm
  | fn (f : Nat) (first caps : List CV) | mth (name : String) (recv : CV) | yld (l : Nat) | nilf
  | ifc (t : Nat) (v : CV) | nili
  | agg (cs : List CV) | tup (vs : List CV)
  | junk
  deriving Inhabited

structure Ent where
  key : CV
  val : CV
  born : Nat
  deriving Inhabited

/-! ### Eight places -/
structure O (α : Type) where
  c0 : α
  c1 : α
  c2 : α
  c3 : α
  c4 : α
  c5 : α
  c6 : α
  c7 : α
def sel {α : Type} (c0 c1 c2 c3 c4 c5 c6 c7 : α) (d : Nat) : α :=
  @Nat.rec (fun _ => α) c0 (fun d _ => @Nat.rec (fun _ => α) c1 (fun d _ => @Nat.rec (fun _ => α) c2 (fun d _ => @Nat.rec (fun _ => α) c3 (fun d _ =>
    @Nat.rec (fun _ => α) c4 (fun d _ => @Nat.rec (fun _ => α) c5 (fun d _ => @Nat.rec (fun _ => α) c6 (fun _ _ => c7) d) d) d) d) d) d) d
def og {α : Type} (o : O α) (d : Nat) : α := @O.rec α (fun _ => α) (fun c0 c1 c2 c3 c4 c5 c6 c7 => sel c0 c1 c2 c3 c4 c5 c6 c7 d) o
def os {α : Type} (f : α → α) (o : O α) (d : Nat) : O α :=
  @O.rec α (fun _ => O α) (fun c0 c1 c2 c3 c4 c5 c6 c7 => sel ⟨f c0, c1, c2, c3, c4, c5, c6, c7⟩ ⟨c0, f c1, c2, c3, c4, c5, c6, c7⟩ ⟨c0, c1, f c2, c3, c4, c5, c6, c7⟩ ⟨c0, c1, c2, f c3, c4, c5, c6, c7⟩
    ⟨c0, c1, c2, c3, f c4, c5, c6, c7⟩ ⟨c0, c1, c2, c3, c4, f c5, c6, c7⟩ ⟨c0, c1, c2, c3, c4, c5, f c6, c7⟩ ⟨c0, c1, c2, c3, c4, c5, c6, f c7⟩ d) o
def oe {α : Type} (a : α) : O α := ⟨a, a, a, a, a, a, a, a⟩
/-- A frame: how many places it has, and these. -/
structure F where
  n : Nat
  o : O (O (O CV))
def F0 (n : Nat) : F := ⟨n, oe (oe (oe .junk))⟩
def fget (f : F) (i : Nat) : CV := @F.rec (fun _ => CV) (fun _ o => og (og (og o (i / 64)) (i / 8 % 8)) (i % 8)) f
def fput (f : F) (i : Nat) (v : CV) : F := @F.rec (fun _ => F) (fun n o => ⟨n, os (fun g => os (fun h => os (fun _ => v) h (i % 8)) g (i / 8 % 8)) o (i / 64)⟩) f
/-- Places 0 to 510 are a frame's; 511 keeps its deferred calls. -/
def fset (f : F) (i : Nat) (v : CV) : F := @F.rec (fun _ => F) (fun n o => bif Nat.blt i n then ⟨n, os (fun g => os (fun h => os (fun _ => v) h (i % 8)) g (i / 8 % 8)) o (i / 64)⟩ else ⟨n, o⟩) f
def fg (f : F) (i : Nat) : CV := @F.rec (fun _ => CV) (fun n o => bif Nat.blt i n then og (og (og o (i / 64)) (i / 8 % 8)) (i % 8) else .junk) f
def dfSlot : Nat := 511

/-- What lies in a block. -/
inductive Ck where
  | no
  | cells (cs : List CV)
  | bytes (l n : Nat)
  | map (es : List Ent) (clock : Nat)
  | iter (m since : Nat) (seen : List Nat) (stepped : Nat)
  | siter (l n pos : Nat)
  | iter0
  | dfr
  | loop (fn : Nat) (fr : F) (ps : List Nat) (assign body : Code) (db : Nat) (st : Nat) (pend : Option Code)
abbrev H := O (O (O (O (O Ck))))
def H0 : H := oe (oe (oe (oe (oe .no))))
def hget (h : H) (i : Nat) : Ck := og (og (og (og (og h (i / 4096)) (i / 512 % 8)) (i / 64 % 8)) (i / 8 % 8)) (i % 8)
def hset (h : H) (i : Nat) (c : Ck) : H :=
  os (fun h => os (fun h => os (fun h => os (fun h => os (fun _ => c) h (i % 8)) h (i / 8 % 8)) h (i / 64 % 8)) h (i / 512 % 8)) h (i / 4096)

/-! ### Outcomes -/
structure Out where
  v : CV
  hp : H
  n : Nat
abbrev Res := Option (List Out)
def Res.cat (a b : Res) : Res := match a with | none => none | some l => (match b with | none => none | some m => some (l ++ m))

/-! ### Bytes by number: the first byte is the lowest -/
def pw (l : Nat) : Nat := 2 ^ (8 * l)
def bnth (n i : Nat) : Nat := (n / pw i) % 256
def bsub (n lo len : Nat) : Nat := (n / pw lo) % pw len
def bcat (l1 n1 n2 : Nat) : Nat := n1 % pw l1 + n2 * pw l1
/-- n with len bytes from lo on laid over by m's. -/
def bput (n lo len m l : Nat) : Nat := n % pw lo + (m % pw len) * pw lo + ((n / pw (lo + len)) % pw (l - (lo + len))) * pw (lo + len)
def ofBytes : List UInt8 → Nat
  | [] => 0
  | x :: l => x.toNat + 256 * ofBytes l
def byteCVs (n : Nat) : Nat → List CV
  | 0 => []
  | l + 1 => .int 4 (.ofNat (n % 256)) :: byteCVs (n / 256) l
def cvByte : CV → Option Nat
  | .int 4 (.ofNat m) => bif Nat.ble m 255 then some m else none
  | _ => none
def cvBytes : List CV → Option Nat
  | [] => some 0
  | c :: l => (match cvByte c with | some x => (match cvBytes l with | some y => some (x + 256 * y) | none => none) | none => none)
def bleBytes : Nat → Nat → Nat → Nat → Bool  -- is (l1, n1) less than (l2, n2)
  | _, 0, _, _ => false
  | 0, _ + 1, _, _ => true
  | l1 + 1, l2 + 1, n1, n2 => bif Nat.blt (n1 % 256) (n2 % 256) then true else bif Nat.beq (n1 % 256) (n2 % 256) then bleBytes l1 l2 (n1 / 256) (n2 / 256) else false

/-! ### Lists -/
def nthC : List CV → Nat → Option CV
  | [], _ => none
  | c :: _, 0 => some c
  | _ :: l, i + 1 => nthC l i
def takeC : Nat → List CV → Option (List CV)
  | 0, _ => some []
  | _ + 1, [] => none
  | n + 1, c :: l => (match takeC n l with | some r => some (c :: r) | none => none)
def dropC : Nat → List CV → List CV
  | 0, l => l
  | _ + 1, [] => []
  | n + 1, _ :: l => dropC n l
/-- cs laid over l from o on (it may reach beyond the end, but not begin beyond it). -/
def overC (cs : List CV) : Nat → List CV → Option (List CV)
  | 0, l => some (cs ++ dropC cs.length l)
  | _ + 1, [] => none
  | o + 1, c :: l => (match overC cs o l with | some r => some (c :: r) | none => none)
/-- cs laid over l from o on, within it. -/
def putC0 : List CV → List CV → Option (List CV)
  | [], l => some l
  | _ :: _, [] => none
  | c :: cs, _ :: l => (match putC0 cs l with | some r => some (c :: r) | none => none)
def putC (cs : List CV) : Nat → List CV → Option (List CV)
  | 0, l => putC0 cs l
  | _ + 1, [] => none
  | o + 1, c :: l => (match putC cs o l with | some r => some (c :: r) | none => none)
def repC (cs : List CV) : Nat → List CV
  | 0 => []
  | n + 1 => cs ++ repC cs n

/-! ### Equality (the letters) -/
def ibq : Int → Int → Bool
  | .ofNat a, .ofNat b => Nat.beq a b
  | .negSucc a, .negSucc b => Nat.beq a b
  | _, _ => false
def bbq : Bool → Bool → Bool
  | true, true => true | false, false => true | _, _ => false
mutual
def CV.bq : CV → CV → Bool
  | .int k a, .int j b => bif Nat.beq k j then ibq a b else false
  | .bool a, .bool b => bbq a b
  | .str l n, .str k m => bif Nat.beq l k then Nat.beq n m else false
  | .ptr b o, .ptr c p => bif Nat.beq b c then Nat.beq o p else false
  | .nilp, .nilp => true
  | .slice b o s l k e, .slice b' o' s' l' k' e' => bif Nat.beq b b' then (bif Nat.beq o o' then (bif Nat.beq s s' then (bif Nat.beq l l' then (bif Nat.beq k k' then bbq e e' else false) else false) else false) else false) else false
  | .nils, .nils => true
  | .map b, .map c => Nat.beq b c
  | .nilm, .nilm => true
  | .fn f l l', .fn g m m' => bif Nat.beq f g then (bif CVs.bq l m then CVs.bq l' m' else false) else false
  | .mth a v, .mth b w => bif a == b then CV.bq v w else false
  | .yld a, .yld b => Nat.beq a b
  | .nilf, .nilf => true
  | .ifc t v, .ifc u w => bif Nat.beq t u then CV.bq v w else false
  | .nili, .nili => true
  | .agg l, .agg m => CVs.bq l m
  | .tup l, .tup m => CVs.bq l m
  | _, _ => false
def CVs.bq : List CV → List CV → Bool
  | [], [] => true
  | a :: l, b :: m => bif CV.bq a b then CVs.bq l m else false
  | _, _ => false
end
def Ents.bq : List Ent → List Ent → Bool
  | [], [] => true
  | a :: l, b :: m => bif Nat.beq a.born b.born then (bif CV.bq a.key b.key then (bif CV.bq a.val b.val then Ents.bq l m else false) else false) else false
  | _, _ => false
def nats : List Nat → List Nat → Bool
  | [], [] => true
  | a :: l, b :: m => bif Nat.beq a b then nats l m else false
  | _, _ => false
def Ck.bq : Ck → Ck → Bool
  | .cells l, .cells m => CVs.bq l m
  | .bytes l n, .bytes k m => bif Nat.beq l k then Nat.beq n m else false
  | .map l c, .map m d => bif Nat.beq c d then Ents.bq l m else false
  | .iter a b c d, .iter a' b' c' d' => bif Nat.beq a a' then (bif Nat.beq b b' then (bif nats c c' then Nat.beq d d' else false) else false) else false
  | .siter a b c, .siter a' b' c' => bif Nat.beq a a' then (bif Nat.beq b b' then Nat.beq c c' else false) else false
  | .iter0, .iter0 => true
  | .dfr, .dfr => true
  | .no, .no => true
  | _, _ => false

/-! ### Is a value told wholly? -/
mutual
def CV.det : CV → Bool
  | .slice _ _ s _ k ex => bif ex then true else (bif Nat.ble 1 k then Nat.ble 1 s else false)
  | .fn _ a b => bif CVs.det a then CVs.det b else false
  | .mth _ v => CV.det v
  | .ifc _ v => CV.det v
  | .agg l => CVs.det l
  | .tup l => CVs.det l
  | .junk => false
  | .int _ _ => true
  | .bool _ => true
  | .str _ _ => true
  | .ptr _ _ => true
  | .nilp => true
  | .nils => true
  | .map _ => true
  | .nilm => true
  | .yld _ => true
  | .nilf => true
  | .nili => true
def CVs.det : List CV → Bool
  | [] => true
  | a :: l => bif CV.det a then CVs.det l else false
end

/-! ### What several outcomes have in common -/
def Ck.meet (a b : Ck) : Ck := bif Ck.bq a b then a else .no
def om {α : Type} (f : α → α → α) (a b : O α) : O α := ⟨f a.c0 b.c0, f a.c1 b.c1, f a.c2 b.c2, f a.c3 b.c3, f a.c4 b.c4, f a.c5 b.c5, f a.c6 b.c6, f a.c7 b.c7⟩
def H.meet (a b : H) : H := om (om (om (om (om Ck.meet)))) a b
def CV.meet1 (a b : CV) : CV := bif CV.bq a b then a else .junk
def CVs.meet : List CV → List CV → List CV
  | a :: l, b :: m => CV.meet1 a b :: CVs.meet l m
  | _, _ => []
def CV.meet (a b : CV) : CV :=
  match a, b with
  | .tup l, .tup m => bif Nat.beq l.length m.length then .tup (CVs.meet l m) else .junk
  | a, b => CV.meet1 a b
def Out.meet (a b : Out) : Out := ⟨CV.meet a.v b.v, H.meet a.hp b.hp, bif Nat.ble a.n b.n then b.n else a.n⟩
def meets : Out → List Out → Out
  | o, [] => o
  | o, p :: l => meets (Out.meet o p) l
end
end Go.Cx

/- A run with written-out values: the operations. -/
set_option linter.unusedVariables false
namespace Go.Cx
noncomputable section

/-! ### The program's tables -/
def nthL {α : Type} : List α → Nat → Option α
  | [], _ => none
  | a :: _, 0 => some a
  | _ :: l, i + 1 => nthL l i
def dropL {α : Type} : Nat → List α → List α
  | 0, l => l
  | _ + 1, [] => []
  | n + 1, _ :: l => dropL n l
def blk {α : Type} (l : List α) : Nat → List α
  | 0 => l
  | j + 1 => dropL 64 (blk l j)
def look {α : Type} (l : List α) (i : Nat) : Option α := nthL (blk l (i / 64)) (i % 64)
def tyI (P : Program) (t : Nat) : Option TypeInfo := look P.types.toList t
def tyD (P : Program) (t : Nat) : Option TypeDesc :=
  match tyI P t with
  | some i => (match i.desc with
    | .named _ u => (match tyI P u with | some j => some j.desc | none => none)
    | d => some d)
  | none => none
def tySz (P : Program) (t : Nat) : Option Nat := match tyI P t with | some i => some i.size | none => none
def isAg : TypeDesc → Bool | .struct _ => true | .array _ _ => true | _ => false
/-- Is it a struct or an array; how many cells has it? -/
def tyA (P : Program) (t : Nat) : Option (Bool × Nat) :=
  match tyD P t with | some d => (match tySz P t with | some n => some (isAg d, n) | none => none) | none => none
def elSl (P : Program) (t : Nat) : Option Nat := match tyD P t with | some (.slice e) => some e | _ => none
def isU8 (P : Program) (t : Nat) : Bool := match tyD P t with | some (.int .u8) => true | _ => false

/-! ### Constants -/
def litCV1 : Value → CV
  | .bool b => .bool b
  | .int k n => .int (kn k) n
  | .string s => .str s.data.toList.length (ofBytes s.data.toList)
  | .pointer none => .nilp
  | .slice none 0 0 => .nils
  | .map none => .nilm
  | .nilFunc => .nilf
  | .nilIface => .nili
  | _ => .junk
def litCVs : List Value → List CV
  | [] => []
  | v :: l => litCV1 v :: litCVs l
def litCV (v : Value) : CV := match v with | .agg cs => .agg (litCVs cs.toList) | v => litCV1 v
def zeroC (P : Program) (t : Nat) : Option (List CV) :=
  match tyI P t with | some i => (match i.zero with | some z => some (litCVs z.cells.toList) | none => none) | none => none
/-- A type's zero value. -/
def zeroV (P : Program) (t : Nat) : Option CV :=
  match tyI P t with | some i => (match i.zero with | some z => some (litCV z) | none => none) | none => none
def lk (fr : F) : Operand → CV
  | .tmp t => fg fr t
  | .const v => litCV v
  | .global _ => .junk
  | .func f => .fn f [] []
def lks (fr : F) : List Operand → List CV
  | [] => []
  | x :: l => lk fr x :: lks fr l

/-! ### Memory -/
/-- A value of one cell that may be stored. -/
def cellOk : CV → Bool
  | .agg _ => false | .tup _ => false | .junk => false | _ => true
def allCell : List CV → Bool
  | [] => true
  | c :: l => bif cellOk c then allCell l else false
def rd1 (hp : H) (b o : Nat) : Option CV :=
  match hget hp b with
  | .cells cs => nthC cs o
  | .bytes l n => bif Nat.blt o l then some (.int 4 (.ofNat (bnth n o))) else none
  | _ => none
def rdN (hp : H) (b o n : Nat) : Option (List CV) :=
  match hget hp b with
  | .cells cs => takeC n (dropC o cs)
  | .bytes l m => bif Nat.ble (o + n) l then some (byteCVs (m / pw o) n) else none
  | _ => none
def wrN (hp : H) (b o : Nat) (cs : List CV) : Option H :=
  match hget hp b with
  | .cells old => bif allCell cs then (match putC cs o old with | some new => some (hset hp b (.cells new)) | none => none) else none
  | .bytes l m => bif Nat.ble (o + cs.length) l then (match cvBytes cs with | some x => some (hset hp b (.bytes l (bput m o cs.length x l))) | none => none) else none
  | _ => none
def cellsOf : CV → List CV
  | .agg cs => cs
  | v => [v]

def findM (name : String) : List Method → Option Method
  | [] => none
  | m :: l => bif m.name == name then some m else findM name l
/-- The function that a method's name means at a dynamic type. -/
def methodAt (P : Program) (t : Nat) (name : String) : Option Nat :=
  match tyI P t with
  | some i => (match findM name i.methods.toList with
    | some m => (match m.path.toList, m.func, tyD P t with
      | [], some (f, true), some (.pointer _) => some f
      | [], some (f, false), some (.pointer _) => none
      | [], some (f, false), some _ => some f
      | _, _, _ => none)
    | none => none)
  | none => none
/-! ### Quiet operations -/
section
variable (P : Program) (fr : F) (hp : H)
def qLoad (t : Nat) (a : Operand) (k : CV → Res) : Res :=
  match lk fr a with
  | .ptr b o => (match tyA P t with
    | some (true, n) => (match rdN hp b o n with | some cs => k (.agg cs) | none => none)
    | some (false, _) => (match rd1 hp b o with | some c => k c | none => none)
    | none => none)
  | _ => none
def qPick (c a b : Operand) (k : CV → Res) : Res :=
  match lk fr c with
  | .bool true => k (lk fr a)
  | .bool false => k (lk fr b)
  | _ => none
def qNil (x : Operand) (k : CV → Res) : Res :=
  match lk fr x with
  | .nilp => none | .nili => none | .nilf => none | .junk => none
  | .mth name v => (match v with
    | .ifc t u => (match methodAt P t name with | some _ => k (.mth name (.ifc t u)) | none => none)
    | _ => none)
  | v => k v
def intOp (op : BinOp) (kd : Nat) (x y : Int) (k : CV → Res) : Res :=
  match op with
  | .add => k (.int kd (wrapK kd (x + y)))
  | .sub => k (.int kd (wrapK kd (x - y)))
  | .mul => k (.int kd (wrapK kd (x * y)))
  | .quo => bif ibq y 0 then none else k (.int kd (wrapK kd (x.tdiv y)))
  | .rem => bif ibq y 0 then none else k (.int kd (x.tmod y))
  | .and => k (.int kd ((kc kd).wrap (BitVec.ofInt (kc kd).bits x &&& BitVec.ofInt (kc kd).bits y).toNat))
  | .or => k (.int kd ((kc kd).wrap (BitVec.ofInt (kc kd).bits x ||| BitVec.ofInt (kc kd).bits y).toNat))
  | .xor => k (.int kd ((kc kd).wrap (BitVec.ofInt (kc kd).bits x ^^^ BitVec.ofInt (kc kd).bits y).toNat))
  | .andNot => k (.int kd ((kc kd).wrap (BitVec.ofInt (kc kd).bits x &&& ~~~ (BitVec.ofInt (kc kd).bits y)).toNat))
  | .eql => k (.bool (ibq x y))
  | .neq => k (.bool (!(ibq x y)))
  | .lss => k (.bool (decide (x < y)))
  | .leq => k (.bool (decide (x ≤ y)))
  | .gtr => k (.bool (decide (y < x)))
  | .geq => k (.bool (decide (y ≤ x)))
  | _ => none
def shOp (op : BinOp) (kd : Nat) (x y : Int) (k : CV → Res) : Res :=
  match y with
  | .negSucc _ => none
  | .ofNat m => (match op with
    | .shl => k (.int kd (wrapK kd (x * 2 ^ (min m (kc kd).bits))))
    | .shr => k (.int kd (x.fdiv (2 ^ (min m (kc kd).bits))))
    | _ => none)
def strOp (op : BinOp) (l n l' n' : Nat) (k : CV → Res) : Res :=
  match op with
  | .add => bif Nat.ble (l + l') 4611686018427387904 then k (.str (l + l') (bcat l n n')) else none
  | .eql => k (.bool (bif Nat.beq l l' then Nat.beq (n % pw l) (n' % pw l) else false))
  | .neq => k (.bool (!(bif Nat.beq l l' then Nat.beq (n % pw l) (n' % pw l) else false)))
  | .lss => k (.bool (bleBytes l l' n n'))
  | .geq => k (.bool (!(bleBytes l l' n n')))
  | .gtr => k (.bool (bleBytes l' l n' n))
  | .leq => k (.bool (!(bleBytes l' l n' n)))
  | _ => none
/-- Are two values of one cell, of a type of this kind, the same? -/
def eqCell (P : Program) (d : TypeDesc) (a b : CV) : Option Bool :=
  match d with
  | .int _ => (match a, b with | .int k x, .int j y => bif Nat.beq k j then some (ibq x y) else none | _, _ => none)
  | .bool => (match a, b with | .bool x, .bool y => some (bbq x y) | _, _ => none)
  | .string => (match a, b with | .str l n, .str l' n' => some (bif Nat.beq l l' then Nat.beq (n % pw l) (n' % pw l) else false) | _, _ => none)
  | .pointer e => (match a, b with
    | .nilp, .nilp => some true
    | .nilp, .ptr _ _ => some false
    | .ptr _ _, .nilp => some false
    | .ptr b o, .ptr b' o' => (match tySz P e with
      | some (_ + 1) => bif Nat.beq b b' then some (Nat.beq o o') else (match hget hp b with
        | .cells _ => (match hget hp b' with | .cells _ => some false | _ => none)
        | _ => none)
      | _ => none)
    | _, _ => none)
  | .slice _ => (match a, b with
    | .nils, .nils => some true
    | .nils, .slice .. => some false
    | .slice .., .nils => some false
    | _, _ => none)
  | .map _ _ => (match a, b with
    | .nilm, .nilm => some true
    | .nilm, .map _ => some false
    | .map _, .nilm => some false
    | _, _ => none)
  | .func _ _ _ => (match a, b with
    | .nilf, .nilf => some true
    | .nilf, .fn _ _ _ => some false
    | .nilf, .mth _ _ => some false
    | .nilf, .yld _ => some false
    | .fn _ _ _, .nilf => some false
    | .mth _ _, .nilf => some false
    | .yld _, .nilf => some false
    | _, _ => none)
  | .interface _ => (match a, b with
    | .nili, .nili => some true
    | .nili, .ifc _ _ => some false
    | .ifc _ _, .nili => some false
    | .ifc t x, .ifc u y => bif Nat.beq t u then none else some false
    | _, _ => none)
  | _ => none
def flatEq (P : Program) (x y : List CV) : List Field → Option Bool
  | [] => some true
  | f :: fs => bif f.name == "_" then none else (match tyD P f.type with
    | some d => bif isAg d then none else (match nthC x f.offset, nthC y f.offset with
      | some a, some b => (match eqCell hp P d a b with
        | some true => flatEq P x y fs
        | some false => some false
        | none => none)
      | _, _ => none)
    | none => none)
/-- '==' on what is no integer and no text. -/
def eqVal (t : Nat) (a b : CV) : Option Bool :=
  match tyD P t with
  | some d => (match d with
    | .struct fs => (match a, b with
      | .agg x, .agg y => bif (bif P.stoodInHeld t then false else !(P.eqGuardType P.depth t)) then flatEq hp P x y fs.toList else none
      | _, _ => none)
    | d => eqCell hp P d a b)
  | none => none
def isConst : Operand → Bool | .const _ => true | _ => false
def twoNil (x y : Operand) (a b : CV) : Bool :=
  match a, b with | .nili, .nili => (bif isConst x then false else !(isConst y)) | _, _ => false
def qBin (op : BinOp) (t : Nat) (x y : Operand) (k : CV → Res) : Res :=
  match lk fr x, lk fr y with
  | .int kd a, .int kd' b => (match op with
    | .shl => shOp .shl kd a b k
    | .shr => shOp .shr kd a b k
    | op => bif Nat.beq kd kd' then intOp op kd a b k else none)
  | .str l n, .str l' n' => strOp op l n l' n' k
  | a, b => bif twoNil x y a b then none else (match op with
    | .eql => (match eqVal P hp t a b with | some r => k (.bool r) | none => none)
    | .neq => (match eqVal P hp t a b with | some r => k (.bool (!r)) | none => none)
    | _ => none)
def qUn (op : UnOp) (x : Operand) (k : CV → Res) : Res :=
  match op, lk fr x with
  | .not, .bool b => k (.bool (!b))
  | .neg, .int kd n => k (.int kd (wrapK kd (0 - n)))
  | .xor, .int kd n => k (.int kd ((kc kd).wrap (BitVec.ofInt (kc kd).bits (if (kc kd).signed then -1 else (kc kd).max) ^^^ BitVec.ofInt (kc kd).bits n).toNat))
  | _, _ => none
def qConv (src dst : Nat) (x : Operand) (k : CV → Res) : Res :=
  match tyD P dst, lk fr x with
  | some (.int kd), .int _ n => (match tyD P src with | some _ => k (.int (kn kd) (wrapK (kn kd) n)) | none => none)
  | some .string, .str l n => (match tyD P src with | some _ => k (.str l n) | none => none)
  | some .string, .nils => (match tyD P src with | some (.slice e) => bif isU8 P e then k (.str 0 0) else none | _ => none)
  | some .string, .slice b o s l kk ex => (match tyD P src with
    | some (.slice e) => bif isU8 P e then (match hget hp b with
      | .bytes m n => bif Nat.beq l 0 then k (.str 0 0) else bif Nat.ble (o + l) m then k (.str l (bsub n o l)) else none
      | _ => none) else none
    | _ => none)
  | _, _ => none
def qFieldA (s : Nat) (x : Operand) (f : Nat) (k : CV → Res) : Res :=
  match lk fr x with
  | .ptr b o => (match tyD P s with
    | some (.struct fs) => (match nthL fs.toList f with
      | some fd => (match tySz P fd.type with | some (_ + 1) => k (.ptr b (o + fd.offset)) | _ => none)
      | none => none)
    | _ => none)
  | _ => none
def part (t : Nat) (cs : List CV) (off : Nat) (k : CV → Res) : Res :=
  match tyA P t with
  | some (true, n) => (match takeC n (dropC off cs) with | some r => k (.agg r) | none => none)
  | some (false, _) => (match nthC cs off with | some c => k c | none => none)
  | none => none
def qField (t : Nat) (x : Operand) (f : Nat) (k : CV → Res) : Res :=
  match lk fr x with
  | .agg cs => (match tyD P t with
    | some (.struct fs) => (match nthL fs.toList f with | some fd => part P fd.type cs fd.offset k | none => none)
    | _ => none)
  | _ => none
def qIndexA (t : Nat) (x ix : Operand) (k : CV → Res) : Res :=
  match lk fr ix with
  | .int _ (.ofNat i) => (match lk fr x with
    | .slice b o s l kk ex => (match tyD P t with
      | some (.slice e) => bif Nat.blt i l then (match tySz P e with | some (n + 1) => bif Nat.beq s (n + 1) then k (.ptr b (o + i * s)) else none | _ => none) else none
      | _ => none)
    | .ptr b o => (match tyD P t with
      | some (.array m e) => bif Nat.blt i m then (match tySz P e with | some (n + 1) => k (.ptr b (o + i * (n + 1))) | _ => none) else none
      | _ => none)
    | _ => none)
  | _ => none
def qIndex (t : Nat) (x ix : Operand) (k : CV → Res) : Res :=
  match lk fr ix with
  | .int _ (.ofNat i) => (match lk fr x with
    | .str l n => (match tyD P t with | some .string => bif Nat.blt i l then k (.int 4 (.ofNat (bnth n i))) else none | _ => none)
    | .agg cs => (match tyD P t with
      | some (.array m e) => bif Nat.blt i m then (match tySz P e with | some s => part P e cs (i * s) k | none => none) else none
      | _ => none)
    | _ => none)
  | _ => none
def optN : Option Operand → Option (Option Nat)
  | none => some none
  | some x => (match lk fr x with | .int _ (.ofNat n) => some (some n) | _ => none)
def orN (d : Nat) : Option Nat → Nat | some n => n | none => d
def qSlice (t : Nat) (x : Operand) (lo hi mx : Option Operand) (k : CV → Res) : Res :=
  match optN fr lo with
  | none => none
  | some lo => (match optN fr hi with
    | none => none
    | some hi => (match optN fr mx with
      | none => none
      | some mx => (match lk fr x with
        | .str l n => (match tyD P t with
          | some .string => (match mx with
            | none => bif Nat.ble (orN l hi) l then (bif Nat.ble (orN 0 lo) (orN l hi) then k (.str (orN l hi - orN 0 lo) (bsub n (orN 0 lo) (orN l hi - orN 0 lo))) else none) else none
            | _ => none)
          | _ => none)
        | .nils => (match tyD P t with
          | some (.slice e) => (match tySz P e with
            | some _ => (match mx with
              | some _ => none
              | none => bif Nat.beq (orN 0 hi) 0 then (bif Nat.beq (orN 0 lo) 0 then k .nils else none) else none)
            | none => none)
          | _ => none)
        | .ptr b o => (match tyD P t with
          | some (.array m e) => (match tySz P e with
            | some sz => (match mx with
              | some _ => none
              | none => bif Nat.ble (orN m hi) m then (bif Nat.ble (orN 0 lo) (orN m hi) then (match hget hp b with
                | .cells cs => bif Nat.ble (o + m * sz) cs.length then k (.slice b (bif Nat.beq (orN 0 lo) m then o else o + orN 0 lo * sz) sz (orN m hi - orN 0 lo) (m - orN 0 lo) true) else none
                | _ => none) else none) else none)
            | none => none)
          | _ => none)
        | .slice b o s l c ex => (match tyD P t with
          | some (.slice e) => (match tySz P e with
            | some sz => bif Nat.beq sz s then
              (match mx with
              | none => bif Nat.ble (orN l hi) c then (bif Nat.ble (orN 0 lo) (orN l hi) then
                  k (.slice b (bif Nat.beq (orN 0 lo) c then o else o + orN 0 lo * s) s (orN l hi - orN 0 lo) (c - orN 0 lo) ex) else none) else none
              | some m => (match hi with
                | none => none
                | some h => bif (bif Nat.ble 1 c then true else ex) then bif Nat.ble m c then (bif Nat.ble h m then (bif Nat.ble (orN 0 lo) h then
                    k (.slice b (bif Nat.beq (orN 0 lo) m then o else o + orN 0 lo * s) s (h - orN 0 lo) (m - orN 0 lo) true) else none) else none) else none else none)) else none
            | none => none)
          | _ => none)
        | _ => none)))
def qExtract (t : Operand) (ix : Nat) (k : CV → Res) : Res :=
  match lk fr t with
  | .tup vs => (match nthC vs ix with | some v => k v | none => none)
  | _ => none
def qMakeI (t : Nat) (x : Operand) (k : CV → Res) : Res :=
  match tyD P t with
  | some (.interface _) => none
  | some _ => (match lk fr x with | .junk => none | v => k (.ifc t v))
  | none => none
def qMakeF (fn : Fn) (first captured : Array Operand) (k : CV → Res) : Res :=
  match fn with
  | .func f => k (.fn f (lks fr first.toList) (lks fr captured.toList))
  | .method name => (match first.toList, captured.toList with
    | [x], [] => (match lk fr x with | .ifc t v => k (.mth name (.ifc t v)) | _ => none)
    | _, _ => none)
  | _ => none
/-! maps -/
def keyEq : CV → CV → Option Bool
  | .int k a, .int j b => bif Nat.beq k j then some (ibq a b) else none
  | .bool a, .bool b => some (bbq a b)
  | .str l n, .str l' n' => some (bif Nat.beq l l' then Nat.beq (n % pw l) (n' % pw l) else false)
  | _, _ => none
/-- The place of a key; none: it is not there. (None outside: the keys are of no kind that is served.) -/
def findE (x : CV) : List Ent → Nat → Option (Option (Nat × CV))
  | [], _ => some none
  | e :: es, i => (match keyEq x e.key with
    | some true => some (some (i, e.val))
    | some false => findE x es (i + 1)
    | none => none)
def keyKind (P : Program) (t : Nat) (x : CV) : Bool :=
  match tyD P t, x with
  | some (.int _), .int _ _ => true
  | some .string, .str _ _ => true
  | some .bool, .bool _ => true
  | some (.pointer _), .ptr _ _ => true
  | _, _ => false
def entsOf (hp : H) (x : CV) : Option (List Ent) :=
  match x with
  | .nilm => some []
  | .map b => (match hget hp b with | .map es _ => some es | _ => none)
  | _ => none
def qLook (t : Nat) (x ix : Operand) (ok : Bool) (k : CV → Res) : Res :=
  match tyD P t with
  | some (.map kt et) => bif keyKind P kt (lk fr ix) then
      (match entsOf hp (lk fr x) with
      | some es => (match findE (lk fr ix) es 0 with
        | some (some (_, v)) => k (bif ok then .tup [v, .bool true] else v)
        | some none => (match zeroV P et with
          | some v => k (bif ok then .tup [v, .bool false] else v)
          | none => none)
        | none => none)
      | none => none) else none
  | _ => none
def qLen (x : CV) (t : Nat) (k : CV → Res) : Res :=
  match tyD P t, x with
  | some .string, .str l _ => k (.int 3 (.ofNat l))
  | some (.slice _), .nils => k (.int 3 0)
  | some (.slice _), .slice _ _ _ l _ _ => k (.int 3 (.ofNat l))
  | some (.map _ _), .nilm => k (.int 3 0)
  | some (.map _ _), .map b => (match hget hp b with | .map es _ => k (.int 3 (.ofNat es.length)) | _ => none)
  | some (.array n _), _ => k (.int 3 (.ofNat n))
  | _, _ => none
def qCap (x : CV) (t : Nat) (k : CV → Res) : Res :=
  match tyD P t, x with
  | some (.slice _), .nils => k (.int 3 0)
  | some (.slice _), .slice _ _ _ _ c true => k (.int 3 (.ofNat c))
  | _, _ => none
def qMinMax (mx : Bool) (x y : CV) (k : CV → Res) : Res :=
  match x, y with
  | .int kd a, .int kd' b => bif Nat.beq kd kd' then k (.int kd (bif mx then (if b > a then b else a) else (if b < a then b else a))) else none
  | _, _ => none
def fillC (place : Nat → Option (Nat × Nat)) (fr : F) : List (Nat × Operand) → List CV → Option (List CV)
  | [], cs => some cs
  | (i, x) :: rest, cs => (match place i with
    | some (off, size) => bif (match lk fr x with | .junk => false | v => Nat.beq (cellsOf v).length size) then
        (match putC (cellsOf (lk fr x)) off cs with | some cs' => fillC place fr rest cs' | none => none) else none
    | none => none)
def stPlace (fs : List Field) (i : Nat) : Option (Nat × Nat) :=
  match nthL fs i with | some f => (match tySz P f.type with | some n => some (f.offset, n) | none => none) | none => none
def allSz : List Field → Bool
  | [] => true
  | f :: l => (match tySz P f.type with | some _ => allSz l | none => false)
def qBuild (t : Nat) (parts : Array (Nat × Operand)) (k : CV → Res) : Res :=
  match zeroC P t with
  | some z => (match tyD P t with
    | some (.struct fs) => bif allSz P fs.toList then (match fillC (stPlace P fs.toList) fr parts.toList z with | some cs => k (.agg cs) | none => none) else none
    | some (.array _ e) => (match tySz P e with
      | some s => (match fillC (fun i => some (i * s, s)) fr parts.toList z with | some cs => k (.agg cs) | none => none)
      | none => none)
    | _ => none)
  | none => none
def qAssert (x : Operand) (xt t : Nat) (ok : Bool) (k : CV → Res) : Res :=
  match tyD P t with
  | some (.interface want) => (match lk fr x with
    | .ifc d v => (match tyI P d with
      | some i => (match Instr.missingMethod want i.methods with
        | none => k (bif ok then .tup [.ifc d v, .bool true] else .ifc d v)
        | some _ => bif ok then (match zeroV P t with | some z => k (.tup [z, .bool false]) | none => none) else none)
      | none => none)
    | .nili => bif ok then (match zeroV P t with | some z => k (.tup [z, .bool false]) | none => none) else none
    | _ => none)
  | some d => (match lk fr x with
    | .ifc u v => bif Nat.beq u t then k (bif ok then .tup [v, .bool true] else v) else (bif ok then (match zeroV P t with | some v => k (.tup [v, .bool false]) | none => none) else none)
    | .nili => bif ok then (match zeroV P t with | some v => k (.tup [v, .bool false]) | none => none) else none
    | _ => none)
  | none => none
def qCallB (b : Builtin) (args : List Operand) (ts : List Nat) (k : CV → Res) : Res :=
  match b, args, ts with
  | .len, [x], t :: _ => qLen P hp (lk fr x) t k
  | .cap, [x], t :: _ => qCap P (lk fr x) t k
  | .max, [x, y], _ => qMinMax true (lk fr x) (lk fr y) k
  | .min, [x, y], _ => qMinMax false (lk fr x) (lk fr y) k
  | _, _, _ => none
def qCall (c : Call) (k : CV → Res) : Res :=
  match c.callee with
  | .builtin b => qCallB P fr hp b c.args.toList c.argTypes.toList k
  | _ => none
/-- What a quiet operation answers. -/
def qev (o : Op) (k : CV → Res) : Res :=
  match o with
  | .move x => (match lk fr x with | v => k v)
  | .assign x => k (lk fr x)
  | .pick c a b => qPick fr c a b k
  | .load t a => qLoad P fr hp t a k
  | .nilCheck x => qNil P fr x k
  | .binOp op t x y _ => qBin P fr hp op t x y k
  | .unOp op _ x => qUn fr op x k
  | .convert s d x => qConv P fr hp s d x k
  | .makeInterface t x => qMakeI P fr t x k
  | .makeFunc fn a b => qMakeF fr fn a b k
  | .slice t x lo hi mx => qSlice P fr hp t x lo hi mx k
  | .fieldAddr s x f => qFieldA P fr s x f k
  | .field t x f => qField P fr t x f k
  | .indexAddr t x ix => qIndexA P fr t x ix k
  | .index t x ix => qIndex P fr t x ix k
  | .lookup t x ix ok => qLook P fr hp t x ix ok k
  | .typeAssert x xt t ok => qAssert P fr x xt t ok k
  | .extract t ix => qExtract fr t ix k
  | .build t parts => qBuild P fr t parts k
  | .call c => qCall P fr hp c k
  | _ => none
end

/-! ### Loud operations -/
abbrev KS := CV → H → Nat → Res
section
variable (P : Program) (fr : F) (hp : H) (n : Nat)
/-- Which names are free is told in one number: the next one, and 2 ^ 20 times the first that is not. -/
def idN (n : Nat) : Nat := n % 1048576
def limN (n : Nat) : Nat := n / 1048576
def mkN (lim id : Nat) : Nat := id + lim * 1048576
def newCk (c : Ck) (v : Nat → CV) (k : KS) : Res := bif Nat.blt (idN n) (limN n) then k (v (idN n)) (hset hp (idN n) c) (n + 1) else none
def newPtr (cs : List CV) (k : KS) : Res := newCk hp n (.cells cs) (fun i => .ptr i 0) k
def lAlloc (t : Nat) (k : KS) : Res := match zeroC P t with | some cs => newPtr hp n cs k | none => none
def lBox (t : Nat) (x : Operand) (k : KS) : Res := match lk fr x with | .junk => none | v => newPtr hp n (cellsOf v) k
def lStore (t : Nat) (a v : Operand) (k : KS) : Res :=
  match lk fr a with
  | .ptr b o => (match tySz P t with
    | some sz => (match lk fr v with
      | .junk => none
      | v => bif Nat.beq (cellsOf v).length sz then (match wrN hp b o (cellsOf v) with | some hp' => k (.tup []) hp' n | none => none) else none)
    | none => none)
  | _ => none
/-- m zero elements, of so many cells each. -/
def zeroN (P : Program) (e sz m : Nat) : Option Ck :=
  match zeroC P e with
  | some z => bif Nat.beq z.length sz then (bif isU8 P e then (match z with
      | [c] => (match cvByte c with | some 0 => some (.bytes m 0) | _ => none)
      | _ => none) else some (.cells (repC z m))) else none
  | none => none
def lMakeS (t : Nat) (l c : Operand) (k : KS) : Res :=
  match lk fr l, lk fr c with
  | .int _ (.ofNat l), .int _ (.ofNat c) => bif Nat.ble l c then (match tyD P t with
    | some (.slice e) => (match tyI P e with
      | some i => bif Nat.ble c 140737488355328 then bif Nat.ble (i.bytes * c) 140737488355328 then (bif Nat.ble 1 i.size then (match zeroN P e i.size c with
        | some ck => newCk hp n ck (fun b => .slice b 0 i.size l c true) k
        | none => none) else none) else none else none
      | none => none)
    | _ => none) else none
  | _, _ => none
def lMakeM (t : Nat) (r : Option Operand) (k : KS) : Res :=
  match tyD P t with
  | some (.map _ _) => (match r with
    | none => newCk hp n (.map [] 0) (fun b => .map b) k
    | some x => (match lk fr x with | .int _ _ => newCk hp n (.map [] 0) (fun b => .map b) k | _ => none))
  | _ => none
def lBuildS (t len : Nat) (parts : Array (Nat × Operand)) (k : KS) : Res :=
  match tyD P t with
  | some (.slice e) => (match tySz P e with
    | some s => bif Nat.ble 1 s then bif Nat.ble (len * s) 16777216 then (match zeroC P e with
      | some z => bif Nat.beq z.length s then (match fillC (fun i => some (i * s, s)) fr parts.toList (repC z len) with
        | some cs => bif isU8 P e then (match (bif Nat.beq s 1 then cvBytes cs else none) with
            | some x => newCk hp n (.bytes len x) (fun b => .slice b 0 1 len len true) k
            | none => none)
          else newCk hp n (.cells cs) (fun b => .slice b 0 s len len true) k
        | none => none) else none
      | none => none) else none else none
    | none => none)
  | _ => none
def setE (x v : CV) (i : Nat) : List Ent → List Ent
  | [] => []
  | e :: l => (match i with | 0 => ⟨x, v, e.born⟩ :: l | i + 1 => e :: setE x v i l)
def delE (i : Nat) : List Ent → List Ent
  | [] => []
  | e :: l => (match i with | 0 => l | i + 1 => e :: delE i l)
def lMapUp (t : Nat) (m x v : Operand) (k : KS) : Res :=
  match tyD P t with
  | some (.map kt _) => bif keyKind P kt (lk fr x) then (match lk fr m with
    | .map b => (match hget hp b with
      | .map es clock => (match lk fr v with
        | .junk => none
        | v => (match findE (lk fr x) es 0 with
          | some (some (i, _)) => k (.tup []) (hset hp b (.map (setE (lk fr x) v i es) clock)) n
          | some none => k (.tup []) (hset hp b (.map (es ++ [⟨lk fr x, v, clock⟩]) (clock + 1))) n
          | none => none))
      | _ => none)
    | _ => none) else none
  | _ => none
def lDelete (t : Nat) (m x : Operand) (k : KS) : Res :=
  match tyD P t with
  | some (.map kt _) => bif keyKind P kt (lk fr x) then (match lk fr m with
    | .nilm => k (.tup []) hp n
    | .map b => (match hget hp b with
      | .map es clock => (match findE (lk fr x) es 0 with
          | some (some (i, _)) => k (.tup []) (hset hp b (.map (delE i es) clock)) n
          | some none => k (.tup []) hp n
          | none => none)
      | _ => none)
    | _ => none) else none
  | _ => none
def entAt (i : Nat) : List Ent → Option Ent
  | [] => none
  | e :: l => (match i with | 0 => some e | i + 1 => entAt i l)
def lMapEntry (t : Nat) (m x : Operand) (k : KS) : Res :=
  match tyD P t with
  | some (.map kt et) => bif keyKind P kt (lk fr x) then (match lk fr m with
    | .map b => (match hget hp b with
      | .map es clock => (match findE (lk fr x) es 0 with
          | some (some (i, v)) => (match entAt i es with
            | some e => k (.tup [v, .int 3 (.ofNat e.born)]) (hset hp b (.map (setE (lk fr x) v i es) clock)) n
            | none => none)
          | some none => (match zeroV P et with
            | some v => k (.tup [v, .int 3 (.ofNat clock)]) (hset hp b (.map (es ++ [⟨lk fr x, v, clock⟩]) (clock + 1))) n
            | none => none)
          | none => none)
      | _ => none)
    | _ => none) else none
  | _ => none
def bornAt (s : Nat) (v : CV) : List Ent → Option (List Ent)
  | [] => none
  | e :: l => bif Nat.beq e.born s then some (⟨e.key, v, e.born⟩ :: l) else (match bornAt s v l with | some r => some (e :: r) | none => none)
def lEntryStore (m s v : Operand) (k : KS) : Res :=
  match lk fr m with
  | .map b => (match hget hp b with
    | .map es clock => (match lk fr s with
      | .int _ (.ofNat st) => (match lk fr v with
        | .junk => none
        | v => (match bornAt st v es with | some es' => k (.tup []) (hset hp b (.map es' clock)) n | none => none))
      | _ => none)
    | _ => none)
  | _ => none
def lRange (t : Nat) (x : Operand) (k : KS) : Res :=
  match tyD P t, lk fr x with
  | some .string, .str l m => newCk hp n (.siter l m 0) (fun b => .ptr b 0) k
  | some (.map _ _), .nilm => newCk hp n .iter0 (fun b => .ptr b 0) k
  | some (.map _ _), .map b => (match hget hp b with
    | .map _ clock => newCk hp n (.iter b clock [] clock) (fun b => .ptr b 0) k
    | _ => none)
  | _, _ => none
def has (x : Nat) : List Nat → Bool
  | [] => false
  | a :: l => bif Nat.beq a x then true else has x l
/-- The entries that may come next. -/
def cands (seen : List Nat) : List Ent → List Ent
  | [] => []
  | e :: l => bif has e.born seen then cands seen l else e :: cands seen l
def allOld (since : Nat) : List Ent → Bool
  | [] => true
  | e :: l => bif Nat.blt e.born since then allOld since l else false
def eachE (f : Ent → Res) : List Ent → Res
  | [] => some []
  | [e] => f e
  | e :: l => Res.cat (f e) (eachE f l)
def lNext (x : Operand) (str : Bool) (k : KS) : Res :=
  match lk fr x with
  | .ptr r 0 => (match hget hp r with
    | .iter m since seen stepped => bif str then none else (match hget hp m with
      | .map es clock => bif (bif Nat.ble since stepped then allOld since es else false) then (match cands seen es with
          | [] => k (.tup [.bool false]) hp n
          | c => eachE (fun e => k (.tup [.bool true, e.key, e.val]) (hset hp r (.iter m since (seen ++ [e.born]) clock)) n) c) else none
      | _ => none)
    | .iter0 => bif str then none else k (.tup [.bool false]) hp n
    | .siter l m pos => bif str then (bif Nat.blt pos l then (bif Nat.blt (bnth m pos) 128 then
          k (.tup [.bool true, .int 3 (.ofNat pos), .int 2 (.ofNat (bnth m pos))]) (hset hp r (.siter l m (pos + 1))) n else none)
        else k (.tup [.bool false]) hp n) else none
    | _ => none)
  | _ => none
def lastN : List Nat → Option Nat
  | [] => none
  | [a] => some a
  | _ :: l => lastN l
def findBorn (s : Nat) : List Ent → Option Ent
  | [] => none
  | e :: l => bif Nat.beq e.born s then some e else findBorn s l
def lEntry (x : Operand) (k : KS) : Res :=
  match lk fr x with
  | .ptr r 0 => (match hget hp r with
    | .iter m since seen stepped => (match hget hp m with
      | .map es clock => bif Nat.beq clock stepped then (match lastN seen with
        | some s => (match findBorn s es with | some e => k (.tup [e.key, e.val]) hp n | none => none)
        | none => none) else none
      | _ => none)
    | _ => none)
  | _ => none

/-! append, copy, clear -/
inductive Els where
  | cs (l : List CV)
  | bs (l n : Nat)
/-- The elements of a slice or a text. -/
def elsOf (hp : H) (u8 : Bool) (s : Nat) (v : CV) (m : Nat) : Option Els :=
  match v with
  | .nils => bif Nat.beq m 0 then some (bif u8 then .bs 0 0 else .cs []) else none
  | .str l x => bif u8 then (bif Nat.ble m l then some (.bs m x) else none) else none
  | .slice b o s' l _ _ => bif Nat.beq s s' then (bif Nat.ble m l then (bif Nat.beq m 0 then some (bif u8 then .bs 0 0 else .cs []) else
      (bif u8 then (match hget hp b with
        | .bytes k x => bif Nat.ble (o + m) k then some (.bs m (bsub x o m)) else none
        | _ => none)
      else (match hget hp b with
        | .cells cs => (match takeC (m * s) (dropC o cs) with | some r => some (.cs r) | none => none)
        | _ => none))) else none) else none
  | _ => none
def lenOf : CV → Option Nat
  | .nils => some 0
  | .str l _ => some l
  | .slice _ _ _ l _ _ => some l
  | _ => none
/-- Elements laid over a block, from a cell on. -/
def layEls (hp : H) (b o : Nat) (e : Els) : Option H :=
  match e with
  | .cs l => (match hget hp b with
    | .cells old => bif allCell l then (match overC l o old with | some new => some (hset hp b (.cells new)) | none => none) else none
    | _ => none)
  | .bs l x => (match hget hp b with
    | .bytes k y => bif Nat.ble o k then (bif Nat.ble (o + l) k then some (hset hp b (.bytes k (bput y o l x k))) else some (hset hp b (.bytes (o + l) (bcat o y (x % pw l))))) else none
    | _ => none)
def catEls : Els → Els → Option Ck
  | .cs a, .cs b => some (.cells (a ++ b))
  | .bs l n, .bs l' n' => some (.bytes (l + l') (bcat l n n'))
  | _, _ => none
/-- An element type that is served: its table's row. -/
def elI (P : Program) (e : Nat) : Option TypeInfo :=
  match tyI P e with
  | some i => bif (bif Nat.ble 1 i.size then bif Nat.ble 1 i.bytes then (bif isU8 P e then Nat.beq i.size 1 else true) else false else false) then (match zeroC P e with
    | some z => bif Nat.beq z.length i.size then some i else none
    | none => none) else none
  | none => none
def allEls : Els → Bool | .cs l => allCell l | .bs _ _ => true
def isRow (u8 : Bool) (c : Ck) : Bool := match c with | .cells _ => !u8 | .bytes _ _ => u8 | _ => false
def lAppend (t t2 : Nat) (d s : CV) (k : KS) : Res :=
  match tyD P t with
  | some (.slice e) => (match elI P e with
    | some i => (match tyD P t2 with
      | some (.int _) => none
      | some _ =>
        (match lenOf s with
        | some m => (match elsOf hp (isU8 P e) i.size s m with
          | some new => (match d with
            | .nils => bif Nat.beq m 0 then k .nils hp n else
                (match catEls (bif isU8 P e then .bs 0 0 else .cs []) new with
                | some ck => bif Nat.ble (i.bytes * m) 70368744177664 then newCk hp n ck (fun b => .slice b 0 i.size m m false) k else none
                | none => none)
            | .slice b o sz l c ex => bif Nat.beq sz i.size then
                (bif Nat.ble (l + m) c then (bif Nat.beq m 0 then k (.slice b o sz l c ex) hp n else
                  (match layEls hp b (o + l * sz) new with | some hp' => k (.slice b o sz (l + m) c ex) hp' n | none => none))
                else (match elsOf hp (isU8 P e) i.size d l with
                  | some old => (match catEls old new with
                    | some ck => bif Nat.ble (i.bytes * (l + m)) 70368744177664 then
                        (bif ex then newCk hp n ck (fun b => .slice b 0 sz (l + m) (l + m) false) k
                        else (bif (bif Nat.beq o 0 then (bif Nat.ble 1 c then (bif isRow (isU8 P e) (hget hp b) then allEls new else false) else false) else false) then newCk (hset hp b .no) n ck (fun b => .slice b 0 sz (l + m) (l + m) false) k else none)) else none
                    | none => none)
                  | none => none)) else none
            | _ => none)
          | none => none)
        | none => none)
      | none => none)
    | none => none)
  | _ => none
def lCopy (t : Nat) (d s : CV) (k : KS) : Res :=
  match tyD P t with
  | some (.slice e) => (match elI P e with
    | some i => (match lenOf s with
      | some m => (match lenOf d with
        | some l => (match (bif Nat.ble m l then m else l) with
          | 0 => (match d with | .nils => k (.int 3 0) hp n | .slice .. => k (.int 3 0) hp n | _ => none)
          | j => (match elsOf hp (isU8 P e) i.size s j with
            | some new => (match d with
              | .slice b o sz' _ _ _ => bif Nat.beq i.size sz' then (match layEls hp b o new with | some hp' => k (.int 3 (.ofNat j)) hp' n | none => none) else none
              | _ => none)
            | none => none))
        | none => none)
      | none => none)
    | none => none)
  | _ => none
def lClear (t : Nat) (x : CV) (k : KS) : Res :=
  match tyD P t, x with
  | some (.map _ _), .nilm => k (.tup []) hp n
  | some (.map _ _), .map b => (match hget hp b with | .map _ clock => k (.tup []) (hset hp b (.map [] clock)) n | _ => none)
  | some (.slice _), .nils => k (.tup []) hp n
  | some (.slice e), .slice b o s l _ _ => (match l with
    | 0 => k (.tup []) hp n
    | l => (match zeroN P e s l with
      | some (.bytes m x) => (match layEls hp b o (.bs m x) with | some hp' => k (.tup []) hp' n | none => none)
      | some (.cells cs) => (match layEls hp b o (.cs cs) with | some hp' => k (.tup []) hp' n | none => none)
      | _ => none))
  | _, _ => none
def lConv (src dst : Nat) (x : Operand) (k : KS) : Res :=
  match tyD P dst, lk fr x with
  | some (.slice e), .str l m => (match tyD P src with
    | some _ => bif isU8 P e then newCk hp n (.bytes l m) (fun b => .slice b 0 1 l l false) k else none
    | none => none)
  | some (.slice e), .slice b o s l kk ex => (match tyD P src with
    | some (.slice _) => bif (bif Nat.beq src dst then isU8 P e else false) then (match hget hp b with
      | .bytes _ _ => k (.slice b o s l kk ex) hp n
      | _ => none) else none
    | _ => none)
  | _, _ => qConv P fr hp src dst x (fun v => k v hp n)
def lCallB (b : Builtin) (args : List Operand) (ts : List Nat) (k : KS) : Res :=
  match b, args, ts with
  | .append, [d, s], [t, t2] => lAppend P hp n t t2 (lk fr d) (lk fr s) k
  | .copy, [d, s], t :: _ => lCopy P hp n t (lk fr d) (lk fr s) k
  | .clear, [x], t :: _ => lClear P hp n t (lk fr x) k
  | .delete, [m, x], t :: _ => lDelete P fr hp n t m x k
  | b, args, ts => qCallB P fr hp b args ts (fun v => k v hp n)
end
end
end Go.Cx

/- A run with written-out values: calls, regions, code. -/
set_option linter.unusedVariables false
namespace Go.Cx
noncomputable section

abbrev Cn := List CV → H → Nat → Res
def assoc {α : Type} : List (Nat × α) → Nat → Option α
  | [], _ => none
  | (i, a) :: l, n => bif Nat.beq i n then some a else assoc l n
def eachO (k : KS) : Out → List Out → Res
  | o, [] => k o.v o.hp o.n
  | o, p :: l => Res.cat (k o.v o.hp o.n) (eachO k p l)
/-- On behind a call: with each of its outcomes, or with what they have in common. -/
def after (mg : Bool) (n : Nat) (r : Res) (k : KS) : Res :=
  match r with
  | none => none
  | some l => (match l with
    | [] => none
    | o :: os => (match os with
      | [] => k o.v o.hp o.n
      | p :: os => bif mg then (match meets o (p :: os) with | m => bif Nat.beq (limN m.n) (limN n) then k m.v m.hp m.n else none) else eachO k o (p :: os)))

section
variable (P : Program) (ctrs : List (Nat × Option Cn)) (bd : Nat → Cn) (rd : Nat → Cn)

/-! ### Calls -/
def callF (f : Nat) (args : List CV) (hp : H) (n : Nat) (k : KS) : Res :=
  match assoc ctrs f with
  | some c => (match c with | some c => after true n (c args hp n) k | none => after false n (bd f args hp n) k)
  | none => after true n (bd f args hp n) k
def callV (g : CV) (args : List CV) (hp : H) (n : Nat) (k : KS) : Res :=
  match g with
  | .fn f first caps => callF ctrs bd f ((first ++ args) ++ caps) hp n k
  | .yld l => after false n (rd l args hp n) k
  | .mth name (.ifc t v) => (match methodAt P t name with
    | some f => callF ctrs bd f (v :: args) hp n k
    | none => none)
  | _ => none
/-- The call of a range over a function. -/
def callR (g : CV) (args : List CV) (hp : H) (n : Nat) (k : KS) : Res :=
  match g with
  | .fn f first caps => (match assoc ctrs f with
    | some c => (match c with | some _ => none | none => after false n (bd f ((first ++ args) ++ caps) hp n) k)
    | none => after true n (bd f ((first ++ args) ++ caps) hp n) k)
  | _ => none
def lCall (c : Call) (fr : F) (hp : H) (n : Nat) (k : KS) : Res :=
  match c.callee with
  | .value f => callV P ctrs bd rd (lk fr f) (lks fr c.args.toList) hp n k
  | .builtin b => lCallB P fr hp n b c.args.toList c.argTypes.toList k
  | .invoke r name => (match lk fr r with
    | .ifc t v => (match methodAt P t name with
      | some f => callF ctrs bd f (v :: lks fr c.args.toList) hp n k
      | none => none)
    | _ => none)
/-- One operation, whichever. -/
def lev (o : Op) (fr : F) (hp : H) (n : Nat) (k : KS) : Res :=
  match o with
  | .alloc t => lAlloc P hp n t k
  | .box t x => lBox fr hp n t x k
  | .store t a v => lStore P fr hp n t a v k
  | .makeSlice t l c => lMakeS P fr hp n t l c k
  | .makeMap t r => lMakeM P fr hp n t r k
  | .buildSlice t len parts => lBuildS P fr hp n t len parts k
  | .mapUpdate t m x v => lMapUp P fr hp n t m x v k
  | .insert t m x v => lMapUp P fr hp n t m x v k
  | .mapEntry t m x => lMapEntry P fr hp n t m x k
  | .entryStore t m s v => lEntryStore fr hp n m s v k
  | .range t x => lRange P fr hp n t x k
  | .next x str => lNext fr hp n x str k
  | .entry x => lEntry fr hp n x k
  | .convert s d x => lConv P fr hp n s d x k
  | .call c => lCall P ctrs bd rd c fr hp n k
  | o => qev P fr hp o (fun v => k v hp n)

/-! ### Guards, regions in the order of their text -/
inductive Gd where | go | skip | bad
def dstOf (ops : List Oper) (j : Nat) : Option Nat := match nthL ops j with | some o => o.dst | none => none
def guardOf (ops : List Oper) (fr : F) (g : Option (Nat × Bool)) : Gd :=
  match g with
  | none => .go
  | some (j, want) => (match dstOf ops j with
    | some d => (match fg fr d with
      | .bool b => bif bbq b want then .go else .skip
      | .tup [] => .skip
      | _ => .bad)
    | none => .bad)
def putD (fr : F) (d : Option Nat) (v : CV) : F := match d with | some d => fset fr d v | none => fr
def pushD (fr : F) (d : CV) : F := match fget fr dfSlot with | .tup l => fput fr dfSlot (.tup (d :: l)) | _ => fput fr dfSlot (.tup [d])
/-- A deferred call (none within a round: its frame's slot says so). -/
def lDefer (c : Call) (fr : F) : Option CV :=
  match fget fr dfSlot with
  | .nili => none
  | _ => (match c.callee with
    | .value f => (match lk fr f with | .fn g a b => some (.tup (.fn g a b :: lks fr c.args.toList)) | _ => none)
    | _ => none)
def stepO (o : Oper) (fr : F) (hp : H) (n : Nat) (k : F → H → Nat → Res) : Res :=
  match o.op with
  | .defer c => (match lDefer c fr with | some d => k (putD (pushD fr d) o.dst (.tup [])) hp n | none => none)
  | op => lev P ctrs bd rd op fr hp n (fun v hp n => k (putD fr o.dst v) hp n)
def seqO (ops : List Oper) : List Oper → F → H → Nat → (F → H → Nat → Res) → Res
  | [], fr, hp, n, k => k fr hp n
  | o :: rest, fr, hp, n, k => (match guardOf ops fr o.guard with
    | .go => stepO P ctrs bd rd o fr hp n (fun fr hp n => seqO ops rest fr hp n k)
    | .skip => seqO ops rest (putD fr o.dst (.tup [])) hp n k
    | .bad => none)

/-! ### Regions that draw their order -/
def quietOp (P : Program) (o : Op) : Bool :=
  match o with
  | .move _ | .assign _ | .pick .. | .nilCheck _ | .binOp .. | .unOp .. | .fieldAddr .. | .field .. | .indexAddr .. | .index .. | .slice .. | .lookup .. | .load .. | .extract .. | .makeInterface .. | .makeFunc .. | .build .. | .typeAssert .. => true
  | .convert _ d _ => (match tyD P d with | some (.slice _) => false | _ => true)
  | .call c => (match c.callee with | .builtin .len => true | .builtin .cap => true | .builtin .max => true | .builtin .min => true | _ => false)
  | _ => false
/-- What these answer does not depend on the memory. -/
def pureOp (o : Op) : Bool := match o with | .move _ => true | .assign _ => true | .slice .. => true | _ => false
structure Rec where
  i : Nat
  o : Oper
  fr : F
  v : CV
def waits (o : Oper) (i : Nat) : Bool := o.after.any fun e => Region.binds .any e && e.on == i
def recOk (hp : H) (r : Rec) : Bool :=
  bif CV.det r.v then (match qev P r.fr hp r.o.op (fun v => bif CV.bq r.v v then some [] else none) with | some [] => true | _ => false) else false
def quietAt (fr : F) (ops : List Oper) (o : Oper) : Bool :=
  match guardOf ops fr o.guard with | .skip => true | _ => quietOp P o.op
def firstQuiet (fr : F) (ops : List Oper) : List Nat → Option (Nat × Oper)
  | [] => none
  | i :: l => (match nthL ops i with
    | some o => bif quietAt P fr ops o then some (i, o) else firstQuiet fr ops l
    | none => none)
def eachI (f : Nat → Res) : List Nat → Res
  | [] => some []
  | [i] => f i
  | i :: l => Res.cat (f i) (eachI f l)
/-- Does it make just one block? Its name is set aside when the region is entered. -/
def allocLike : Op → Bool
  | .alloc _ => true | .box _ _ => true | .makeMap _ _ => true | .makeSlice _ _ _ => true | .buildSlice _ _ _ => true | .convert _ _ _ => true | _ => false
def countA : List Oper → Nat
  | [] => 0
  | o :: l => bif allocLike o.op then countA l + 1 else countA l
def rankA : List Oper → Nat → Nat
  | [], _ => 0
  | _ :: _, 0 => 0
  | o :: l, j + 1 => bif allocLike o.op then rankA l j + 1 else rankA l j
def isDefer : Op → Bool | .defer _ => true | _ => false
def noDefer : List Oper → Bool
  | [] => true
  | o :: l => bif isDefer o.op then false else noDefer l
def isCall : Op → Bool | .call _ => true | _ => false
def wRange : Nat := 256
/-- The calls among these operations that have no names of their own yet get some. -/
def giveR (ops : List Oper) : List Nat → List (Nat × Nat) → Nat → List (Nat × Nat) × Nat
  | [], rs, n => (rs, n)
  | j :: l, rs, n => (match nthL ops j with
    | some o => bif isCall o.op then (match assoc rs j with
        | some _ => giveR ops l rs n
        | none => giveR ops l ((j, idN n) :: rs) (n + wRange))
      else giveR ops l rs n
    | none => giveR ops l rs n)
/-- Are there two calls among these? -/
def twoCalls (ops : List Oper) : Nat → List Nat → Bool
  | k, [] => Nat.ble 2 k
  | k, j :: l => (match nthL ops j with | some o => bif isCall o.op then twoCalls ops (k + 1) l else twoCalls ops k l | none => twoCalls ops k l)
/-- A loud operation of a region that draws its order; n0: the names set aside for what makes one block; rs: those of calls. -/
def levA (ops : List Oper) (n0 j : Nat) (rs : List (Nat × Nat)) (op : Op) (fr : F) (hp : H) (n : Nat) (k : KS) : Res :=
  bif allocLike op then lev P ctrs bd rd op fr hp (mkN (n0 + rankA ops j + 1) (n0 + rankA ops j)) (fun v hp _ => k v hp n) else
    (match assoc rs j with
    | some i => lev P ctrs bd rd op fr hp (mkN (i + wRange) i) (fun v hp _ => k v hp n)
    | none => lev P ctrs bd rd op fr hp n k)
def drawR (ops : Array Oper) (n0 : Nat) : Nat → Array Bool → List (Nat × Nat) → List Rec → F → H → Nat → (F → H → Nat → Res) → Res
  | 0, _, _, _, _, _, _, _ => none
  | fuel + 1, listed, rs, recs, fr, hp, n, k =>
    match Region.ready .any ops listed with
    | [] => k fr hp n
    | i :: rest =>
      match firstQuiet P fr ops.toList (i :: rest) with
      | some (i, o) =>
        bif Region.free .any ops listed i then
          (match guardOf ops.toList fr o.guard with
          | .go => qev P fr hp o.op (fun v => drawR ops n0 fuel (listed.setIfInBounds i true) rs (bif pureOp o.op then recs else ⟨i, o, fr, v⟩ :: recs) (putD fr o.dst v) hp n k)
          | .skip => drawR ops n0 fuel (listed.setIfInBounds i true) rs recs (putD fr o.dst (.tup [])) hp n k
          | .bad => none)
        else none
      | none => (match (bif twoCalls ops.toList 0 (i :: rest) then giveR ops.toList (i :: rest) rs n else (rs, n)) with
        | (rs, m) => bif (bif Nat.ble (idN m) (limN m) then Nat.beq (limN m) (limN n) else false) then eachI (fun j => match nthL ops.toList j with
          | some o => (match guardOf ops.toList fr o.guard with
            | .go => levA P ctrs bd rd ops.toList n0 j rs o.op fr hp m fun v hp n =>
                (match recs.filter fun r => !(waits o r.i) with
                | recs => bif recs.all (recOk P hp) then drawR ops n0 fuel (listed.setIfInBounds j true) rs recs (putD fr o.dst v) hp n k else none)
            | _ => none)
          | none => none) (i :: rest) else none)

/-! ### Code -/
def putPs : List Nat → List CV → F → Option F
  | [], [], fr => some fr
  | p :: ps, v :: vs, fr => putPs ps vs (fset fr p v)
  | _, _, _ => none
/-- Entering a range over a function: the loop's record (and, outside any round, the block for deferred calls, marked in the frame). -/
def enterL (ro : Option Nat) (fn : Nat) (ps : List Nat) (assign body : Code) (fr : F) (hp : H) (n : Nat) : Option (Nat × F × H × Nat) :=
  match ro with
  | none => bif Nat.blt (idN n + 1) (limN n) then some (idN n + 1, pushD fr (.ptr (idN n) 0), hset (hset hp (idN n) .dfr) (idN n + 1) (.loop fn fr ps assign body (idN n) 0 none), n + 2) else none
  | some l => (match hget hp l with
    | .loop _ _ _ _ _ db _ _ => bif Nat.blt (idN n) (limN n) then some (idN n, fr, hset hp (idN n) (.loop fn fr ps assign body db 0 none), n + 1) else none
    | _ => none)
/-- The function that was ranged over has ended: the jump that is pending. -/
def endL (l : Nat) (hp : H) : Option (Option Code × H) :=
  match hget hp l with
  | .loop fn fr ps assign body db st pend => bif Nat.beq st 1 then none else some (pend, hset hp l (.loop fn fr ps assign body db 3 pend))
  | _ => none
def jump (c : Option Code) (fr : F) (hp : H) (n : Nat) (kn : F → H → Nat → Res) (ke : Nat → F → H → Nat → Res) (kr : F → H → Nat → Res) : Res :=
  match c with
  | none => kn fr hp n
  | some .ret => kr fr hp n
  | some (.exit id) => ke id fr hp n
  | _ => none
def cx (fn : Nat) (ro : Option Nat) : Nat → Code → F → H → Nat → (F → H → Nat → Res) → (Nat → F → H → Nat → Res) → (F → H → Nat → Res) → Res
  | 0, _, _, _, _, _, _, _ => none
  | fuel + 1, c, fr, hp, n, kn, ke, kr =>
    match c with
    | .skip => kn fr hp n
    | .label _ => kn fr hp n
    | .region _ ops draw => bif draw then (bif (bif P.follows .mixedOrders then (bif Region.noSelect ops then noDefer ops.toList else false) else false) then bif Nat.ble (idN n + countA ops.toList) (limN n) then drawR P ctrs bd rd ops (idN n) (ops.size + 1) (Array.replicate ops.size false) [] [] fr hp (n + countA ops.toList) kn else none else none)
        else seqO P ctrs bd rd ops.toList ops.toList fr hp n kn
    | .seq a b => cx fn ro fuel a fr hp n (fun fr hp n => cx fn ro fuel b fr hp n kn ke kr) ke kr
    | .cond x a b => (match lk fr x with
      | .bool true => cx fn ro fuel a fr hp n kn ke kr
      | .bool false => cx fn ro fuel b fr hp n kn ke kr
      | _ => none)
    | .block id b => cx fn ro fuel b fr hp n kn (fun i fr hp n => bif Nat.beq i id then kn fr hp n else ke i fr hp n) kr
    | .exit id => ke id fr hp n
    | .ret => kr fr hp n
    | .loop b => cx fn ro fuel b fr hp n (fun fr hp n => cx fn ro fuel (.loop b) fr hp n kn ke kr) ke kr
    | .rangeFunc g ps assign body => (match enterL ro fn ps.toList assign body fr hp n with
      | some (l, fr, hp, n) => callR ctrs bd (lk fr g) [.yld l] hp n (fun _ hp n =>
        match endL l hp with
        | some (j, hp) => jump j fr hp n kn ke kr
        | none => none)
      | none => none)
    | _ => none

/-! ### Bodies -/
def resV (fr : F) (hp : H) : List ResultVar → Option (List CV)
  | [] => some []
  | .tmp t :: l => (match fg fr t with | .junk => none | v => (match resV fr hp l with | some r => some (v :: r) | none => none))
  | .cell a t :: l => (match fg fr a with
    | .ptr b o => (match tyA P t with
      | some (true, n) => (match rdN hp b o n with | some cs => (match resV fr hp l with | some r => some (.agg cs :: r) | none => none) | none => none)
      | some (false, _) => (match rd1 hp b o with | some c => (match resV fr hp l with | some r => some (c :: r) | none => none) | none => none)
      | none => none)
    | _ => none)
def argF : List CV → Nat → F → F
  | [], _, fr => fr
  | v :: l, i, fr => argF l (i + 1) (fset fr i v)
variable (dctrs : List (Nat × Cn)) (db : Nat → Cn) in
/-- The deferred calls, at a return. -/
def runDs : List CV → H → Nat → (H → Nat → Res) → Res
  | [], hp, n, k => k hp n
  | .ptr r 0 :: l, hp, n, k => (match hget hp r with | .dfr => runDs l (hset hp r .no) n k | _ => none)
  | .tup (.fn f first caps :: args) :: l, hp, n, k => (match assoc dctrs f with
    | some c => after true n (c ((first ++ args) ++ caps) hp n) (fun _ hp n => runDs l hp n k)
    | none => after true n (db f ((first ++ args) ++ caps) hp n) (fun _ hp n => runDs l hp n k))
  | _, _, _, _ => none
variable (dctrs : List (Nat × Cn)) (db : Nat → Cn) in
def fin (fn : Func) (fr : F) (hp : H) (n : Nat) : Res :=
  runDs dctrs db (match fget fr dfSlot with | .tup l => l | _ => []) hp n (fun hp n =>
    match resV P fr hp fn.results.toList with
    | some [v] => some [⟨v, hp, n⟩]
    | some vs => some [⟨.tup vs, hp, n⟩]
    | none => none)
/-- Leaving a body that was entered as a deferred call: it has deferred none itself. -/
def finD (fn : Func) (fr : F) (hp : H) (n : Nat) : Res :=
  match fget fr dfSlot with
  | .tup _ => none
  | _ => (match resV P fr hp fn.results.toList with
    | some [v] => some [⟨v, hp, n⟩]
    | some vs => some [⟨.tup vs, hp, n⟩]
    | none => none)
/-- A round of the loop l: the assignments, the body. -/
def round (l : Nat) (args : List CV) (hp : H) (n : Nat) : Res :=
  match hget hp l with
  | .loop fn fr ps assign body db st pend => bif Nat.beq st 0 then (match putPs ps args (fput fr dfSlot .nili) with
    | some fr => cx P ctrs bd rd fn (some l) 1000000 assign fr hp n (fun fr1 hp n => match hget hp l with
      | .loop fn0 fr0 ps0 a0 b0 db0 st0 pend0 => bif Nat.beq st0 0 then cx P ctrs bd rd fn (some l) 1000000 body fr1 (hset hp l (.loop fn0 fr0 ps0 a0 b0 db0 1 pend0)) n
          (fun _ hp n => endR l none hp n) (fun i _ hp n => endR l (some (.exit i)) hp n) (fun _ hp n => endR l (some .ret) hp n) else none
      | _ => none) (fun _ _ _ _ => none) (fun _ _ _ => none)
    | none => none) else none
  | _ => none
where
  endR (l : Nat) (j : Option Code) (hp : H) (n : Nat) : Res :=
    match hget hp l with
    | .loop fn fr ps a b db _ _ => some [⟨.bool j.isNone, hset hp l (.loop fn fr ps a b db (if j.isNone then 0 else 2) j), n⟩]
    | _ => none
end
/-- The body of a function, from its arguments on (0), a round of a loop (1), a body entered as a deferred call (2). -/
def go (P : Program) (ctrs : List (Nat × Option Cn)) (dctrs : List (Nat × Cn)) : Nat → Nat → Nat → Cn
  | 0, _, _, _, _, _ => none
  | fuel + 1, 1, l, args, hp, n => round P ctrs (go P ctrs dctrs fuel 0) (go P ctrs dctrs fuel 1) l args hp n
  | fuel + 1, m, f, args, hp, n =>
    match look P.funcs.toList f with
    | none => none
    | some fn => (match fn.body with
      | none => none
      | some c => bif (bif Nat.ble fn.ntmps 511 then (bif Nat.ble args.length 511 then !(fn.name == "runtime.NumGoroutine") else false) else false) then
          cx P ctrs (go P ctrs dctrs fuel 0) (go P ctrs dctrs fuel 1) f none 1000000 c (argF args 0 (F0 (args.length + (fn.ntmps - args.length)))) hp n
            (bif Nat.beq m 0 then fin P dctrs (go P ctrs dctrs fuel 2) fn else finD P fn) (fun _ _ _ _ => none) (bif Nat.beq m 0 then fin P dctrs (go P ctrs dctrs fuel 2) fn else finD P fn)
        else none)
def N0 : Nat := mkN 32767 0
/-- Does the function, called without arguments, answer true? -/
def yes (r : Res) : Bool := match r with | some [o] => (match o.v with | .bool b => b | _ => false) | _ => false
end
end Go.Cx

/- A run with written-out values: what a state says of the model's world. -/
set_option linter.unusedVariables false
set_option linter.unusedSimpArgs false
set_option linter.unnecessarySimpa false
namespace Go.Cx
open Go.RowKit (Below)

/-- The block of each name, and how many cells it has. -/
abbrev Sg := Nat → Option (Nat × Nat)
def Le (σ τ : Sg) : Prop := ∀ i x, σ i = some x → τ i = some x
theorem Le.refl (σ : Sg) : Le σ σ := fun _ _ h => h
theorem Le.trans {σ τ υ : Sg} (h : Le σ τ) (k : Le τ υ) : Le σ υ := fun i x hx => k i x (h i x hx)

/-- The first l bytes of a number. -/
def bys : Nat → Nat → List UInt8
  | 0, _ => []
  | l + 1, n => UInt8.ofNat (n % 256) :: bys l (n / 256)

mutual
def VR (σ : Sg) : CV → Value → Prop
  | .int k n, v => v = .int (kc k) n
  | .bool b, v => v = .bool b
  | .str l n, v => v = .string ⟨(bys l n).toArray⟩
  | .ptr b o, v => ∃ p t, σ b = some (p, t) ∧ v = .pointer (some ⟨p, o, none⟩)
  | .nilp, v => v = .pointer none
  | .slice b o s l k ex, v => ∃ p t o' c, σ b = some (p, t) ∧ v = .slice (some ⟨p, o', none⟩) l c ∧ l ≤ k ∧ k ≤ c ∧ (ex = true → c = k) ∧ ((0 < k ∨ ex = true) → o' = o) ∧ o' + c * s ≤ t ∧ (ex = false → 0 < k → o' + c * s = t)
  | .nils, v => v = .slice none 0 0
  | .map b, v => ∃ p t, σ b = some (p, t) ∧ v = .map (some p)
  | .nilm, v => v = .map none
  | .fn f fs cs, v => ∃ us vs, VRs σ fs us ∧ VRs σ cs vs ∧ v = .func (.func f) us.toArray vs.toArray
  | .mth name c, v => ∃ x, VR σ c x ∧ v = .func (.method name) #[x] #[]
  | .yld l, v => ∃ p t, σ l = some (p, t) ∧ v = .func (.yield p) #[] #[]
  | .nilf, v => v = .nilFunc
  | .ifc t c, v => ∃ x, VR σ c x ∧ v = .iface t x
  | .nili, v => v = .nilIface
  | .agg cs, v => ∃ vs, VRs σ cs vs ∧ v = .agg vs.toArray
  | .tup cs, v => ∃ vs, VRs σ cs vs ∧ v = .tuple vs.toArray
  | .junk, _ => True
def VRs (σ : Sg) : List CV → List Value → Prop
  | [], vs => vs = []
  | c :: cs, vs => ∃ v ws, vs = v :: ws ∧ VR σ c v ∧ VRs σ cs ws
end
mutual
theorem VR.mono {σ τ : Sg} (h : Le σ τ) : ∀ {c : CV} {v : Value}, VR σ c v → VR τ c v
  | .int _ _, _, hv => by simpa only [VR] using hv
  | .bool _, _, hv => by simpa only [VR] using hv
  | .str _ _, _, hv => by simpa only [VR] using hv
  | .ptr _ _, _, hv => by simp only [VR] at hv ⊢; obtain ⟨p, t, h1, h2⟩ := hv; exact ⟨p, t, h _ _ h1, h2⟩
  | .nilp, _, hv => by simpa only [VR] using hv
  | .slice .., _, hv => by simp only [VR] at hv ⊢; obtain ⟨p, t, o', c, h1, h2⟩ := hv; exact ⟨p, t, o', c, h _ _ h1, h2⟩
  | .nils, _, hv => by simpa only [VR] using hv
  | .map _, _, hv => by simp only [VR] at hv ⊢; obtain ⟨p, t, h1, h2⟩ := hv; exact ⟨p, t, h _ _ h1, h2⟩
  | .nilm, _, hv => by simpa only [VR] using hv
  | .fn _ fs cs, _, hv => by simp only [VR] at hv ⊢; obtain ⟨us, vs, h0, h1, h2⟩ := hv; exact ⟨us, vs, VRs.mono h h0, VRs.mono h h1, h2⟩
  | .mth _ c, _, hv => by simp only [VR] at hv ⊢; obtain ⟨x, h1, h2⟩ := hv; exact ⟨x, VR.mono h h1, h2⟩
  | .yld _, _, hv => by simp only [VR] at hv ⊢; obtain ⟨p, t, h1, h2⟩ := hv; exact ⟨p, t, h _ _ h1, h2⟩
  | .nilf, _, hv => by simpa only [VR] using hv
  | .ifc _ c, _, hv => by simp only [VR] at hv ⊢; obtain ⟨x, h1, h2⟩ := hv; exact ⟨x, VR.mono h h1, h2⟩
  | .nili, _, hv => by simpa only [VR] using hv
  | .agg cs, _, hv => by simp only [VR] at hv ⊢; obtain ⟨vs, h1, h2⟩ := hv; exact ⟨vs, VRs.mono h h1, h2⟩
  | .tup cs, _, hv => by simp only [VR] at hv ⊢; obtain ⟨vs, h1, h2⟩ := hv; exact ⟨vs, VRs.mono h h1, h2⟩
  | .junk, _, hv => by simpa only [VR] using hv
theorem VRs.mono {σ τ : Sg} (h : Le σ τ) : ∀ {c : List CV} {v : List Value}, VRs σ c v → VRs τ c v
  | [], _, hv => by simpa only [VRs] using hv
  | c :: cs, _, hv => by simp only [VRs] at hv ⊢; obtain ⟨v, ws, h1, h2, h3⟩ := hv; exact ⟨v, ws, h1, VR.mono h h2, VRs.mono h h3⟩
end
theorem VRs.len {σ : Sg} : ∀ {c : List CV} {v : List Value}, VRs σ c v → c.length = v.length
  | [], _, h => by simp only [VRs] at h; subst h; rfl
  | c :: cs, _, h => by simp only [VRs] at h; obtain ⟨v, ws, rfl, _, h3⟩ := h; simp [VRs.len h3]
theorem VRs.app {σ : Sg} : ∀ {c d : List CV} {v w : List Value}, VRs σ c v → VRs σ d w → VRs σ (c ++ d) (v ++ w)
  | [], _, _, _, h, k => by simp only [VRs] at h; subst h; exact k
  | c :: cs, _, _, _, h, k => by
    simp only [VRs] at h; obtain ⟨v, ws, rfl, h2, h3⟩ := h
    simp only [List.cons_append, VRs]; exact ⟨v, _, rfl, h2, VRs.app h3 k⟩
theorem VRs.get {σ : Sg} : ∀ {c : List CV} {v : List Value} {i : Nat} {x : CV}, VRs σ c v → nthC c i = some x → ∃ y, v[i]? = some y ∧ VR σ x y
  | [], _, _, _, _, hx => by cases hx
  | c :: cs, _, i, x, h, hx => by
    simp only [VRs] at h; obtain ⟨v, ws, rfl, h2, h3⟩ := h
    cases i with
    | zero => simp only [nthC] at hx; cases hx; exact ⟨v, rfl, h2⟩
    | succ i => simp only [nthC] at hx; simpa using VRs.get h3 hx
theorem VRs.drop {σ : Sg} : ∀ {n : Nat} {c : List CV} {v : List Value}, VRs σ c v → VRs σ (dropC n c) (v.drop n)
  | 0, _, _, h => by simpa [dropC] using h
  | n + 1, [], _, h => by simp only [VRs] at h; subst h; simp [dropC, VRs]
  | n + 1, c :: cs, _, h => by
    simp only [VRs] at h; obtain ⟨v, ws, rfl, h2, h3⟩ := h
    simpa [dropC] using VRs.drop h3
theorem VRs.take {σ : Sg} : ∀ {n : Nat} {c r : List CV} {v : List Value}, VRs σ c v → takeC n c = some r → VRs σ r (v.take n) ∧ n ≤ v.length ∧ r.length = n
  | 0, _, r, _, h, hr => by simp only [takeC] at hr; cases hr; simp [VRs]
  | n + 1, [], _, _, h, hr => by simp only [takeC] at hr; cases hr
  | n + 1, c :: cs, r, _, h, hr => by
    simp only [VRs] at h; obtain ⟨v, ws, rfl, h2, h3⟩ := h
    simp only [takeC] at hr
    split at hr
    · rename_i q hq
      cases hr
      obtain ⟨a, b, d⟩ := VRs.take h3 hq
      refine ⟨?_, by simpa using b, by simp [d]⟩
      simp only [List.take_succ_cons, VRs]; exact ⟨v, _, rfl, h2, a⟩
    · cases hr
theorem VRs.over {σ : Sg} {d : List CV} {w : List Value} (hd : VRs σ d w) : ∀ {o : Nat} {c r : List CV} {v : List Value}, VRs σ c v → overC d o c = some r →
    VRs σ r (v.take o ++ w ++ v.drop (o + w.length)) ∧ o ≤ v.length
  | 0, c, r, v, h, hr => by
    simp only [overC] at hr; cases hr
    refine ⟨?_, Nat.zero_le _⟩
    have := VRs.app hd (VRs.drop (n := d.length) h)
    simpa [hd.len] using this
  | o + 1, [], r, v, h, hr => by simp only [overC] at hr; cases hr
  | o + 1, c :: cs, r, v, h, hr => by
    simp only [VRs] at h; obtain ⟨v, ws, rfl, h2, h3⟩ := h
    simp only [overC] at hr
    split at hr
    · rename_i q hq
      cases hr
      obtain ⟨a, b⟩ := VRs.over hd h3 hq
      refine ⟨?_, by simpa using b⟩
      have e : (v :: ws).drop (o + 1 + w.length) = ws.drop (o + w.length) := by rw [show o + 1 + w.length = (o + w.length) + 1 by omega]; rfl
      rw [e]
      simp only [List.take_succ_cons, List.cons_append, VRs]; exact ⟨v, _, rfl, h2, a⟩
    · cases hr
theorem VRs.put0 {σ : Sg} : ∀ {d c r : List CV} {w v : List Value}, VRs σ d w → VRs σ c v → putC0 d c = some r → VRs σ r (w ++ v.drop w.length) ∧ w.length ≤ v.length
  | [], c, r, w, v, hd, h, hr => by
    simp only [VRs] at hd; subst hd
    simp only [putC0] at hr; cases hr
    exact ⟨by simpa using h, Nat.zero_le _⟩
  | _ :: _, [], r, w, v, hd, h, hr => by simp only [putC0] at hr; cases hr
  | x :: d, y :: c, r, w, v, hd, h, hr => by
    simp only [VRs] at hd h
    obtain ⟨a, w', rfl, h1, h2⟩ := hd
    obtain ⟨b, v', rfl, h3, h4⟩ := h
    simp only [putC0] at hr
    split at hr
    · rename_i q hq
      cases hr
      obtain ⟨e1, e2⟩ := VRs.put0 h2 h4 hq
      refine ⟨?_, by simpa using e2⟩
      simp only [List.cons_append, List.length_cons, List.drop_succ_cons, VRs]
      exact ⟨a, _, rfl, h1, e1⟩
    · cases hr
theorem VRs.put {σ : Sg} {d : List CV} {w : List Value} (hd : VRs σ d w) : ∀ {o : Nat} {c r : List CV} {v : List Value}, VRs σ c v → putC d o c = some r →
    VRs σ r (v.take o ++ w ++ v.drop (o + w.length)) ∧ o + w.length ≤ v.length
  | 0, c, r, v, h, hr => by
    simp only [putC] at hr
    obtain ⟨a, b⟩ := VRs.put0 hd h hr
    exact ⟨by simpa using a, by omega⟩
  | o + 1, [], r, v, h, hr => by simp only [putC] at hr; cases hr
  | o + 1, c :: cs, r, v, h, hr => by
    simp only [VRs] at h; obtain ⟨v, ws, rfl, h2, h3⟩ := h
    simp only [putC] at hr
    split at hr
    · rename_i q hq
      cases hr
      obtain ⟨a, b⟩ := VRs.put hd h3 hq
      refine ⟨?_, by simp only [List.length_cons]; omega⟩
      have e : (v :: ws).drop (o + 1 + w.length) = ws.drop (o + w.length) := by rw [show o + 1 + w.length = (o + w.length) + 1 by omega]; rfl
      rw [e]
      simp only [List.take_succ_cons, List.cons_append, VRs]; exact ⟨v, _, rfl, h2, a⟩
    · cases hr
theorem VRs.rep {σ : Sg} {c : List CV} {v : List Value} (h : VRs σ c v) : ∀ (n : Nat), VRs σ (repC c n) (List.replicate n v).flatten
  | 0 => by simp [repC, VRs]
  | n + 1 => by simp only [repC, List.replicate_succ, List.flatten_cons]; exact h.app (h.rep n)

/-! ### Bytes -/
theorem bys_len : ∀ (l n : Nat), (bys l n).length = l
  | 0, _ => rfl
  | l + 1, n => by simp [bys, bys_len l]
theorem pw_succ (l : Nat) : pw (l + 1) = 256 * pw l := by unfold pw; rw [show 8 * (l + 1) = 8 * l + 8 by omega, Nat.pow_add, Nat.mul_comm]
theorem pw_pos (l : Nat) : 0 < pw l := Nat.two_pow_pos _
theorem pw_zero : pw 0 = 1 := rfl
theorem pw_add (a b : Nat) : pw (a + b) = pw a * pw b := by unfold pw; rw [← Nat.pow_add]; congr 1; omega
theorem bys_get : ∀ (l n i : Nat), i < l → (bys l n)[i]? = some (UInt8.ofNat (bnth n i))
  | 0, _, _, h => by omega
  | l + 1, n, 0, _ => by simp [bys, bnth, pw]
  | l + 1, n, i + 1, h => by
    simp only [bys, List.getElem?_cons_succ]
    rw [bys_get l (n / 256) i (by omega)]
    simp only [bnth]; rw [Nat.div_div_eq_div_mul, pw_succ]
theorem bys_mod : ∀ (l n : Nat), bys l (n % pw l) = bys l n
  | 0, _ => rfl
  | l + 1, n => by
    simp only [bys]
    congr 1
    · congr 1; rw [pw_succ, Nat.mod_mul_right_mod]
    · rw [pw_succ]
      have : n % (256 * pw l) / 256 = n / 256 % pw l := by rw [Nat.mod_mul_right_div_self]
      rw [this, bys_mod l]
theorem bnth_lt (n i : Nat) : bnth n i < 256 := Nat.mod_lt _ (by decide)
theorem bys_ext {l n m : Nat} (h : ∀ i, i < l → bnth n i = bnth m i) : bys l n = bys l m := by
  apply List.ext_getElem?
  intro i
  by_cases hi : i < l
  · rw [bys_get l n i hi, bys_get l m i hi, h i hi]
  · rw [List.getElem?_eq_none (by rw [bys_len]; omega), List.getElem?_eq_none (by rw [bys_len]; omega)]
theorem bnth_div (n lo i : Nat) : bnth (n / pw lo) i = bnth n (lo + i) := by
  simp only [bnth]; rw [Nat.div_div_eq_div_mul, pw_add]
theorem bys_drop (l n lo : Nat) : (bys l n).drop lo = bys (l - lo) (n / pw lo) := by
  apply List.ext_getElem?
  intro i
  rw [List.getElem?_drop]
  by_cases h : lo + i < l
  · rw [bys_get _ _ _ h, bys_get _ _ _ (by omega), bnth_div]
  · rw [List.getElem?_eq_none (by rw [bys_len]; omega), List.getElem?_eq_none (by rw [bys_len]; omega)]
theorem bys_take (l n k : Nat) (h : k ≤ l) : (bys l n).take k = bys k n := by
  apply List.ext_getElem?
  intro i
  by_cases hi : i < k
  · rw [List.getElem?_take_of_lt hi, bys_get _ _ _ (by omega), bys_get _ _ _ hi]
  · rw [List.getElem?_eq_none (by simp [bys_len]; omega), List.getElem?_eq_none (by rw [bys_len]; omega)]
theorem bys_sub (l n lo len : Nat) (h : lo + len ≤ l) : ((bys l n).drop lo).take len = bys len (bsub n lo len) := by
  rw [bys_drop, bys_take _ _ _ (by omega)]; unfold bsub; rw [bys_mod]
theorem bys_cat (l1 n1 l2 n2 : Nat) : bys l1 n1 ++ bys l2 n2 = bys (l1 + l2) (bcat l1 n1 n2) := by
  have e : bys (l1 + l2) (bcat l1 n1 n2) = (bys (l1 + l2) (bcat l1 n1 n2)).take l1 ++ (bys (l1 + l2) (bcat l1 n1 n2)).drop l1 := (List.take_append_drop _ _).symm
  rw [e, bys_take _ _ _ (by omega), bys_drop]
  have h1 : bcat l1 n1 n2 % pw l1 = n1 % pw l1 := by
    unfold bcat; rw [Nat.mul_comm, Nat.add_mul_mod_self_left, Nat.mod_mod]
  have h2 : bcat l1 n1 n2 / pw l1 = n2 := by
    unfold bcat; rw [Nat.mul_comm, Nat.add_mul_div_left _ _ (pw_pos l1), Nat.div_eq_of_lt (Nat.mod_lt _ (pw_pos l1)), Nat.zero_add]
  rw [h2, show l1 + l2 - l1 = l2 by omega]
  congr 1
  rw [← bys_mod l1 (bcat l1 n1 n2), h1, bys_mod]
theorem bys_put (l n lo len m : Nat) (h : lo + len ≤ l) : bys l (bput n lo len m l) = (bys l n).take lo ++ bys len m ++ (bys l n).drop (lo + len) := by
  have e : bput n lo len m l = bcat lo n (bcat len m ((n / pw (lo + len)) % pw (l - (lo + len)))) := by
    unfold bput bcat
    rw [pw_add, Nat.add_mul, Nat.add_assoc]
    congr 2
    rw [Nat.mul_assoc, Nat.mul_comm (pw lo) (pw len)]
  rw [e]
  have e2 : l = lo + (len + (l - (lo + len))) := by omega
  conv => lhs; rw [e2]
  have e3 : lo + (len + (l - (lo + len))) - (lo + len) = l - (lo + len) := by omega
  rw [e3, ← bys_cat, ← bys_cat, bys_mod, bys_take _ _ _ (by omega), bys_drop, List.append_assoc]
theorem bys_eq_iff (l n m : Nat) : bys l n = bys l m ↔ n % pw l = m % pw l := by
  constructor
  · intro h
    induction l generalizing n m with
    | zero => rw [pw_zero]; omega
    | succ l ih =>
      simp only [bys, List.cons.injEq] at h
      have h1 := congrArg UInt8.toNat h.1
      simp only [UInt8.toNat_ofNat'] at h1
      have h2 := ih _ _ h.2
      rw [pw_succ]
      rw [Nat.mod_mul, Nat.mod_mul, h2]
      omega
  · intro h; rw [← bys_mod l n, h, bys_mod]
theorem bys_ofBytes : ∀ (l : List UInt8), bys l.length (ofBytes l) = l
  | [] => rfl
  | x :: l => by
    simp only [List.length_cons, bys, ofBytes]
    have hx : x.toNat < 256 := x.toNat_lt
    congr 1
    · rw [show (x.toNat + 256 * ofBytes l) % 256 = x.toNat by omega]; simp
    · rw [show (x.toNat + 256 * ofBytes l) / 256 = ofBytes l by omega]; exact bys_ofBytes l
end Go.Cx

/- A run with written-out values: what a state says of the model's memory. -/
set_option linter.unusedVariables false
set_option linter.unusedSimpArgs false
set_option linter.unnecessarySimpa false
namespace Go.Cx
open Go.RowKit (Below)

/-! ### Octets -/
theorem sel_eq {α : Type} (c0 c1 c2 c3 c4 c5 c6 c7 : α) (d : Nat) : sel c0 c1 c2 c3 c4 c5 c6 c7 d = match d with | 0 => c0 | 1 => c1 | 2 => c2 | 3 => c3 | 4 => c4 | 5 => c5 | 6 => c6 | _ => c7 := by
  unfold sel
  match d with
  | 0 => rfl | 1 => rfl | 2 => rfl | 3 => rfl | 4 => rfl | 5 => rfl | 6 => rfl | 7 => rfl | _ + 8 => rfl
theorem og_os {α : Type} (f : α → α) (o : O α) (d e : Nat) (hd : d < 8) (he : e < 8) : og (os f o d) e = if e = d then f (og o e) else og o e := by
  obtain ⟨c0, c1, c2, c3, c4, c5, c6, c7⟩ := o
  have hd' : d = 0 ∨ d = 1 ∨ d = 2 ∨ d = 3 ∨ d = 4 ∨ d = 5 ∨ d = 6 ∨ d = 7 := by omega
  have he' : e = 0 ∨ e = 1 ∨ e = 2 ∨ e = 3 ∨ e = 4 ∨ e = 5 ∨ e = 6 ∨ e = 7 := by omega
  rcases hd' with rfl | rfl | rfl | rfl | rfl | rfl | rfl | rfl <;> rcases he' with rfl | rfl | rfl | rfl | rfl | rfl | rfl | rfl <;> rfl
theorem og_oe {α : Type} (a : α) (d : Nat) : og (oe a) d = a := by
  show sel a a a a a a a a d = a
  rw [sel_eq]; split <;> rfl
theorem fget_fput (f : F) (i j : Nat) (v : CV) (hi : i < 512) (hj : j < 512) : fget (fput f i v) j = if j = i then v else fget f j := by
  obtain ⟨n, o⟩ := f
  unfold fget fput
  simp only
  rw [og_os _ _ _ _ (by omega) (by omega)]
  by_cases h1 : j / 64 = i / 64
  · rw [if_pos h1, og_os _ _ _ _ (by omega) (by omega)]
    by_cases h2 : j / 8 % 8 = i / 8 % 8
    · rw [if_pos h2, og_os _ _ _ _ (by omega) (by omega)]
      by_cases h3 : j % 8 = i % 8
      · rw [if_pos h3, if_pos (by omega)]
      · rw [if_neg h3, if_neg (by omega)]
    · rw [if_neg h2, if_neg (by omega)]
  · rw [if_neg h1, if_neg (by omega)]
theorem fput_n (f : F) (i : Nat) (v : CV) : (fput f i v).n = f.n := by obtain ⟨n, o⟩ := f; rfl
theorem fset_eq (f : F) (i : Nat) (v : CV) : fset f i v = bif Nat.blt i f.n then fput f i v else f := by
  obtain ⟨n, o⟩ := f; unfold fset fput; simp only
theorem fg_eq (f : F) (i : Nat) : fg f i = bif Nat.blt i f.n then fget f i else .junk := by
  obtain ⟨n, o⟩ := f; unfold fg fget; simp only
theorem fget_F0 (n i : Nat) : fget (F0 n) i = .junk := by unfold fget F0; simp only; rw [og_oe, og_oe, og_oe]
theorem hget_hset (h : H) (i j : Nat) (c : Ck) (hi : i < 32768) (hj : j < 32768) : hget (hset h i c) j = if j = i then c else hget h j := by
  unfold hget hset
  rw [og_os _ _ _ _ (by omega) (by omega)]
  by_cases h1 : j / 4096 = i / 4096
  · rw [if_pos h1, og_os _ _ _ _ (by omega) (by omega)]
    by_cases h2 : j / 512 % 8 = i / 512 % 8
    · rw [if_pos h2, og_os _ _ _ _ (by omega) (by omega)]
      by_cases h3 : j / 64 % 8 = i / 64 % 8
      · rw [if_pos h3, og_os _ _ _ _ (by omega) (by omega)]
        by_cases h4 : j / 8 % 8 = i / 8 % 8
        · rw [if_pos h4, og_os _ _ _ _ (by omega) (by omega)]
          by_cases h5 : j % 8 = i % 8
          · rw [if_pos h5, if_pos (by omega)]
          · rw [if_neg h5, if_neg (by omega)]
        · rw [if_neg h4, if_neg (by omega)]
      · rw [if_neg h3, if_neg (by omega)]
    · rw [if_neg h2, if_neg (by omega)]
  · rw [if_neg h1, if_neg (by omega)]
theorem hget_H0 (i : Nat) : hget H0 i = .no := by unfold hget H0; rw [og_oe, og_oe, og_oe, og_oe, og_oe]

/-! ### Frames -/
def DfR (σ : Sg) : List CV → List Deferred → Prop
  | [], l => l = []
  | .ptr r 0 :: cs, l => ∃ p t ds, σ r = some (p, t) ∧ l = { target := .collected p, args := #[] } :: ds ∧ DfR σ cs ds
  | .tup (.fn f first caps :: args) :: cs, l => ∃ us vs ws ds, VRs σ first us ∧ VRs σ caps vs ∧ VRs σ args ws ∧ l = { target := .fn (.func f) vs.toArray, args := us.toArray ++ ws.toArray } :: ds ∧ DfR σ cs ds
  | _ :: _, _ => False
noncomputable def dfs (fr : F) : List CV := match fget fr dfSlot with | .tup l => l | _ => []
/-- Beyond its places nothing lies in a frame. -/
def NJ (fr : F) : Prop := ∀ i, fr.n ≤ i → i < 511 → fget fr i = .junk
structure FrR (σ : Sg) (fr : F) (a : Act) : Prop where
  sz : fr.n = a.tmps.size
  small : a.tmps.size ≤ 511
  val : ∀ i v, a.tmps[i]? = some v → VR σ (fget fr i) v
  df : DfR σ (dfs fr) a.defers
  nj : NJ fr
theorem DfR.mono {σ τ : Sg} (h : Le σ τ) : ∀ {l : List CV} {ds : List Deferred}, DfR σ l ds → DfR τ l ds
  | [], _, hd => hd
  | c :: l, ds, hd => by
    unfold DfR at hd ⊢
    split at hd
    · exact hd
    · obtain ⟨p, t, ds', h1, h2, h3⟩ := hd; exact ⟨p, t, ds', h _ _ h1, h2, DfR.mono h h3⟩
    · obtain ⟨us, vs, ws, ds', h1, h2, h3, h4, h5⟩ := hd; exact ⟨us, vs, ws, ds', h1.mono h, h2.mono h, h3.mono h, h4, DfR.mono h h5⟩
    · exact hd.elim
theorem FrR.mono {σ τ : Sg} (h : Le σ τ) {fr : F} {a : Act} (k : FrR σ fr a) : FrR τ fr a := ⟨k.sz, k.small, fun i v hv => (k.val i v hv).mono h, k.df.mono h, k.nj⟩

/-! ### Blocks -/
def bval (b : UInt8) : Value := .int .u8 (b.toNat : Nat)
/-- A row of cells: these first; none of its cells frozen (and, if not 'fz', nothing frozen there at all). -/
def Row (w : World) (p t : Nat) (vs : List Value) (fz : Bool) : Prop :=
  ∃ arr ty lo hi, w.heap[p]? = some (.cells arr ty (lo, hi)) ∧ arr.size = t ∧ (∃ spare, arr.toList = vs ++ spare) ∧ ((lo = 0 ∧ hi = 0) ∨ (fz = true ∧ t ≤ lo))
def EntsR (σ : Sg) : List Ent → List MapEntry → Prop
  | [], ms => ms = []
  | e :: es, ms => ∃ m ns, ms = m :: ns ∧ VR σ e.key m.key ∧ VR σ e.val m.val ∧ m.born = e.born ∧ EntsR σ es ns
theorem EntsR.mono {σ τ : Sg} (h : Le σ τ) : ∀ {l : List Ent} {m : List MapEntry}, EntsR σ l m → EntsR τ l m
  | [], _, k => k
  | e :: l, _, k => by unfold EntsR at k ⊢; obtain ⟨m, ns, h1, h2, h3, h4, h5⟩ := k; exact ⟨m, ns, h1, h2.mono h, h3.mono h, h4, EntsR.mono h h5⟩
def loopSt : Nat → LoopState | 0 => .ready | 1 => .busy | 2 => .done | _ => .exhausted
def holds (σ : Sg) (w : World) (p t : Nat) : Ck → Prop
  | .no => True
  | .cells cs => ∃ vs, VRs σ cs vs ∧ Row w p t vs false
  | .bytes l n => Row w p t ((bys l n).map bval) true
  | .map es c => ∃ ms, EntsR σ es ms ∧ w.heap[p]? = some (.map ms.toArray c)
  | .iter m s seen st => ∃ q u, σ m = some (q, u) ∧ w.heap[p]? = some (.mapIter (some q) s seen.toArray st)
  | .siter l n pos => w.heap[p]? = some (.stringIter ⟨(bys l n).toArray⟩ pos)
  | .iter0 => w.heap[p]? = some (.mapIter none 0 #[] 0)
  | .dfr => w.heap[p]? = some (.deferred (some []))
  | .loop fn fr ps assign body db st pend => ∃ q u tm g, σ db = some (q, u) ∧ (fr.n = tm.size ∧ tm.size ≤ 511 ∧ NJ fr) ∧ (∀ i v, tm[i]? = some v → VR σ (fget fr i) v) ∧
      w.heap[p]? = some (.loop { state := loopSt st, pending := pend, fn := g, tmps := tm, params := ps.toArray, assign := assign, body := body, defers := q })
theorem holds.mono {σ τ : Sg} (h : Le σ τ) {w : World} {p t : Nat} : ∀ {c : Ck}, holds σ w p t c → holds τ w p t c
  | .no, k => k
  | .cells _, ⟨vs, h1, h2⟩ => ⟨vs, h1.mono h, h2⟩
  | .bytes _ _, k => k
  | .map _ _, ⟨ms, h1, h2⟩ => ⟨ms, h1.mono h, h2⟩
  | .iter _ _ _ _, ⟨q, u, h1, h2⟩ => ⟨q, u, h _ _ h1, h2⟩
  | .siter _ _ _, k => k
  | .iter0, k => k
  | .dfr, k => k
  | .loop _ _ _ _ _ _ _ _, ⟨q, u, tm, g, h1, h2, h3, h4⟩ => ⟨q, u, tm, g, h _ _ h1, h2, fun i v hv => (h3 i v hv).mono h, h4⟩
theorem holds.congr {σ : Sg} {w w' : World} {p t : Nat} (h : w'.heap[p]? = w.heap[p]?) : ∀ {c : Ck}, holds σ w p t c → holds σ w' p t c
  | .no, k => k
  | .cells _, ⟨vs, h1, h2⟩ => ⟨vs, h1, by unfold Row at *; rw [h]; exact h2⟩
  | .bytes _ _, k => by unfold holds Row at *; rw [h]; exact k
  | .map _ _, ⟨ms, h1, h2⟩ => ⟨ms, h1, by rw [h]; exact h2⟩
  | .iter _ _ _ _, ⟨q, u, h1, h2⟩ => ⟨q, u, h1, by rw [h]; exact h2⟩
  | .siter _ _ _, k => by unfold holds at *; rw [h]; exact k
  | .iter0, k => by unfold holds at *; rw [h]; exact k
  | .dfr, k => by unfold holds at *; rw [h]; exact k
  | .loop _ _ _ _ _ _ _ _, ⟨q, u, tm, g, h1, h2, h3, h4⟩ => ⟨q, u, tm, g, h1, h2, h3, by rw [h]; exact h4⟩

/-! ### States -/
def live (c : Ck) : Prop := c ≠ .no
structure Rel (w0 : World) (σ : Sg) (hp : H) (n : Nat) (w : World) : Prop where
  hold : ∀ i, i < 32768 → hget hp i ≠ .no → ∃ p t, σ i = some (p, t) ∧ holds σ w p t (hget hp i)
  apart : ∀ i j p t q u, i < 32768 → j < 32768 → hget hp i ≠ .no → hget hp j ≠ .no → i ≠ j → σ i = some (p, t) → σ j = some (q, u) → p ≠ q
  old : ∀ i p t, σ i = some (p, t) → i < 32768 ∧ w0.heap.size ≤ p ∧ p < w.heap.size
  fresh : ∀ i, idN n ≤ i → i < limN n → σ i = none
  lim : limN n ≤ 32768
  below : Below w0.heap.size w0 w
/-- Between: only names that were free have been given. -/
def Ex (n : Nat) (σ τ : Sg) : Prop := Le σ τ ∧ ∀ i, ¬ (idN n ≤ i ∧ i < limN n) → τ i = σ i
theorem Ex.refl (n : Nat) (σ : Sg) : Ex n σ σ := ⟨Le.refl σ, fun _ _ => rfl⟩

variable {w0 : World} {σ : Sg} {hp : H} {n : Nat} {w : World}
theorem Rel.at (h : Rel w0 σ hp n w) {i p t : Nat} (hs : σ i = some (p, t)) {c : Ck} (hc : hget hp i = c) (hn : c ≠ .no) : holds σ w p t c := by
  have hi := (h.old i p t hs).1
  obtain ⟨q, u, h1, h2⟩ := h.hold i hi (by rw [hc]; exact hn)
  rw [hs] at h1; cases h1; rw [hc] at h2; exact h2
/-- The world has changed in the blocks of no live name. -/
theorem Rel.world (h : Rel w0 σ hp n w) {w' : World} (hs : w.heap.size ≤ w'.heap.size) (hb : ∀ k, k < w.heap.size → w'.heap[k]? = w.heap[k]?) (ho : w'.os = w.os) (ht : w'.tape = w.tape) (hu : w'.output = w.output) : Rel w0 σ hp n w' :=
  ⟨fun i hi hc => let ⟨p, t, h1, h2⟩ := h.hold i hi hc; ⟨p, t, h1, h2.congr (hb p (h.old i p t h1).2.2)⟩, h.apart,
    fun i p t hs' => let ⟨a, b, c⟩ := h.old i p t hs'; ⟨a, b, Nat.lt_of_lt_of_le c hs⟩, h.fresh, h.lim, h.below.trans ⟨ho, ht, hu, hs, fun k hk => hb k (Nat.lt_of_lt_of_le hk h.below.size)⟩⟩
theorem Rel.drew (h : Rel w0 σ hp n w) (m : Nat) : Rel w0 σ hp n { w with drawn := m } := h.world (Nat.le_refl _) (fun _ _ => rfl) rfl rfl rfl
/-- One live block has another content. -/
theorem Rel.upd (h : Rel w0 σ hp n w) {i p t : Nat} (hs : σ i = some (p, t)) (hl : hget hp i ≠ .no) {w' : World} (hz : w'.heap.size = w.heap.size) (hb : ∀ k, k ≠ p → w'.heap[k]? = w.heap[k]?)
    (ho : w'.os = w.os) (ht : w'.tape = w.tape) (hu : w'.output = w.output) {c : Ck} (hc : holds σ w' p t c) : Rel w0 σ (hset hp i c) n w' := by
  have hi := (h.old i p t hs).1
  refine ⟨fun j hj hjc => ?_, fun j k q u r v hj hk hjc hkc hne h1 h2 => ?_, fun j q u hj => ?_, h.fresh, h.lim, ?_⟩
  · rw [hget_hset _ _ _ _ hi hj] at hjc ⊢
    by_cases e : j = i
    · subst e; rw [if_pos rfl]; exact ⟨p, t, hs, hc⟩
    · rw [if_neg e] at hjc ⊢
      obtain ⟨q, u, h1, h2⟩ := h.hold j hj hjc
      exact ⟨q, u, h1, h2.congr (hb q (fun e' => h.apart j i q u p t hj hi hjc hl e h1 hs e'))⟩
  · have key : ∀ j, j < 32768 → hget (hset hp i c) j ≠ .no → hget hp j ≠ .no := fun j hj hjc => by
      rw [hget_hset _ _ _ _ hi hj] at hjc
      by_cases e : j = i
      · subst e; exact hl
      · rw [if_neg e] at hjc; exact hjc
    exact h.apart j k q u r v hj hk (key j hj hjc) (key k hk hkc) hne h1 h2
  · obtain ⟨a, b, c⟩ := h.old j q u hj; exact ⟨a, b, by rw [hz]; exact c⟩
  · exact h.below.trans ⟨ho, ht, hu, by rw [hz]; exact Nat.le_refl _, fun k hk => hb k (fun e => by have := (h.old i p t hs).2.1; omega)⟩
/-- A name is dropped. -/
theorem Rel.kill (h : Rel w0 σ hp n w) {i : Nat} (hi : i < 32768) : Rel w0 σ (hset hp i .no) n w := by
  refine ⟨fun j hj hjc => ?_, fun j k q u r v hj hk hjc hkc hne h1 h2 => ?_, h.old, h.fresh, h.lim, h.below⟩
  · rw [hget_hset _ _ _ _ hi hj] at hjc ⊢
    by_cases e : j = i
    · rw [if_pos e] at hjc; exact absurd rfl hjc
    · rw [if_neg e] at hjc ⊢; exact h.hold j hj hjc
  · have key : ∀ j, j < 32768 → hget (hset hp i .no) j ≠ .no → hget hp j ≠ .no := fun j hj hjc => by
      rw [hget_hset _ _ _ _ hi hj] at hjc
      by_cases e : j = i
      · rw [if_pos e] at hjc; exact absurd rfl hjc
      · rw [if_neg e] at hjc; exact hjc
    exact h.apart j k q u r v hj hk (key j hj hjc) (key k hk hkc) hne h1 h2
def updS (σ : Sg) (i p t : Nat) : Sg := fun j => if j = i then some (p, t) else σ j
theorem Le.upd {i p t : Nat} (h : σ i = none) : Le σ (updS σ i p t) := fun j x hj => by
  unfold updS; rw [if_neg (by rintro rfl; rw [h] at hj; cases hj)]; exact hj
theorem updS_self (i p t : Nat) : updS σ i p t i = some (p, t) := by simp [updS]
theorem idN_lt (h : idN n < limN n) (hl : limN n ≤ 32768) : idN (n + 1) = idN n + 1 ∧ limN (n + 1) = limN n := by
  unfold idN limN at *; omega
/-- A new name for a block that no live name has. -/
theorem Rel.name (h : Rel w0 σ hp n w) {i p t m : Nat} (hi : i < 32768) (hf : σ i = none) (hp1 : w0.heap.size ≤ p) (hp2 : p < w.heap.size)
    (hno : ∀ j q u, j < 32768 → hget hp j ≠ .no → σ j = some (q, u) → q ≠ p) {c : Ck} (hc : holds (updS σ i p t) w p t c)
    (hm1 : limN m = limN n) (hm : ∀ j, idN m ≤ j → j < limN m → j ≠ i ∧ idN n ≤ j) : Rel w0 (updS σ i p t) (hset hp i c) m w := by
  refine ⟨fun j hj hjc => ?_, fun j k q u r v hj hk hjc hkc hne h1 h2 => ?_, fun j q u hj => ?_, fun j hj hj2 => ?_, by rw [hm1]; exact h.lim, h.below⟩
  · rw [hget_hset _ _ _ _ hi hj] at hjc ⊢
    by_cases e : j = i
    · subst e; rw [if_pos rfl]; exact ⟨p, t, updS_self _ _ _, hc⟩
    · rw [if_neg e] at hjc ⊢
      obtain ⟨q, u, h1, h2⟩ := h.hold j hj hjc
      exact ⟨q, u, Le.upd hf _ _ h1, h2.mono (Le.upd hf)⟩
  · rw [hget_hset _ _ _ _ hi hj] at hjc
    rw [hget_hset _ _ _ _ hi hk] at hkc
    unfold updS at h1 h2
    by_cases e1 : j = i
    · subst e1
      have e2 : k ≠ j := fun e => hne e.symm
      rw [if_pos rfl] at h1; cases h1
      rw [if_neg e2] at h2 hkc
      exact (hno k r v hk hkc h2).symm
    · rw [if_neg e1] at h1 hjc
      by_cases e2 : k = i
      · subst e2; rw [if_pos rfl] at h2; cases h2; exact hno j q u hj hjc h1
      · rw [if_neg e2] at h2 hkc; exact h.apart j k q u r v hj hk hjc hkc hne h1 h2
  · unfold updS at hj
    split at hj
    · rename_i e; subst e; cases hj; exact ⟨hi, hp1, hp2⟩
    · exact h.old j q u hj
  · obtain ⟨a, b⟩ := hm j hj hj2
    unfold updS; rw [if_neg a]; exact h.fresh j b (by rw [← hm1]; exact hj2)
theorem Rel.push (h : Rel w0 σ hp n w) (o : Obj) : Rel w0 σ hp n { w with heap := w.heap.push o } :=
  h.world (by simp) (fun k hk => by show (w.heap.push o)[k]? = _; rw [Array.getElem?_push, if_neg (by omega)]) rfl rfl rfl
/-- A new block under a free name. -/
theorem Rel.new (h : Rel w0 σ hp n w) {i t m : Nat} (hi : i < 32768) (hf : σ i = none) (o : Obj) {c : Ck} (hc : ∀ τ, Le σ τ → τ i = some (w.heap.size, t) → holds τ { w with heap := w.heap.push o } w.heap.size t c)
    (hm1 : limN m = limN n) (hm : ∀ j, idN m ≤ j → j < limN m → j ≠ i ∧ idN n ≤ j) :
    Rel w0 (updS σ i w.heap.size t) (hset hp i c) m { w with heap := w.heap.push o } :=
  (h.push o).name hi hf h.below.size (by show _ < (w.heap.push o).size; simp) (fun j q u hj hjc hq => by have := (h.old j q u hq).2.2; omega) (hc _ (Le.upd hf) (updS_self _ _ _)) hm1 hm
theorem heap_push (w : World) (o : Obj) : ({ w with heap := w.heap.push o } : World).heap[w.heap.size]? = some o := by
  show (w.heap.push o)[w.heap.size]? = _; simp
end Go.Cx

/- A run with written-out values: the tables, reading memory, the quiet operations' soundness (first part). -/
set_option linter.unusedVariables false
set_option linter.unusedSimpArgs false
set_option linter.unnecessarySimpa false
namespace Go.Cx
open Go.RowKit (Below)

/-! ### Outcomes -/
def Good (r : Res) (φ : Out → Prop) : Prop := ∃ l, r = some l ∧ ∀ o ∈ l, φ o
theorem Good.no {φ : Out → Prop} (h : Good none φ) : False := by obtain ⟨l, h, _⟩ := h; cases h
theorem Good.cat {a b : Res} {φ : Out → Prop} (h : Good (Res.cat a b) φ) : Good a φ ∧ Good b φ := by
  obtain ⟨l, h, hl⟩ := h
  unfold Res.cat at h
  split at h
  · cases h
  · split at h
    · cases h
    · cases h
      exact ⟨⟨_, rfl, fun o ho => hl o (List.mem_append_left _ ho)⟩, ⟨_, rfl, fun o ho => hl o (List.mem_append_right _ ho)⟩⟩
theorem cbif {α : Type} {b : Bool} {x : Option α} {y : α} (h : (bif b then x else none) = some y) : b = true ∧ x = some y :=
  match b, h with
  | true, h => ⟨rfl, h⟩
theorem Good.bif {b : Bool} {x : Res} {φ : Out → Prop} (h : Good (bif b then x else none) φ) : b = true ∧ Good x φ :=
  match b, h with
  | true, h => ⟨rfl, h⟩
  | false, h => h.no.elim

/-! ### The program's tables -/
theorem nthL_eq {α : Type} : ∀ (l : List α) (i : Nat), nthL l i = l[i]?
  | [], _ => by simp [nthL]
  | a :: l, 0 => by simp [nthL]
  | a :: l, i + 1 => by simp [nthL, nthL_eq l i]
theorem dropL_eq {α : Type} : ∀ (n : Nat) (l : List α), dropL n l = l.drop n
  | 0, _ => by simp [dropL]
  | n + 1, [] => by simp [dropL]
  | n + 1, a :: l => by simp [dropL, dropL_eq n l]
theorem blk_eq {α : Type} (l : List α) : ∀ j, blk l j = l.drop (64 * j)
  | 0 => by simp [blk]
  | j + 1 => by simp only [blk]; rw [dropL_eq, blk_eq l j, List.drop_drop]; congr 1
theorem look_eq {α : Type} (l : List α) (i : Nat) : look l i = l[i]? := by
  unfold look; rw [nthL_eq, blk_eq, List.getElem?_drop]; congr 1; omega
section
variable {P : Program}
theorem tyI_info {t : Nat} {i : TypeInfo} (h : tyI P t = some i) : P.info? t = some i := by
  unfold tyI at h
  rw [look_eq, Array.getElem?_toList] at h
  have hlt := (Array.getElem?_eq_some_iff.1 h).1
  unfold Tables.info?
  rw [if_pos hlt]; exact h
theorem tyD_und {t : Nat} {d : TypeDesc} (h : tyD P t = some d) : P.underlying t = some d := by
  unfold tyD at h
  split at h
  · rename_i i hi
    have := tyI_info hi
    split at h
    · rename_i nm u hd
      split at h
      · rename_i j hj
        cases h
        unfold Program.underlying
        obtain ⟨ds, a1, a2, a3, a4, a5, a6, a7, a8, a9⟩ := i
        simp only at hd; subst hd
        rw [this]; simp [tyI_info hj]
      · cases h
    · rename_i hn
      cases h
      unfold Program.underlying
      rw [this]
      split
      · rename_i heq; cases heq; exact absurd rfl (hn _ _)
      · rename_i heq; cases heq; rfl
      · rename_i heq; cases heq
  · cases h
theorem tySz_info {t n : Nat} (h : tySz P t = some n) : ∃ i, P.info? t = some i ∧ i.size = n := by
  unfold tySz at h
  split at h
  · rename_i i hi; cases h; exact ⟨i, tyI_info hi, rfl⟩
  · cases h
theorem run_size {t n : Nat} (h : tySz P t = some n) (w : World) : (sizeOf t).run P w = .ok n w := by
  obtain ⟨i, hi, rfl⟩ := tySz_info h
  simp [sizeOf, typeInfo, hi]
theorem run_isAg {t : Nat} {d : TypeDesc} (h : P.underlying t = some d) (w : World) : (isAgg t).run P w = .ok (isAg d) w := by
  simp only [isAgg, go_sem, run_underlying h]
  cases d <;> simp [isAg, run_underlying h]
theorem tyA_spec {t n : Nat} {b : Bool} (h : tyA P t = some (b, n)) : ∃ d, P.underlying t = some d ∧ isAg d = b ∧ tySz P t = some n := by
  unfold tyA at h
  split at h
  · rename_i d hd
    split at h
    · rename_i m hm; cases h; exact ⟨d, tyD_und hd, rfl, hm⟩
    · cases h
  · cases h
theorem isU8_spec {t : Nat} (h : isU8 P t = true) : P.underlying t = some (.int .u8) := by
  unfold isU8 at h
  split at h
  · rename_i hd; exact tyD_und hd
  · cases h
theorem run_v {s : Sem Value} {v : Value} {w w' : World} (h : s.run P w = .ok v w') : (do pure (Next.value (← s)) : Sem Next).run P w = .ok (.value v) w' := by
  have : (do pure (Next.value (← s)) : Sem Next) = s.bind (fun v => Sem.pure (Next.value v)) := rfl
  rw [this, Sem.run_bind', h]; rfl
theorem run_loadCells (a : Addr) (vs : List Value) (w : World) (h : ∀ j v, vs[j]? = some v → w.cell? (a.add j) = some v) : (loadCells a vs.length).run P w = .ok vs.toArray w := by
  have key : ∀ (n i : Nat) (acc : Array Value), i + n = vs.length → (loadCellsFrom a i n acc).run P w = .ok (acc ++ (vs.drop i).toArray) w := by
    intro n
    induction n with
    | zero => intro i acc h'; simp [loadCellsFrom, List.drop_eq_nil_of_le (show vs.length ≤ i by omega)]
    | succ n ih =>
      intro i acc h'
      have hlt : i < vs.length := by omega
      have hc := h i vs[i] (List.getElem?_eq_getElem hlt)
      have e : (loadCellsFrom a i (n + 1) acc) = (load (a.add i)).bind (fun v => loadCellsFrom a (i + 1) n (acc.push v)) := rfl
      rw [e, Sem.run_bind']
      have e2 : (load (a.add i)).run P w = .ok vs[i] w := by simp [load, Sem.run, hc]
      rw [e2]
      simp only [Result.andThen]
      rw [ih (i + 1) _ (by omega)]
      congr 1
      rw [List.drop_eq_getElem_cons hlt]
      simp
  have := key vs.length 0 #[] (by omega)
  simpa [loadCells] using this
theorem add_eq (b o n : Nat) : Addr.add ⟨b, o, none⟩ n = ⟨b, o + n, none⟩ := by unfold Addr.add; split <;> simp_all
theorem run_loadOne {t : Nat} {d : TypeDesc} (hd : P.underlying t = some d) (ha : isAg d = false) {b o : Nat} {v : Value} {w : World} (h : w.cell? ⟨b, o, none⟩ = some v) : (loadVar t ⟨b, o, none⟩).run P w = .ok v w := by
  have e : loadVar t ⟨b, o, none⟩ = (isAgg t).bind (fun x => if x then ((sizeOf t).bind fun k => (loadCells ⟨b, o, none⟩ k).bind fun vs => Sem.pure (Value.agg vs)) else load ⟨b, o, none⟩) := by
    unfold loadVar; rfl
  rw [e, Sem.run_bind', run_isAg hd, ha]
  simp [Result.andThen, load, Sem.run, h]
theorem run_loadAgg {t n : Nat} {d : TypeDesc} (hd : P.underlying t = some d) (ha : isAg d = true) (hn : tySz P t = some n) {b o : Nat} {vs : List Value} {w : World} (hl : vs.length = n)
    (h : ∀ j v, vs[j]? = some v → w.cell? ⟨b, o + j, none⟩ = some v) : (loadVar t ⟨b, o, none⟩).run P w = .ok (.agg vs.toArray) w := by
  have e : loadVar t ⟨b, o, none⟩ = (isAgg t).bind (fun x => if x then ((sizeOf t).bind fun k => (loadCells ⟨b, o, none⟩ k).bind fun vs => Sem.pure (Value.agg vs)) else load ⟨b, o, none⟩) := by
    unfold loadVar; rfl
  rw [e, Sem.run_bind', run_isAg hd, ha]
  simp only [Result.andThen, if_true]
  rw [Sem.run_bind', run_size hn]
  simp only [Result.andThen]
  rw [Sem.run_bind', ← hl, run_loadCells _ vs w (fun j v hj => by rw [add_eq]; exact h j v hj)]
  rfl
end

/-! ### Reading -/
theorem Row.cell {w : World} {p t : Nat} {vs : List Value} {fz : Bool} (h : Row w p t vs fz) {i : Nat} {v : Value} (hv : vs[i]? = some v) : w.cell? ⟨p, i, none⟩ = some v ∧ w.frozen? ⟨p, i, none⟩ = false ∧ i < t := by
  obtain ⟨arr, ty, lo, hi, h1, h2, ⟨sp, h3⟩, h4⟩ := h
  have hi' : i < vs.length := (List.getElem?_eq_some_iff.1 hv).1
  have ha : arr[i]? = some v := by rw [← Array.getElem?_toList, h3, List.getElem?_append_left hi']; exact hv
  have hlt : i < arr.size := (Array.getElem?_eq_some_iff.1 ha).1
  refine ⟨by simp [World.cell?, h1, ha], ?_, by omega⟩
  simp only [World.frozen?, h1]
  rcases h4 with ⟨rfl, rfl⟩ | ⟨_, h4⟩ <;> simp <;> omega
theorem byteCVs_R (σ : Sg) : ∀ (l n : Nat), VRs σ (byteCVs n l) ((bys l n).map bval)
  | 0, _ => by simp [byteCVs, bys, VRs]
  | l + 1, n => by
    simp only [byteCVs, bys, List.map_cons, VRs]
    refine ⟨_, _, rfl, ?_, byteCVs_R σ l (n / 256)⟩
    simp only [VR, bval, kc]
    congr 1
    rw [UInt8.toNat_ofNat']; have : n % 256 < 256 := Nat.mod_lt _ (by decide)
    simp
section
variable {w0 : World} {σ : Sg} {hp : H} {n : Nat} {w : World}
theorem rd1_sound (hR : Rel w0 σ hp n w) {b o p t : Nat} {c : CV} (h : rd1 hp b o = some c) (hs : σ b = some (p, t)) : ∃ v, w.cell? ⟨p, o, none⟩ = some v ∧ VR σ c v := by
  unfold rd1 at h
  split at h
  · rename_i cs hc
    obtain ⟨vs, h1, h2⟩ := hR.at hs hc (by simp)
    obtain ⟨y, hy, hr⟩ := h1.get h
    exact ⟨y, (h2.cell hy).1, hr⟩
  · rename_i l m hc
    obtain ⟨h1, h⟩ := cbif h
    have h1 : o < l := by simpa [Nat.blt_eq] using h1
    cases h
    have h2 := hR.at hs hc (by simp)
    have hb : ((bys l m).map bval)[o]? = some (bval (UInt8.ofNat (bnth m o))) := by rw [List.getElem?_map, bys_get _ _ _ h1]; rfl
    refine ⟨_, (Row.cell h2 hb).1, ?_⟩
    simp only [VR, bval, kc]
    congr 1
    rw [UInt8.toNat_ofNat']; have := bnth_lt m o
    simp; first | done | omega
  · cases h
theorem rdN_sound (hR : Rel w0 σ hp n w) {b o p t m : Nat} {cs : List CV} (h : rdN hp b o m = some cs) (hs : σ b = some (p, t)) :
    ∃ vs, vs.length = m ∧ VRs σ cs vs ∧ ∀ j v, vs[j]? = some v → w.cell? ⟨p, o + j, none⟩ = some v := by
  unfold rdN at h
  split at h
  · rename_i old hc
    obtain ⟨vs, h1, h2⟩ := hR.at hs hc (by simp)
    obtain ⟨h3, h4, _⟩ := (h1.drop (n := o)).take h
    refine ⟨_, by rw [List.length_take]; omega, h3, fun j v hj => ?_⟩
    have hlt := (List.getElem?_eq_some_iff.1 hj).1
    rw [List.getElem?_take_of_lt (by simp at hlt; omega), List.getElem?_drop] at hj
    exact (h2.cell hj).1
  · rename_i l x hc
    obtain ⟨h1, h⟩ := cbif h
    have h1 : o + m ≤ l := by simpa [Nat.ble_eq] using h1
    cases h
    have h2 := hR.at hs hc (by simp)
    refine ⟨_, by rw [List.length_map, bys_len], byteCVs_R σ m (x / pw o), fun j v hj => ?_⟩
    have hlt := (List.getElem?_eq_some_iff.1 hj).1
    rw [List.length_map, bys_len] at hlt
    refine (Row.cell h2 ?_).1
    rw [List.getElem?_map, bys_get _ _ _ hlt] at hj
    rw [List.getElem?_map, bys_get _ _ _ (by omega), ← bnth_div]; exact hj
  · cases h
end
end Go.Cx

/- A run with written-out values: the quiet operations' soundness (second part). -/
set_option linter.unusedVariables false
set_option linter.unusedSimpArgs false
set_option linter.unnecessarySimpa false
namespace Go.Cx
open Go.RowKit (Below)
section
variable {P : Program} {w0 : World} {σ : Sg} {hp : H} {n : Nat} {w : World} {fr : F} {ev : Operand → Value} {k : CV → Res} {φ : Out → Prop}
/-- The operation answers, the world stays, and the run goes on with the answer. -/
def QR (P : Program) (σ : Sg) (w : World) (s : Sem Value) (k : CV → Res) (φ : Out → Prop) : Prop := ∃ c v, s.run P w = .ok v w ∧ VR σ c v ∧ Good (k c) φ
theorem q_load (hR : Rel w0 σ hp n w) (hL : ∀ x, VR σ (lk fr x) (ev x)) {t : Nat} {a : Operand} (h : Good (qLoad P fr hp t a k) φ) : QR P σ w (Instr.loadAt t (ev a)) k φ := by
  unfold qLoad at h
  have ha := hL a
  split at h
  · rename_i b o he
    rw [he] at ha
    simp only [VR] at ha
    obtain ⟨p, u, hs, hv⟩ := ha
    have e : Instr.loadAt t (ev a) = loadVar t ⟨p, o, none⟩ := by rw [hv]; rfl
    split at h
    · rename_i m hA
      obtain ⟨d, h1, h2, h3⟩ := tyA_spec hA
      split at h
      · rename_i cs hc
        obtain ⟨vs, g1, g2, g3⟩ := rdN_sound hR hc hs
        exact ⟨_, _, by rw [e]; exact run_loadAgg h1 h2 h3 g1 g3, by simp only [VR]; exact ⟨vs, g2, rfl⟩, h⟩
      · exact h.no.elim
    · rename_i m hA
      obtain ⟨d, h1, h2, h3⟩ := tyA_spec hA
      split at h
      · rename_i c hc
        obtain ⟨v, g1, g2⟩ := rd1_sound hR hc hs
        exact ⟨_, _, by rw [e]; exact run_loadOne h1 h2 g1, g2, h⟩
      · exact h.no.elim
    · exact h.no.elim
  · exact h.no.elim
theorem q_pick (hL : ∀ x, VR σ (lk fr x) (ev x)) {c a b : Operand} (h : Good (qPick fr c a b k) φ) : ∃ cv v, (do pure (Next.value (if ← asBool (ev c) then ev a else ev b)) : Sem Next).run P w = .ok (.value v) w ∧ VR σ cv v ∧ Good (k cv) φ := by
  unfold qPick at h
  have hc := hL c
  split at h
  · rename_i he; rw [he] at hc; simp only [VR] at hc
    exact ⟨_, _, by rw [hc]; rfl, hL a, h⟩
  · rename_i he; rw [he] at hc; simp only [VR] at hc
    exact ⟨_, _, by rw [hc]; rfl, hL b, h⟩
  · exact h.no.elim

/-! ### Numbers -/
theorem kn_inj {a b : IntKind} (h : kn a = kn b) : a = b := by cases a <;> cases b <;> first | rfl | (simp [kn] at h)
theorem kc_kn (k : IntKind) : kc (kn k) = k := by cases k <;> rfl
theorem kc_lt (k : Nat) : ∃ j, j ≤ 7 ∧ kc k = kc j ∧ hiN k = hiN j ∧ loN k = loN j := by
  by_cases h : k ≤ 7
  · exact ⟨k, h, rfl, rfl, rfl⟩
  · refine ⟨7, Nat.le_refl _, ?_, ?_, ?_⟩ <;> (obtain ⟨m, rfl⟩ : ∃ m, k = m + 8 := ⟨k - 8, by omega⟩) <;> rfl
theorem wrapK_eq (k : Nat) (x : Int) : wrapK k x = (kc k).wrap x := by
  unfold wrapK
  cases hf : fits k x
  · rfl
  simp only [cond_true]
  obtain ⟨j, hj, e1, e2, e3⟩ := kc_lt k
  have hf' : fits j x = true := by unfold fits at *; rw [← e2, ← e3]; exact hf
  rw [e1]
  have hj' : j = 0 ∨ j = 1 ∨ j = 2 ∨ j = 3 ∨ j = 4 ∨ j = 5 ∨ j = 6 ∨ j = 7 := by omega
  have hb : -(loN j : Int) ≤ x ∧ x ≤ (hiN j : Int) := by
    unfold fits at hf'
    cases x with
    | ofNat m => have := Nat.le_of_ble_eq_true hf'; simp; omega
    | negSucc m => have : m < loN j := by simpa [Nat.blt_eq] using hf'
                   omega
  rcases hj' with rfl | rfl | rfl | rfl | rfl | rfl | rfl | rfl <;> simp only [loN, hiN, kc] at hb ⊢ <;> simp [IntKind.wrap, IntKind.bits, IntKind.signed] <;> omega
theorem ibq_iff {a b : Int} : ibq a b = (a == b) := by
  cases a with
  | ofNat a => cases b with
    | ofNat b =>
      simp only [ibq]
      by_cases h : a = b
      · subst h; simp
      · rw [show Nat.beq a b = false by cases hb : Nat.beq a b; rfl; exact absurd (Nat.eq_of_beq_eq_true hb) h]; symm; simp; omega
    | negSucc b => rfl
  | negSucc a => cases b with
    | ofNat b => rfl
    | negSucc b =>
      simp only [ibq]
      by_cases h : a = b
      · subst h; simp
      · rw [show Nat.beq a b = false by cases hb : Nat.beq a b; rfl; exact absurd (Nat.eq_of_beq_eq_true hb) h]; simp [h]
theorem binOp_int (op : BinOp) (t : TypeId) (k : IntKind) (a b : Int) (h1 : op ≠ .shl) (h2 : op ≠ .shr) : binOp op t (.int k a) (.int k b) =
    (match op with
    | .add | .sub | .mul => Op.intArith op k a b
    | .quo | .rem => Op.intDiv op k a b
    | .and | .or | .xor | .andNot => Op.intBits op k a b
    | _ => Op.intCmp op a b) := by
  cases op <;> first | exact absurd rfl h1 | exact absurd rfl h2 | simp [binOp]
def plainV : Value → Bool | .nilIface | .agg _ => false | _ => true
theorem eqGuard_plain (op : BinOp) (t : TypeId) (x y : Operand) (a b : Value) (h : plainV a = true) : eqGuard op t x y a b = pure () := by
  cases op <;> try rfl
  all_goals (cases a <;> first | rfl | (simp [plainV] at h))
theorem run_guard {op : BinOp} {t : TypeId} {x y : Operand} {a b v : Value} {w w' : World} (h : plainV a = true) (hr : (binOp op t a b).run P w = .ok v w') :
    (do eqGuard op t x y a b; binOp op t a b : Sem Value).run P w = .ok v w' := by
  rw [eqGuard_plain op t x y a b h]; exact hr
theorem q_int (t : TypeId) {op : BinOp} {kd : Nat} {a b : Int} (h1 : op ≠ .shl) (h2 : op ≠ .shr) (h : Good (intOp op kd a b k) φ) : QR P σ w (binOp op t (.int (kc kd) a) (.int (kc kd) b)) k φ := by
  have mk : ∀ (v : Int), Good (k (.int kd v)) φ → (binOp op t (.int (kc kd) a) (.int (kc kd) b)).run P w = .ok (.int (kc kd) v) w → QR P σ w (binOp op t (.int (kc kd) a) (.int (kc kd) b)) k φ :=
    fun v hk hr => ⟨_, _, hr, by simp only [VR], hk⟩
  have mkb : ∀ (v : Bool), Good (k (.bool v)) φ → (binOp op t (.int (kc kd) a) (.int (kc kd) b)).run P w = .ok (.bool v) w → QR P σ w (binOp op t (.int (kc kd) a) (.int (kc kd) b)) k φ :=
    fun v hk hr => ⟨_, _, hr, by simp only [VR], hk⟩
  rw [binOp_int op t _ a b h1 h2] at mk mkb ⊢
  cases op <;> simp only [intOp] at h <;> first | exact h.no.elim | skip
  case add => rw [wrapK_eq] at h; exact mk _ h rfl
  case sub => rw [wrapK_eq] at h; exact mk _ h rfl
  case mul => rw [wrapK_eq] at h; exact mk _ h rfl
  case quo =>
    cases hb : ibq b 0
    · rw [hb] at h; simp only [cond_false] at h
      rw [ibq_iff] at hb; have : b ≠ 0 := by simpa using hb
      rw [wrapK_eq] at h; exact mk _ h (by simp [Op.intDiv, this])
    · rw [hb] at h; exact h.no.elim
  case rem =>
    cases hb : ibq b 0
    · rw [hb] at h; simp only [cond_false] at h
      rw [ibq_iff] at hb; have : b ≠ 0 := by simpa using hb
      exact mk _ h (by simp [Op.intDiv, this])
    · rw [hb] at h; exact h.no.elim
  case and => exact mk _ h rfl
  case or => exact mk _ h rfl
  case xor => exact mk _ h rfl
  case andNot => exact mk _ h rfl
  case eql => rw [ibq_iff] at h; exact mkb _ h rfl
  case neq => rw [ibq_iff] at h; exact mkb _ h rfl
  case lss => exact mkb _ h rfl
  case leq => exact mkb _ h rfl
  case gtr => exact mkb _ h rfl
  case geq => exact mkb _ h rfl
theorem q_sh (t : TypeId) {op : BinOp} {kd kd' : Nat} {a b : Int} (ho : op = .shl ∨ op = .shr) (h : Good (shOp op kd a b k) φ) : QR P σ w (binOp op t (.int (kc kd) a) (.int (kc kd') b)) k φ := by
  unfold shOp at h
  split at h
  · exact h.no.elim
  · rename_i m
    have hneg : ¬ ((Int.ofNat m) < 0) := by simp
    rcases ho with rfl | rfl
    · simp only at h; rw [wrapK_eq] at h
      exact ⟨_, _, by simp only [binOp, Op.shift]; rw [if_neg hneg]; rfl, by simp only [VR]; rfl, h⟩
    · simp only at h
      exact ⟨_, _, by simp only [binOp, Op.shift]; rw [if_neg hneg]; rfl, by simp only [VR]; rfl, h⟩

/-! ### Texts -/
theorem ba_toList (a : List UInt8) : (⟨a.toArray⟩ : ByteArray).toList = a := by rw [ByteArray.toList_eq]
theorem bys_beq (l n l' n' : Nat) : (bif Nat.beq l l' then Nat.beq (n % pw l) (n' % pw l) else false) = (bys l n == bys l' n') := by
  cases hl : Nat.beq l l'
  · have : l ≠ l' := fun e => by rw [e, Nat.beq_refl] at hl; cases hl
    simp only [cond_false]
    have hne : bys l n ≠ bys l' n' := fun e => this (by have := congrArg List.length e; rwa [bys_len, bys_len] at this)
    simp [hne]
  · have := Nat.eq_of_beq_eq_true hl; subst this
    simp only [cond_true]
    by_cases h : n % pw l = n' % pw l
    · rw [h, (bys_eq_iff l n n').2 h]; simp
    · have hb : Nat.beq (n % pw l) (n' % pw l) = false := by cases hb : Nat.beq (n % pw l) (n' % pw l); rfl; exact absurd (Nat.eq_of_beq_eq_true hb) h
      have hne : bys l n ≠ bys l n' := fun e => h ((bys_eq_iff l n n').1 e)
      rw [hb]; simp [hne]
theorem ble_less : ∀ (l l' n n' : Nat), bleBytes l l' n n' = Op.bytesLess (bys l n) (bys l' n')
  | 0, 0, _, _ => by simp [bleBytes, bys, Op.bytesLess]
  | _ + 1, 0, _, _ => by simp [bleBytes, bys, Op.bytesLess]
  | 0, _ + 1, _, _ => by simp [bleBytes, bys, Op.bytesLess]
  | l + 1, l' + 1, n, n' => by
    simp only [bleBytes, bys, Op.bytesLess]
    have h1 : n % 256 < 256 := Nat.mod_lt _ (by decide)
    have h2 : n' % 256 < 256 := Nat.mod_lt _ (by decide)
    have e1 : (UInt8.ofNat (n % 256)).toNat = n % 256 := by simp
    have e2 : (UInt8.ofNat (n' % 256)).toNat = n' % 256 := by simp
    have elt : (decide (UInt8.ofNat (n % 256) < UInt8.ofNat (n' % 256))) = Nat.blt (n % 256) (n' % 256) := by
      rw [Bool.eq_iff_iff, decide_eq_true_iff, Nat.blt_eq, UInt8.lt_iff_toNat_lt, e1, e2]
    have eeq : (UInt8.ofNat (n % 256) == UInt8.ofNat (n' % 256)) = Nat.beq (n % 256) (n' % 256) := by
      rw [Bool.eq_iff_iff, beq_iff_eq, Nat.beq_eq, ← UInt8.toNat_inj, e1, e2]
    rw [elt, eeq, ← ble_less l l' (n / 256) (n' / 256)]
    cases Nat.blt (n % 256) (n' % 256) <;> cases Nat.beq (n % 256) (n' % 256) <;> rfl
theorem less_tri : ∀ (x y : List UInt8), (Op.bytesLess x y || (x == y)) = !Op.bytesLess y x
  | [], [] => rfl
  | [], _ :: _ => by simp [Op.bytesLess]
  | _ :: _, [] => by simp [Op.bytesLess]
  | a :: x, b :: y => by
    have ih := less_tri x y
    simp only [Op.bytesLess]
    rcases Nat.lt_trichotomy a.toNat b.toNat with h | h | h
    · have h1 : a < b := UInt8.lt_iff_toNat_lt.2 h
      have h2 : ¬ b < a := fun h' => by have := UInt8.lt_iff_toNat_lt.1 h'; omega
      have h3 : (b == a) = false := by simp; intro e; subst e; omega
      simp [h1, h2, h3]
    · have e : a = b := UInt8.toNat_inj.1 h
      subst e
      have h2 : ¬ a < a := fun h' => by have := UInt8.lt_iff_toNat_lt.1 h'; omega
      simp only [h2, decide_false, beq_self_eq_true, Bool.true_and, Bool.false_or]
      rw [← ih]; simp
    · have h1 : b < a := UInt8.lt_iff_toNat_lt.2 h
      have h2 : ¬ a < b := fun h' => by have := UInt8.lt_iff_toNat_lt.1 h'; omega
      have h3 : a ≠ b := fun e => by subst e; omega
      simp [h1, h2, h3]
theorem q_str (t : TypeId) {op : BinOp} {l m l' m' : Nat} (h : Good (strOp op l m l' m' k) φ) : QR P σ w (binOp op t (.string ⟨(bys l m).toArray⟩) (.string ⟨(bys l' m').toArray⟩)) k φ := by
  have mkb : ∀ (v : Bool), Good (k (.bool v)) φ → (binOp op t (.string ⟨(bys l m).toArray⟩) (.string ⟨(bys l' m').toArray⟩)).run P w = .ok (.bool v) w → QR P σ w (binOp op t (.string ⟨(bys l m).toArray⟩) (.string ⟨(bys l' m').toArray⟩)) k φ :=
    fun v hk hr => ⟨_, _, hr, by simp only [VR], hk⟩
  unfold strOp at h
  cases op <;> simp only at h <;> first | exact h.no.elim | skip
  case add =>
    obtain ⟨hz, h⟩ := h.bif
    refine ⟨_, .string ⟨(bys (l + l') (bcat l m m')).toArray⟩, ?_, by simp only [VR], h⟩
    simp only [binOp, Op.stringOp, ByteArray.size, List.size_toArray, bys_len]
    rw [if_neg (by have := Nat.le_of_ble_eq_true hz; simp [IntKind.max, IntKind.signed, IntKind.bits]; omega)]
    have : (⟨(bys l m).toArray⟩ : ByteArray) ++ ⟨(bys l' m').toArray⟩ = ⟨(bys (l + l') (bcat l m m')).toArray⟩ := by
      apply ByteArray.ext
      rw [ByteArray.data_append, ← bys_cat]; simp
    rw [this]; rfl
  case eql => rw [bys_beq] at h; exact mkb _ h (by simp only [binOp, Op.stringOp, ba_toList]; rfl)
  case neq => rw [bys_beq] at h; exact mkb _ h (by simp only [binOp, Op.stringOp, ba_toList]; rfl)
  case lss => rw [ble_less] at h; exact mkb _ h (by simp only [binOp, Op.stringOp, ba_toList]; rfl)
  case geq => rw [ble_less] at h; exact mkb _ h (by simp only [binOp, Op.stringOp, ba_toList]; rfl)
  case gtr => rw [ble_less] at h; refine mkb _ h ?_; simp only [binOp, Op.stringOp, ba_toList]; rw [less_tri, Bool.not_not]; rfl
  case leq => rw [ble_less] at h; refine mkb _ h ?_; simp only [binOp, Op.stringOp, ba_toList]; rw [less_tri]; rfl
end
end Go.Cx

/- A run with written-out values: the quiet operations' soundness (third part). -/
set_option linter.unusedVariables false
set_option linter.unusedSimpArgs false
set_option linter.unnecessarySimpa false
namespace Go.Cx
open Go.RowKit (Below)
section
variable {P : Program}
theorem fieldAt_run {s : TypeId} {fs : Array Field} {f : Nat} {fd : Field} {n : Nat} (hs : P.underlying s = some (.struct fs)) (hf : fs[f]? = some fd) (hn : tySz P fd.type = some (n + 1)) (b o : Nat) (w : World) :
    (Instr.fieldAt s (.pointer (some ⟨b, o, none⟩)) f).run P w = .ok (.pointer (some ⟨b, o + fd.offset, none⟩)) w := by
  obtain ⟨i, hi, hsz⟩ := tySz_info hn
  simp [Instr.fieldAt, run_underlying hs, hf, Instr.sureAddr, fieldPlace, sizeOf, typeInfo, hi, hsz, add_eq]
theorem sliceBound_run {k : IntKind} {n : Int} {y : Nat} {code : BoundsCode} (h0 : 0 ≤ n) (h1 : n ≤ y) (w : World) : (Instr.sliceBound (.int k n) y code).run P w = .ok n.toNat w := by
  simp [Instr.sliceBound, asIntOf, h0, h1]
theorem sliceBounds_run {lo hi mx : Option Value} {l h m : Nat} {len cap : Nat} {b : Bool} {k1 k2 k3 : IntKind} {x1 x2 x3 : Int}
    (hm : (mx = none ∧ m = cap) ∨ (mx = some (.int k3 x3) ∧ 0 ≤ x3 ∧ x3 ≤ cap ∧ m = x3.toNat))
    (hh : (hi = none ∧ mx = none ∧ h = len) ∨ (hi = some (.int k2 x2) ∧ 0 ≤ x2 ∧ x2 ≤ m ∧ h = x2.toNat))
    (hl : (lo = none ∧ l = 0) ∨ (lo = some (.int k1 x1) ∧ 0 ≤ x1 ∧ x1 ≤ h ∧ l = x1.toNat)) (w : World) :
    (Instr.sliceBounds b len cap lo hi mx).run P w = .ok (l, h, m) w := by
  unfold Instr.sliceBounds
  rcases hm with ⟨rfl, rfl⟩ | ⟨rfl, m1, m2, rfl⟩
  · rcases hh with ⟨rfl, _, rfl⟩ | ⟨rfl, h1, h2, rfl⟩
    · rcases hl with ⟨rfl, rfl⟩ | ⟨rfl, l1, l2, rfl⟩
      · rfl
      · simp [sliceBound_run l1 l2]
    · rcases hl with ⟨rfl, rfl⟩ | ⟨rfl, l1, l2, rfl⟩
      · simp [sliceBound_run h1 h2]
      · simp [sliceBound_run h1 h2, sliceBound_run l1 l2]
  · rcases hh with ⟨rfl, hc, rfl⟩ | ⟨rfl, h1, h2, rfl⟩
    · cases hc
    · rcases hl with ⟨rfl, rfl⟩ | ⟨rfl, l1, l2, rfl⟩
      · simp [sliceBound_run m1 m2, sliceBound_run h1 h2]
      · simp [sliceBound_run m1 m2, sliceBound_run h1 h2, sliceBound_run l1 l2]


theorem zeroValue_run {t : TypeId} {i : TypeInfo} {z : Value} (hi : P.info? t = some i) (hz : i.zero = some z) (w : World) : (zeroValue t).run P w = .ok z w := by
  simp [zeroValue, typeInfo, hi, hz]
variable {w0 : World} {σ : Sg} {hp : H} {n : Nat} {w : World} {fr : F} {ev : Operand → Value} {k : CV → Res} {φ : Out → Prop}
theorem part_sound {t off : Nat} {cs : List CV} {vs : List Value} (hv : VRs σ cs vs) (h : Good (Go.Cx.part P t cs off k) φ) : QR P σ w (Go.part t vs.toArray off) k φ := by
  unfold Go.Cx.part at h
  have e : Go.part t vs.toArray off = (isAgg t).bind (fun x => if x then ((sizeOf t).bind fun k => Sem.pure (Value.agg (vs.toArray.extract off (off + k)))) else match vs.toArray[off]? with | some v => Sem.pure v | none => stuck "part: no such cell") := by
    unfold Go.part; rfl
  split at h
  · rename_i m hA
    obtain ⟨d, h1, h2, h3⟩ := tyA_spec hA
    split at h
    · rename_i r hr
      obtain ⟨g1, g2, g3⟩ := (hv.drop (n := off)).take hr
      refine ⟨_, .agg ((vs.drop off).take m).toArray, ?_, by simp only [VR]; exact ⟨_, g1, rfl⟩, h⟩
      rw [e, Sem.run_bind', run_isAg h1, h2]
      simp only [Result.andThen, if_true]
      rw [Sem.run_bind', run_size h3]
      simp [Result.andThen, Sem.run, List.extract_eq_take_drop]
    · exact h.no.elim
  · rename_i m hA
    obtain ⟨d, h1, h2, h3⟩ := tyA_spec hA
    split at h
    · rename_i c hc
      obtain ⟨y, g1, g2⟩ := hv.get hc
      refine ⟨_, y, ?_, g2, h⟩
      rw [e, Sem.run_bind', run_isAg h1, h2]
      simp [Result.andThen, Sem.run, g1]
    · exact h.no.elim
  · exact h.no.elim
theorem q_fieldA (hL : ∀ x, VR σ (lk fr x) (ev x)) {s f : Nat} {x : Operand} (h : Good (qFieldA P fr s x f k) φ) : QR P σ w (Instr.fieldAt s (ev x) f) k φ := by
  unfold qFieldA at h
  have hx := hL x
  split at h
  · rename_i b o he
    rw [he] at hx; simp only [VR] at hx
    obtain ⟨p, t, hs, hv⟩ := hx
    split at h
    · rename_i fs hd
      split at h
      · rename_i fd hf
        rw [nthL_eq, Array.getElem?_toList] at hf
        split at h
        · rename_i m hm
          exact ⟨_, _, by rw [hv]; exact fieldAt_run (tyD_und hd) hf hm p o w, by simp only [VR]; exact ⟨p, t, hs, rfl⟩, h⟩
        · exact h.no.elim
      · exact h.no.elim
    · exact h.no.elim
  · exact h.no.elim
theorem q_field (hL : ∀ x, VR σ (lk fr x) (ev x)) {t f : Nat} {x : Operand} (h : Good (qField P fr t x f k) φ) : QR P σ w (Instr.field t (ev x) f) k φ := by
  unfold qField at h
  have hx := hL x
  split at h
  · rename_i cs he
    rw [he] at hx; simp only [VR] at hx
    obtain ⟨vs, hvs, hv⟩ := hx
    split at h
    · rename_i fs hd
      split at h
      · rename_i fd hf
        rw [nthL_eq, Array.getElem?_toList] at hf
        obtain ⟨c, v, h1, h2, h3⟩ := part_sound (P := P) (w := w) hvs h
        exact ⟨c, v, by rw [hv]; simp [Instr.field, run_underlying (tyD_und hd), hf, asAgg, h1], h2, h3⟩
      · exact h.no.elim
    · exact h.no.elim
  · exact h.no.elim
theorem int_of (hL : ∀ x, VR σ (lk fr x) (ev x)) {x : Operand} {kd : Nat} {i : Int} (h : lk fr x = .int kd i) : ev x = .int (kc kd) i := by
  have := hL x; rw [h] at this; simpa only [VR] using this
theorem q_indexA (hL : ∀ x, VR σ (lk fr x) (ev x)) {t : Nat} {x ix : Operand} (h : Good (qIndexA P fr t x ix k) φ) : QR P σ w (Instr.indexAt t (ev x) (ev ix)) k φ := by
  unfold qIndexA at h
  split at h
  · rename_i kd i hi
    have hiv := int_of hL hi
    have hx := hL x
    split at h
    · rename_i b o s l kk ex he
      rw [he] at hx; simp only [VR] at hx
      obtain ⟨p, u, o', c, hs, hv, hlk, hkc, hex, ho, hle, heq⟩ := hx
      split at h
      · rename_i e hd
        obtain ⟨hil, h⟩ := h.bif
        have hil : i < l := by simpa [Nat.blt_eq] using hil
        split at h
        · rename_i m hm
          obtain ⟨hsm, h⟩ := h.bif
          have hsm := Nat.eq_of_beq_eq_true hsm
          have ho' : o' = o := ho (.inl (by omega))
          subst ho'
          refine ⟨_, .pointer (some ⟨p, o' + i * s, none⟩), ?_, by simp only [VR]; exact ⟨p, u, hs, rfl⟩, h⟩
          rw [hv, hiv]
          simp [Instr.indexAt, asIntOf, run_underlying (tyD_und hd), run_size hm, add_eq, hil, hsm]
        · exact h.no.elim
      · exact h.no.elim
    · rename_i b o he
      rw [he] at hx; simp only [VR] at hx
      obtain ⟨p, u, hs, hv⟩ := hx
      split at h
      · rename_i m e hd
        obtain ⟨hil, h⟩ := h.bif
        have hil : i < m := by simpa [Nat.blt_eq] using hil
        split at h
        · rename_i z hz
          refine ⟨_, .pointer (some ⟨p, o + i * (z + 1), none⟩), ?_, by simp only [VR]; exact ⟨p, u, hs, rfl⟩, h⟩
          rw [hv, hiv]
          simp [Instr.indexAt, asIntOf, run_underlying (tyD_und hd), run_size hz, add_eq, Instr.sureAddr, hil]
        · exact h.no.elim
      · exact h.no.elim
    · exact h.no.elim
  · exact h.no.elim
theorem bval_bnth (l n i : Nat) (h : i < l) : (⟨(bys l n).toArray⟩ : ByteArray)[i]? = some (UInt8.ofNat (bnth n i)) := by
  have hlt' : i < (⟨(bys l n).toArray⟩ : ByteArray).size := by simpa [ByteArray.size, bys_len] using h
  rw [getElem?_pos (⟨(bys l n).toArray⟩ : ByteArray) i hlt']
  have := bys_get l n i h
  rw [List.getElem?_eq_getElem (by rw [bys_len]; exact h)] at this
  exact this
theorem u8_nat (x : Nat) (h : x < 256) : (UInt8.ofNat x).toNat = x := by simp; omega
theorem q_index (hL : ∀ x, VR σ (lk fr x) (ev x)) {t : Nat} {x ix : Operand} (h : Good (qIndex P fr t x ix k) φ) : QR P σ w (Instr.index t (ev x) (ev ix)) k φ := by
  unfold qIndex at h
  split at h
  · rename_i kd i hi
    have hiv := int_of hL hi
    have hx := hL x
    split at h
    · rename_i l m he
      rw [he] at hx; simp only [VR] at hx
      split at h
      · rename_i hd
        obtain ⟨hil, h⟩ := h.bif
        have hil : i < l := by simpa [Nat.blt_eq] using hil
        refine ⟨_, .int .u8 (bnth m i : Nat), ?_, by simp only [VR]; rfl, h⟩
        rw [hx, hiv]
        have hg := bval_bnth l m i hil
        simp [Instr.index, asIntOf, run_underlying (tyD_und hd), hg, u8_nat _ (bnth_lt m i)]
      · exact h.no.elim
    · rename_i cs he
      rw [he] at hx; simp only [VR] at hx
      obtain ⟨vs, hvs, hv⟩ := hx
      split at h
      · rename_i m e hd
        obtain ⟨hil, h⟩ := h.bif
        have hil : i < m := by simpa [Nat.blt_eq] using hil
        split at h
        · rename_i s hs
          obtain ⟨c, v, h1, h2, h3⟩ := part_sound (P := P) (w := w) hvs h
          exact ⟨c, v, by rw [hv, hiv]; simp [Instr.index, asIntOf, run_underlying (tyD_und hd), hil, run_size hs, h1], h2, h3⟩
        · exact h.no.elim
      · exact h.no.elim
    · exact h.no.elim
  · exact h.no.elim
/-! ### Slices of slices -/
theorem optN_spec (hL : ∀ x, VR σ (lk fr x) (ev x)) {o : Option Operand} {r : Option Nat} (h : optN fr o = some r) : (r = none ∧ o.map ev = none) ∨ ∃ kd m, r = some m ∧ o.map ev = some (.int (kc kd) (m : Int)) := by
  unfold optN at h
  split at h
  · cases h; exact .inl ⟨rfl, rfl⟩
  · rename_i x
    split at h
    · rename_i kd m he
      cases h
      exact .inr ⟨kd, m, rfl, by simp [int_of hL he]⟩
    · cases h
theorem extract_bys (l n a b : Nat) (h : b ≤ l) (h2 : a ≤ b) : (⟨(bys l n).toArray⟩ : ByteArray).extract a b = ⟨(bys (b - a) (bsub n a (b - a))).toArray⟩ := by
  apply ByteArray.ext
  rw [ByteArray.data_extract, ← bys_sub l n a (b - a) (by omega)]
  simp [List.extract_eq_take_drop]
theorem sliceB (hL : ∀ x, VR σ (lk fr x) (ev x)) {lo hi mx : Option Operand} {rl rh rm : Option Nat} (h1 : optN fr lo = some rl) (h2 : optN fr hi = some rh) (h3 : optN fr mx = some rm) (b : Bool) {len cap : Nat}
    (hm : orN cap rm ≤ cap) (hh : orN len rh ≤ orN cap rm) (hl : orN 0 rl ≤ orN len rh) (hmh : rm = none ∨ rh ≠ none) (w : World) :
    (Instr.sliceBounds b len cap (lo.map ev) (hi.map ev) (mx.map ev)).run P w = .ok (orN 0 rl, orN len rh, orN cap rm) w := by
  have k3 := optN_spec hL h3
  have k2 := optN_spec hL h2
  have k1 := optN_spec hL h1
  obtain ⟨kd3, x3, H3⟩ : ∃ (kd3 : IntKind) (x3 : Int), (mx.map ev = none ∧ orN cap rm = cap) ∨ (mx.map ev = some (.int kd3 x3) ∧ 0 ≤ x3 ∧ x3 ≤ cap ∧ orN cap rm = x3.toNat) := by
    rcases k3 with ⟨rfl, e⟩ | ⟨kd, m, rfl, e⟩
    · exact ⟨.i64, 0, .inl ⟨e, rfl⟩⟩
    · exact ⟨_, _, .inr ⟨e, by omega, by simp only [orN] at hm; omega, by simp [orN]⟩⟩
  obtain ⟨kd2, x2, H2⟩ : ∃ (kd2 : IntKind) (x2 : Int), (hi.map ev = none ∧ mx.map ev = none ∧ orN len rh = len) ∨ (hi.map ev = some (.int kd2 x2) ∧ 0 ≤ x2 ∧ x2 ≤ ((orN cap rm : Nat) : Int) ∧ orN len rh = x2.toNat) := by
    rcases k2 with ⟨rfl, e⟩ | ⟨kd, m, rfl, e⟩
    · refine ⟨.i64, 0, .inl ⟨e, ?_, rfl⟩⟩
      rcases hmh with rfl | hc
      · rcases k3 with ⟨_, e3⟩ | ⟨_, _, hc, _⟩
        · exact e3
        · cases hc
      · exact absurd rfl hc
    · exact ⟨_, _, .inr ⟨e, by omega, by simp only [orN] at hh ⊢; omega, by simp [orN]⟩⟩
  obtain ⟨kd1, x1, H1⟩ : ∃ (kd1 : IntKind) (x1 : Int), (lo.map ev = none ∧ orN 0 rl = 0) ∨ (lo.map ev = some (.int kd1 x1) ∧ 0 ≤ x1 ∧ x1 ≤ ((orN len rh : Nat) : Int) ∧ orN 0 rl = x1.toNat) := by
    rcases k1 with ⟨rfl, e⟩ | ⟨kd, m, rfl, e⟩
    · exact ⟨.i64, 0, .inl ⟨e, rfl⟩⟩
    · exact ⟨_, _, .inr ⟨e, by omega, by simp only [orN] at hl ⊢; omega, by simp [orN]⟩⟩
  exact sliceBounds_run H3 H2 H1 w
theorem q_slice (hR : Rel w0 σ hp n w) (hL : ∀ x, VR σ (lk fr x) (ev x)) {t : Nat} {x : Operand} {lo hi mx : Option Operand} (h : Good (qSlice P fr hp t x lo hi mx k) φ) : QR P σ w (Instr.sliceAt t (ev x) (lo.map ev) (hi.map ev) (mx.map ev)) k φ := by
  unfold qSlice at h
  split at h
  · exact h.no.elim
  rename_i rl e1
  split at h
  · exact h.no.elim
  rename_i rh e2
  split at h
  · exact h.no.elim
  rename_i rm e3
  have hx := hL x
  split at h
  · -- text
    rename_i l m he
    rw [he] at hx; simp only [VR] at hx
    split at h
    · rename_i hd
      split at h
      · obtain ⟨g1, h⟩ := h.bif
        obtain ⟨g2, h⟩ := h.bif
        have g1 := Nat.le_of_ble_eq_true g1
        have g2 := Nat.le_of_ble_eq_true g2
        refine ⟨_, .string ⟨(bys (orN l rh - orN 0 rl) (bsub m (orN 0 rl) (orN l rh - orN 0 rl))).toArray⟩, ?_, by simp only [VR], h⟩
        have hmx : mx.map ev = none := by
          rcases optN_spec hL e3 with ⟨_, e⟩ | ⟨_, _, hc, _⟩
          · exact e
          · cases hc
        have hb := sliceB (P := P) hL e1 e2 e3 false (len := l) (cap := l) (by simp [orN]) (by simpa [orN] using g1) g2 (.inl rfl) w
        rw [hmx] at hb ⊢
        have hsz : (⟨(bys l m).toArray⟩ : ByteArray).size = l := by simp [ByteArray.size, bys_len]
        rw [hx]
        have ea : (Instr.sliceAt t (.string ⟨(bys l m).toArray⟩) (lo.map ev) (hi.map ev) none).run P w = (Instr.slice t (.string ⟨(bys l m).toArray⟩) (lo.map ev) (hi.map ev) none).run P w := by
          unfold Instr.sliceAt; simp [run_underlying (tyD_und hd)]
        rw [ea]
        simp [Instr.slice, run_underlying (tyD_und hd), hsz, hb, extract_bys l m _ _ g1 g2]
      · exact h.no.elim
    · exact h.no.elim
  · -- nil
    rename_i he
    rw [he] at hx; simp only [VR] at hx
    split at h
    · rename_i e hd
      split at h
      · rename_i sz hsz
        split at h
        · exact h.no.elim
        · obtain ⟨g1, h⟩ := h.bif
          obtain ⟨g3, h⟩ := h.bif
          have g1 := Nat.eq_of_beq_eq_true g1
          have g3 := Nat.eq_of_beq_eq_true g3
          rw [hx]
          have ea : (Instr.sliceAt t (.slice none 0 0) (lo.map ev) (hi.map ev) (mx.map ev)).run P w = (Instr.slice t (.slice none 0 0) (lo.map ev) (hi.map ev) (mx.map ev)).run P w := by
            unfold Instr.sliceAt; simp [run_underlying (tyD_und hd)]
          have hb := sliceB (P := P) hL e1 e2 e3 true (len := 0) (cap := 0) (by simp [orN]) (by rw [g1]; simp [orN]) (by omega) (.inl rfl) w
          refine ⟨_, .slice none 0 0, ?_, by simp only [VR], h⟩
          rw [ea]
          rw [g1, g3] at hb
          simp only [orN] at hb
          simp [Instr.slice, run_underlying (tyD_und hd), hb, run_size hsz]
      · exact h.no.elim
    · exact h.no.elim
  · -- a pointer to an array
    rename_i b o he
    rw [he] at hx; simp only [VR] at hx
    obtain ⟨p, u, hs, hv⟩ := hx
    split at h
    · rename_i m e hd
      split at h
      · rename_i sz hsz
        split at h
        · exact h.no.elim
        · obtain ⟨g1, h⟩ := h.bif
          obtain ⟨g2, h⟩ := h.bif
          have g1 := Nat.le_of_ble_eq_true g1
          have g2 := Nat.le_of_ble_eq_true g2
          split at h
          · rename_i cs hc
            obtain ⟨g3, h⟩ := h.bif
            have g3 := Nat.le_of_ble_eq_true g3
            obtain ⟨vs, hvs, hrow⟩ := hR.at hs hc (by simp)
            have hfit : cs.length ≤ u := by
              obtain ⟨arr, ty, lo', hi', _, q2, ⟨sp, q3⟩, _⟩ := hrow
              have := congrArg List.length q3
              have h1 := hvs.len
              simp at this; omega
            have hmx : mx.map ev = none := by
              rcases optN_spec hL e3 with ⟨_, e⟩ | ⟨_, _, hc, _⟩
              · exact e
              · cases hc
            have hb := sliceB (P := P) hL e1 e2 e3 false (len := m) (cap := m) (by simp [orN]) (by simpa [orN] using g1) g2 (.inl rfl) w
            simp only [show orN m none = m from rfl] at hb
            have run : (Instr.sliceAt t (ev x) (lo.map ev) (hi.map ev) (mx.map ev)).run P w = .ok (.slice (some ⟨p, if m = orN 0 rl then o else o + orN 0 rl * sz, none⟩) (orN m rh - orN 0 rl) (m - orN 0 rl)) w := by
              rw [hv]
              unfold Instr.sliceAt
              simp [run_underlying (tyD_und hd), Instr.sureAddr, hb, run_size hsz, add_eq]
              split <;> rfl
            refine ⟨_, _, run, ?_, h⟩
            simp only [VR]
            refine ⟨p, u, _, _, hs, rfl, by omega, Nat.le_refl _, fun _ => rfl, fun _ => ?_, ?_, fun e => (by cases e)⟩
            · by_cases hc : m = orN 0 rl
              · rw [if_pos hc, show Nat.beq (orN 0 rl) m = true by rw [Nat.beq_eq]; omega]; rfl
              · rw [if_neg hc, show Nat.beq (orN 0 rl) m = false by cases hq : Nat.beq (orN 0 rl) m; rfl; exact absurd (Nat.eq_of_beq_eq_true hq).symm hc]; rfl
            · by_cases hc : m = orN 0 rl
              · rw [if_pos hc, hc]; simp; omega
              · rw [if_neg hc, Nat.sub_mul]
                have : orN 0 rl * sz ≤ m * sz := Nat.mul_le_mul_right _ (by omega)
                omega
          · exact h.no.elim
      · exact h.no.elim
    · exact h.no.elim
  · -- slice
    rename_i b o s l c ex he
    rw [he] at hx; simp only [VR] at hx
    obtain ⟨p, u, o', cc, hs, hv, hlk, hkc, hex, ho, hle, heq⟩ := hx
    split at h
    · rename_i e hd
      split at h
      · rename_i sz hsz
        obtain ⟨gs, h⟩ := h.bif
        have gs := Nat.eq_of_beq_eq_true gs
        subst gs
        have ea : (Instr.sliceAt t (.slice (some ⟨p, o', none⟩) l cc) (lo.map ev) (hi.map ev) (mx.map ev)).run P w = (Instr.slice t (.slice (some ⟨p, o', none⟩) l cc) (lo.map ev) (hi.map ev) (mx.map ev)).run P w := by
          unfold Instr.sliceAt; simp [run_underlying (tyD_und hd)]
        have run : ∀ L Hh M, (Instr.sliceBounds true l cc (lo.map ev) (hi.map ev) (mx.map ev)).run P w = .ok (L, Hh, M) w →
            (Instr.sliceAt t (ev x) (lo.map ev) (hi.map ev) (mx.map ev)).run P w = .ok (.slice (some ⟨p, if M = L then o' else o' + L * sz, none⟩) (Hh - L) (M - L)) w := by
          intro L Hh M hb
          rw [hv, ea]
          simp [Instr.slice, run_underlying (tyD_und hd), hb, run_size hsz, add_eq]
          split <;> rfl
        split at h
        · obtain ⟨g1, h⟩ := h.bif
          obtain ⟨g2, h⟩ := h.bif
          have g1 := Nat.le_of_ble_eq_true g1
          have g2 := Nat.le_of_ble_eq_true g2
          have hb := sliceB (P := P) hL e1 e2 e3 true (len := l) (cap := cc) (by simp [orN]) (by simp only [orN] at g1 ⊢; omega) g2 (.inl rfl) w
          simp only [show orN cc none = cc from rfl] at hb
          refine ⟨_, _, run _ _ _ hb, ?_, h⟩
          simp only [VR]
          refine ⟨p, u, _, _, hs, rfl, by omega, by omega, fun e => by have := hex e; omega, fun hk => ?_, ?_, fun hex0 hk0 => ?_⟩
          · by_cases hc : cc = orN 0 rl
            · have hc2 : c = cc ∧ ex = true := by
                rcases hk with hk | hk
                · omega
                · exact ⟨(hex hk).symm, hk⟩
              rw [if_pos hc]
              have : Nat.beq (orN 0 rl) c = true := by rw [Nat.beq_eq]; omega
              rw [this]; exact ho (.inr hc2.2)
            · rw [if_neg hc]
              have : Nat.beq (orN 0 rl) c = false := by
                cases hq : Nat.beq (orN 0 rl) c
                · rfl
                · have := Nat.eq_of_beq_eq_true hq
                  rcases hk with hk | hk
                  · omega
                  · have := hex hk; omega
              rw [this]; simp only [cond_false]
              rw [ho (by rcases hk with hk | hk; · exact .inl (by omega)
                         · exact .inr hk)]
          · by_cases hc : cc = orN 0 rl
            · rw [if_pos hc, hc]; simp; have := Nat.zero_le (cc * sz); omega
            · rw [if_neg hc, Nat.sub_mul]
              have : orN 0 rl * sz ≤ cc * sz := Nat.mul_le_mul_right _ (by omega)
              omega
          · have h1 := heq hex0 (by omega)
            rw [if_neg (show ¬ cc = orN 0 rl by omega), Nat.sub_mul]
            have : orN 0 rl * sz ≤ cc * sz := Nat.mul_le_mul_right _ (by omega)
            omega
        · rename_i m hrm
          split at h
          · exact h.no.elim
          · rename_i hh
            obtain ⟨g0, h⟩ := h.bif
            obtain ⟨g1, h⟩ := h.bif
            obtain ⟨g2, h⟩ := h.bif
            obtain ⟨g3, h⟩ := h.bif
            have g1 := Nat.le_of_ble_eq_true g1
            have g2 := Nat.le_of_ble_eq_true g2
            have g3 := Nat.le_of_ble_eq_true g3
            have hoo : o' = o := ho (by
              cases hq : Nat.ble 1 c
              · rw [hq] at g0; exact .inr g0
              · exact .inl (Nat.le_of_ble_eq_true hq))
            subst hoo
            have hb := sliceB (P := P) hL e1 e2 e3 true (len := l) (cap := cc) (by simp only [orN]; omega) (by simp only [orN]; omega) (by simp only [orN] at g3 ⊢; omega) (.inr (by simp)) w
            simp only [show orN cc (some m) = m from rfl, show orN l (some hh) = hh from rfl] at hb
            refine ⟨_, _, run _ _ _ hb, ?_, h⟩
            simp only [VR]
            refine ⟨p, u, _, _, hs, rfl, by omega, Nat.le_refl _, fun _ => rfl, fun _ => ?_, ?_, fun e => (by cases e)⟩
            · by_cases hc : m = orN 0 rl
              · rw [if_pos hc, show Nat.beq (orN 0 rl) m = true by rw [Nat.beq_eq]; omega]; rfl
              · rw [if_neg hc, show Nat.beq (orN 0 rl) m = false by cases hq : Nat.beq (orN 0 rl) m; rfl; exact absurd (Nat.eq_of_beq_eq_true hq).symm hc]; rfl
            · have q1 : m * sz ≤ cc * sz := Nat.mul_le_mul_right _ (by omega)
              by_cases hc : m = orN 0 rl
              · rw [if_pos hc, hc]; simp; omega
              · rw [if_neg hc, Nat.sub_mul]
                have : orN 0 rl * sz ≤ m * sz := Nat.mul_le_mul_right _ (by omega)
                omega
      · exact h.no.elim
    · exact h.no.elim
  · exact h.no.elim
end
end Go.Cx

/- A run with written-out values: the quiet operations' soundness (fourth part). -/
set_option linter.unusedVariables false
set_option linter.unusedSimpArgs false
set_option linter.unnecessarySimpa false
namespace Go.Cx
open Go.RowKit (Below)
section
variable {P : Program} {w0 : World} {σ : Sg} {hp : H} {n : Nat} {w : World} {fr : F} {ev : Operand → Value} {k : CV → Res} {φ : Out → Prop}

/-! ### Constants -/
theorem litCV1_R (v : Value) : VR σ (litCV1 v) v := by
  unfold litCV1
  split <;> simp only [VR, kc_kn]
  rename_i s
  congr 1
  apply ByteArray.ext
  show s.data = _
  rw [bys_ofBytes]
theorem litCVs_R : ∀ (l : List Value), VRs σ (litCVs l) l
  | [] => by simp only [litCVs, VRs]
  | v :: l => by simp only [litCVs, VRs]; exact ⟨v, l, rfl, litCV1_R v, litCVs_R l⟩
theorem litCV_R (v : Value) : VR σ (litCV v) v := by
  unfold litCV
  split
  · rename_i cs; simp only [VR]; exact ⟨cs.toList, litCVs_R _, by simp⟩
  · exact litCV1_R v
theorem zeroC_spec {t : Nat} {z : List CV} (h : zeroC P t = some z) : ∃ i zv, P.info? t = some i ∧ i.zero = some zv ∧ VRs σ z zv.cells.toList := by
  unfold zeroC at h
  split at h
  · rename_i i hi
    split at h
    · rename_i zv hz; cases h; exact ⟨i, zv, tyI_info hi, hz, litCVs_R _⟩
    · cases h
  · cases h
theorem cells_VR {c : CV} {v : Value} (hj : c ≠ .junk) (h : VR σ c v) : VRs σ (cellsOf c) v.cells.toList := by
  unfold cellsOf
  split
  · rename_i cs; simp only [VR] at h; obtain ⟨vs, h1, rfl⟩ := h; simpa [Value.cells] using h1
  · rename_i x hx
    have hc : v.cells = #[v] := by
      cases c <;> simp only [VR] at h
      all_goals first | exact absurd rfl hj | exact absurd rfl (hx _) | (subst h; rfl) | (obtain ⟨_, _, _, rfl⟩ := h; rfl) | (obtain ⟨_, _, rfl⟩ := h; rfl) | (obtain ⟨_, _, _, _, _, rfl, _⟩ := h; rfl) | (obtain ⟨_, _, _, _, rfl⟩ := h; rfl)
    rw [hc]; simp only [VRs]; exact ⟨v, [], rfl, h, rfl⟩

/-! ### Equality -/
theorem bbq_eq (a b : Bool) : bbq a b = (a == b) := by cases a <;> cases b <;> rfl
theorem Row.obj {p t : Nat} {vs : List Value} (h : Row w p t vs false) : ∃ arr ty, w.heap[p]? = some (.cells arr ty (0, 0)) := by
  obtain ⟨arr, ty, lo, hi, h1, _, _, h4⟩ := h
  rcases h4 with ⟨rfl, rfl⟩ | ⟨hc, _⟩
  · exact ⟨arr, ty, h1⟩
  · cases hc
set_option maxHeartbeats 2000000 in
theorem eqCell_sound (hR : Rel w0 σ hp n w) {t : Nat} {d : TypeDesc} (hd : P.underlying t = some d) {a b : CV} {va vb : Value} (ha : VR σ a va) (hb : VR σ b vb) {r : Bool}
    (h : eqCell hp P d a b = some r) (m : Nat) : (Op.equalIn (m + 1) t va vb).run P w = .ok r w := by
  unfold eqCell at h
  split at h
  · -- int
    rename_i kd
    split at h
    · rename_i k x j y
      simp only [VR] at ha hb; subst ha; subst hb
      obtain ⟨h1, h2⟩ := cbif h
      have := Nat.eq_of_beq_eq_true h1; subst this
      cases h2
      rw [run_equalIn_int w m t _ _ _ _ hd, ibq_iff]
    · cases h
  · split at h
    · simp only [VR] at ha hb; subst ha; subst hb; cases h
      rw [run_equalIn_bool w m t _ _ hd, bbq_eq]
    · cases h
  · split at h
    · simp only [VR] at ha hb; subst ha; subst hb; cases h
      rw [run_equalIn_string w m t _ _ hd, bys_beq, ba_toList, ba_toList]
    · cases h
  · -- pointers
    rename_i e
    split at h
    · simp only [VR] at ha hb; subst ha; subst hb; cases h
      simp [Op.equalIn, run_underlying hd]
    · simp only [VR] at ha hb; subst ha; obtain ⟨p, u, _, rfl⟩ := hb; cases h
      simp [Op.equalIn, run_underlying hd]
    · simp only [VR] at ha hb; subst hb; obtain ⟨p, u, _, rfl⟩ := ha; cases h
      simp [Op.equalIn, run_underlying hd]
    · rename_i b o b' o'
      split at h
      · rename_i sz hsz
        simp only [VR] at ha hb; obtain ⟨p, u, hs1, rfl⟩ := ha; obtain ⟨q, v, hs2, rfl⟩ := hb
        have e0 : (Op.equalIn (m + 1) t (.pointer (some ⟨p, o, none⟩)) (.pointer (some ⟨q, o', none⟩))).run P w = (sameAddr ⟨p, o, none⟩ ⟨q, o', none⟩).run P w := by
          simp [Op.equalIn, run_underlying hd, run_size hsz]
        rw [e0]
        cases hbb : Nat.beq b b'
        · rw [hbb] at h
          simp only [cond_false] at h
          have hne : b ≠ b' := fun e => by rw [e, Nat.beq_refl] at hbb; cases hbb
          split at h
          · rename_i c1 hc1
            split at h
            · rename_i c2 hc2
              cases h
              have g1 := hR.at hs1 hc1 (by simp)
              have g2 := hR.at hs2 hc2 (by simp)
              obtain ⟨v1, _, r1⟩ := g1
              obtain ⟨v2, _, r2⟩ := g2
              obtain ⟨a1, t1, o1⟩ := r1.obj
              obtain ⟨a2, t2, o2⟩ := r2.obj
              have hpq : p ≠ q := hR.apart b b' p u q v (hR.old _ _ _ hs1).1 (hR.old _ _ _ hs2).1 (by rw [hc1]; simp) (by rw [hc2]; simp) hne hs1 hs2
              exact run_sameAddr_other w (by intro e; cases e; exact hpq rfl) o1 o2
            · cases h
          · cases h
        · rw [hbb] at h
          have := Nat.eq_of_beq_eq_true hbb; subst this
          rw [hs1] at hs2; cases hs2
          cases h
          by_cases he : o = o'
          · subst he; rw [Nat.beq_refl, run_sameAddr_same]
          · have hf : Nat.beq o o' = false := by cases hq : Nat.beq o o'; rfl; exact absurd (Nat.eq_of_beq_eq_true hq) he
            rw [hf]; simp [sameAddr, he]
      · cases h
    · cases h
  · split at h
    · simp only [VR] at ha hb; subst ha; subst hb; cases h
      simp [Op.equalIn, run_underlying hd]
    · simp only [VR] at ha hb; subst ha; obtain ⟨p, u, o', c, _, rfl, _⟩ := hb; cases h
      simp [Op.equalIn, run_underlying hd]
    · simp only [VR] at ha hb; subst hb; obtain ⟨p, u, o', c, _, rfl, _⟩ := ha; cases h
      simp [Op.equalIn, run_underlying hd]
    · cases h
  · split at h
    · simp only [VR] at ha hb; subst ha; subst hb; cases h
      simp [Op.equalIn, run_underlying hd]
    · simp only [VR] at ha hb; subst ha; obtain ⟨p, u, _, rfl⟩ := hb; cases h
      simp [Op.equalIn, run_underlying hd]
    · simp only [VR] at ha hb; subst hb; obtain ⟨p, u, _, rfl⟩ := ha; cases h
      simp [Op.equalIn, run_underlying hd]
    · cases h
  · split at h
    · simp only [VR] at ha hb; subst ha; subst hb; cases h
      simp [Op.equalIn, run_underlying hd]
    · simp only [VR] at ha hb; subst ha; obtain ⟨_, _, _, _, rfl⟩ := hb; cases h
      simp [Op.equalIn, run_underlying hd]
    · simp only [VR] at ha hb; subst ha; obtain ⟨_, _, rfl⟩ := hb; cases h
      simp [Op.equalIn, run_underlying hd]
    · simp only [VR] at ha hb; subst ha; obtain ⟨_, _, _, rfl⟩ := hb; cases h
      simp [Op.equalIn, run_underlying hd]
    · simp only [VR] at ha hb; subst hb; obtain ⟨_, _, _, _, rfl⟩ := ha; cases h
      simp [Op.equalIn, run_underlying hd]
    · simp only [VR] at ha hb; subst hb; obtain ⟨_, _, rfl⟩ := ha; cases h
      simp [Op.equalIn, run_underlying hd]
    · simp only [VR] at ha hb; subst hb; obtain ⟨_, _, _, rfl⟩ := ha; cases h
      simp [Op.equalIn, run_underlying hd]
    · cases h
  · split at h
    · simp only [VR] at ha hb; subst ha; subst hb; cases h
      simp [Op.equalIn, run_underlying hd]
    · simp only [VR] at ha hb; subst ha; obtain ⟨_, _, rfl⟩ := hb; cases h
      simp [Op.equalIn, run_underlying hd]
    · simp only [VR] at ha hb; subst hb; obtain ⟨_, _, rfl⟩ := ha; cases h
      simp [Op.equalIn, run_underlying hd]
    · rename_i t1 x t2 y
      simp only [VR] at ha hb; obtain ⟨_, _, rfl⟩ := ha; obtain ⟨_, _, rfl⟩ := hb
      cases hq : Nat.beq t1 t2
      · rw [hq] at h; cases h
        have hne : t1 ≠ t2 := fun e => by rw [e, Nat.beq_refl] at hq; cases hq
        simp [Op.equalIn, run_underlying hd, hne]
      · rw [hq] at h; cases h
    · cases h
  · cases h
theorem part_one {t : Nat} {d : TypeDesc} (hd : P.underlying t = some d) (ha : isAg d = false) {vs : List Value} {o : Nat} {v : Value} (h : vs[o]? = some v) : (Go.part t vs.toArray o).run P w = .ok v w := by
  have e : Go.part t vs.toArray o = (isAgg t).bind (fun x => if x then ((sizeOf t).bind fun k => Sem.pure (Value.agg (vs.toArray.extract o (o + k)))) else match vs.toArray[o]? with | some v => Sem.pure v | none => stuck "part: no such cell") := by
    unfold Go.part; rfl
  rw [e, Sem.run_bind', run_isAg hd, ha]
  simp [Result.andThen, Sem.run, h]
theorem flatEq_sound (hR : Rel w0 σ hp n w) {x y : List CV} {vx vy : List Value} (hx : VRs σ x vx) (hy : VRs σ y vy) (m : Nat) : ∀ (fs : List Field) {r : Bool}, flatEq hp P x y fs = some r → (Op.eqFields (m + 1) vx.toArray vy.toArray fs).run P w = .ok r w
  | [], r, h => by cases h; rfl
  | f :: fs, r, h => by
    unfold flatEq at h
    cases hn : (f.name == "_")
    · rw [hn] at h; simp only [cond_false] at h
      have hne : f.name ≠ "_" := by simpa using hn
      split at h
      · rename_i d hd
        have hd := tyD_und hd
        cases hag : isAg d
        · rw [hag] at h; simp only [cond_false] at h
          split at h
          · rename_i a b hca hcb
            obtain ⟨va, g1, g2⟩ := hx.get hca
            obtain ⟨vb, g3, g4⟩ := hy.get hcb
            have p1 := part_one (P := P) (w := w) hd hag g1
            have p2 := part_one (P := P) (w := w) hd hag g3
            split at h
            · rename_i he
              have e1 := eqCell_sound hR hd g2 g4 he m
              simp [Op.eqFields, hne, p1, p2, e1, flatEq_sound hR hx hy m fs h]
            · rename_i he
              cases h
              have e1 := eqCell_sound hR hd g2 g4 he m
              simp [Op.eqFields, hne, p1, p2, e1]
            · cases h
          · cases h
        · rw [hag] at h; cases h
      · cases h
    · rw [hn] at h; cases h
theorem eqVal_sound (hR : Rel w0 σ hp n w) {t : Nat} {a b : CV} {va vb : Value} (ha : VR σ a va) (hb : VR σ b vb) {r : Bool} (h : eqVal P hp t a b = some r) :
    (Op.equal t va vb).run P w = .ok r w ∧ (∀ xs ys, va = .agg xs → vb = .agg ys → P.eqGuardType P.depth t = false) := by
  unfold eqVal at h
  split at h
  · rename_i d hd
    have hd := tyD_und hd
    split at h
    · rename_i fs _
      split at h
      · rename_i x y
        obtain ⟨hg, h⟩ := cbif h
        cases hs : P.stoodInHeld t
        · rw [hs] at hg; simp only [cond_false, Bool.not_eq_true'] at hg
          simp only [VR] at ha hb; obtain ⟨vx, g1, rfl⟩ := ha; obtain ⟨vy, g2, rfl⟩ := hb
          refine ⟨?_, fun _ _ _ _ => hg⟩
          have hf : P.underlying t = some (.struct (P.fieldsOf t)) := by
            have : P.fieldsOf t = fs := by simp [Program.fieldsOf, hd]
            rw [this]; exact hd
          have hff : P.fieldsOf t = fs := by simp [Program.fieldsOf, hd]
          show (Op.equalIn (9999 + 1) t _ _).run P w = _
          rw [run_equalIn_struct w 9999 t _ _ hf hs, hff]
          exact flatEq_sound hR g1 g2 9998 _ h
        · rw [hs] at hg; cases hg
      · cases h
    · rename_i hns
      refine ⟨eqCell_sound hR hd ha hb h 9999, fun xs ys e1 e2 => ?_⟩
      subst e1
      exfalso
      cases a <;> simp only [VR] at ha
      all_goals first | (cases ha; done) | (obtain ⟨_, _, _, hc⟩ := ha; cases hc; done) | (obtain ⟨_, _, hc⟩ := ha; cases hc; done) | (obtain ⟨_, _, _, _, _, hc, _⟩ := ha; cases hc; done) | (obtain ⟨_, _, _, _, hc⟩ := ha; cases hc; done) | skip
      all_goals (unfold eqCell at h; cases d <;> simp at h)
  · cases h
theorem eqVal_junk {t : Nat} {a b : CV} {r : Bool} (h : eqVal P hp t a b = some r) : a ≠ .junk ∧ b ≠ .junk := by
  unfold eqVal at h
  split at h
  · rename_i d hd
    split at h
    · split at h
      · exact ⟨by simp, by simp⟩
      · cases h
    · constructor
      · rintro rfl; unfold eqCell at h; cases d <;> simp at h
      · rintro rfl; unfold eqCell at h; cases d <;> cases a <;> simp at h
  · cases h
theorem nili_of {a : CV} (hj : a ≠ .junk) (ha : VR σ a .nilIface) : a = .nili := by
  cases a <;> simp only [VR] at ha
  all_goals first | rfl | exact absurd rfl hj | (cases ha; done) | (obtain ⟨_, _, _, hc⟩ := ha; cases hc; done) | (obtain ⟨_, _, hc⟩ := ha; cases hc; done) | (obtain ⟨_, _, _, _, _, hc, _⟩ := ha; cases hc; done) | (obtain ⟨_, _, _, _, hc⟩ := ha; cases hc; done)
theorem guard_nil {op : BinOp} {t : Nat} {x y : Operand} (h : isConst x = true ∨ isConst y = true) : (eqGuard op t x y .nilIface .nilIface).run P w = .ok () w := by
  cases op <;> try rfl
  all_goals (cases x <;> cases y <;> first | rfl | (exfalso; rcases h with h | h <;> cases h))
theorem guard_ok (hR : Rel w0 σ hp n w) {op : BinOp} {t : Nat} {x y : Operand} {a b : CV} {va vb : Value} (ha : VR σ a va) (hb : VR σ b vb) {r : Bool} (h : eqVal P hp t a b = some r) (ht : twoNil x y a b = false) :
    (eqGuard op t x y va vb).run P w = .ok () w := by
  have hg := (eqVal_sound hR ha hb h).2
  obtain ⟨j1, j2⟩ := eqVal_junk h
  by_cases h1 : va = .nilIface ∧ vb = .nilIface
  · obtain ⟨rfl, rfl⟩ := h1
    have := nili_of j1 ha; subst this
    have := nili_of j2 hb; subst this
    refine guard_nil ?_
    unfold twoNil at ht
    cases hx : isConst x
    · rw [hx] at ht; simp only [cond_false] at ht; right; simpa using ht
    · exact .inl rfl
  · by_cases h2 : (∃ xs, va = .agg xs) ∧ (∃ ys, vb = .agg ys)
    · obtain ⟨⟨xs, rfl⟩, ⟨ys, rfl⟩⟩ := h2
      exact run_eqGuard_agg w _ t x y _ _ (hg _ _ rfl rfl)
    · cases op <;> try rfl
      all_goals
        cases va <;> cases vb <;> first | rfl | exact absurd ⟨rfl, rfl⟩ h1 | exact absurd ⟨⟨_, rfl⟩, ⟨_, rfl⟩⟩ h2
theorem binOp_eqd {t : Nat} {va vb : Value} (h : ∀ i j x y, va = .int i x → vb = .int j y → False) (h2 : ∀ x y, va = .string x → vb = .string y → False)
    (h3 : ∀ i j x y, va = .float i x → vb = .float j y → False) (h4 : ∀ i j x y z u, va = .complex i x z → vb = .complex j y u → False) :
    binOp .eql t va vb = (do pure (.bool (← Op.equal t va vb))) ∧ binOp .neq t va vb = (do pure (.bool (!(← Op.equal t va vb)))) := by
  cases va <;> cases vb <;> first | exact ⟨rfl, rfl⟩ | exact (h _ _ _ _ rfl rfl).elim | exact (h2 _ _ rfl rfl).elim | exact (h3 _ _ _ _ rfl rfl).elim | exact (h4 _ _ _ _ _ _ rfl rfl).elim
end
end Go.Cx

/- A run with written-out values: the quiet operations' soundness (fifth part: operators, conversions, maps, builtins). -/
set_option linter.unusedVariables false
set_option linter.unusedSimpArgs false
set_option linter.unnecessarySimpa false
namespace Go.Cx
open Go.RowKit (Below)
section
variable {P : Program} {w0 : World} {σ : Sg} {hp : H} {n : Nat} {w : World} {fr : F} {ev : Operand → Value} {k : CV → Res} {φ : Out → Prop}
theorem int_shape {a : CV} (hj : a ≠ .junk) {i : IntKind} {x : Int} (ha : VR σ a (.int i x)) : ∃ k, a = .int k x := by
  cases a <;> simp only [VR] at ha
  all_goals first | exact absurd rfl hj | (cases ha; exact ⟨_, rfl⟩) | (cases ha; done) | (obtain ⟨_, _, _, hc⟩ := ha; cases hc; done) | (obtain ⟨_, _, hc⟩ := ha; cases hc; done) | (obtain ⟨_, _, _, _, _, hc, _⟩ := ha; cases hc; done) | (obtain ⟨_, _, _, _, hc⟩ := ha; cases hc; done)
theorem str_shape {a : CV} (hj : a ≠ .junk) {x : ByteArray} (ha : VR σ a (.string x)) : ∃ l m, a = .str l m := by
  cases a <;> simp only [VR] at ha
  all_goals first | exact absurd rfl hj | exact ⟨_, _, rfl⟩ | (cases ha; done) | (obtain ⟨_, _, _, hc⟩ := ha; cases hc; done) | (obtain ⟨_, _, hc⟩ := ha; cases hc; done) | (obtain ⟨_, _, _, _, _, hc, _⟩ := ha; cases hc; done) | (obtain ⟨_, _, _, _, hc⟩ := ha; cases hc; done)
theorem float_shape {a : CV} (hj : a ≠ .junk) {f : FloatKind} {x : Nat} (ha : VR σ a (.float f x)) : False := by
  cases a <;> simp only [VR] at ha
  all_goals first | exact absurd rfl hj | (cases ha; done) | (obtain ⟨_, _, _, hc⟩ := ha; cases hc; done) | (obtain ⟨_, _, hc⟩ := ha; cases hc; done) | (obtain ⟨_, _, _, _, _, hc, _⟩ := ha; cases hc; done) | (obtain ⟨_, _, _, _, hc⟩ := ha; cases hc; done)
theorem complex_shape {a : CV} (hj : a ≠ .junk) {f : FloatKind} {x y : Nat} (ha : VR σ a (.complex f x y)) : False := by
  cases a <;> simp only [VR] at ha
  all_goals first | exact absurd rfl hj | (cases ha; done) | (obtain ⟨_, _, _, hc⟩ := ha; cases hc; done) | (obtain ⟨_, _, hc⟩ := ha; cases hc; done) | (obtain ⟨_, _, _, _, _, hc, _⟩ := ha; cases hc; done) | (obtain ⟨_, _, _, _, hc⟩ := ha; cases hc; done)
theorem q_bin (hR : Rel w0 σ hp n w) (hL : ∀ x, VR σ (lk fr x) (ev x)) {op : BinOp} {t : Nat} {x y : Operand} (h : Good (qBin P fr hp op t x y k) φ) :
    QR P σ w (do eqGuard op t x y (ev x) (ev y); binOp op t (ev x) (ev y)) k φ := by
  unfold qBin at h
  have hx := hL x
  have hy := hL y
  split at h
  · rename_i kd a kd' b e1 e2
    rw [e1] at hx; rw [e2] at hy
    simp only [VR] at hx hy
    have key : QR P σ w (binOp op t (.int (kc kd) a) (.int (kc kd') b)) k φ := by
      split at h
      · exact q_sh t (.inl rfl) h
      · exact q_sh t (.inr rfl) h
      · rename_i n1 n2
        obtain ⟨g, h2⟩ := h.bif
        have := Nat.eq_of_beq_eq_true g; subst this
        exact q_int t (fun e => n1 e) (fun e => n2 e) h2
    obtain ⟨c, v, g1, g2, g3⟩ := key
    rw [hx, hy]
    exact ⟨c, v, run_guard rfl g1, g2, g3⟩
  · rename_i l m l' m' e1 e2
    rw [e1] at hx; rw [e2] at hy
    simp only [VR] at hx hy
    obtain ⟨c, v, g1, g2, g3⟩ := q_str (P := P) (σ := σ) (w := w) t h
    rw [hx, hy]
    exact ⟨c, v, run_guard rfl g1, g2, g3⟩
  · rename_i n1 n2
    cases ht : twoNil x y (lk fr x) (lk fr y)
    · rw [ht] at h; simp only [cond_false] at h
      have pre : ∀ {r : Bool}, eqVal P hp t (lk fr x) (lk fr y) = some r → binOp .eql t (ev x) (ev y) = (do pure (.bool (← Op.equal t (ev x) (ev y)))) ∧ binOp .neq t (ev x) (ev y) = (do pure (.bool (!(← Op.equal t (ev x) (ev y))))) := fun hr => by
        obtain ⟨j1, j2⟩ := eqVal_junk hr
        refine binOp_eqd (fun i j a b e1 e2 => ?_) (fun a b e1 e2 => ?_) (fun i j a b e1 e2 => ?_) (fun i j a b c d e1 e2 => ?_)
        · rw [e1] at hx; rw [e2] at hy
          obtain ⟨k1, q1⟩ := int_shape j1 hx; obtain ⟨k2, q2⟩ := int_shape j2 hy
          exact n1 _ _ _ _ q1 q2
        · rw [e1] at hx; rw [e2] at hy
          obtain ⟨k1, m1, q1⟩ := str_shape j1 hx; obtain ⟨k2, m2, q2⟩ := str_shape j2 hy
          exact n2 _ _ _ _ q1 q2
        · rw [e1] at hx; exact float_shape j1 hx
        · rw [e1] at hx; exact complex_shape j1 hx
      split at h
      · split at h
        · rename_i r hr
          have e := (eqVal_sound hR hx hy hr).1
          refine ⟨_, .bool r, ?_, by simp only [VR], h⟩
          have g := guard_ok hR hx hy hr ht (op := .eql)
          have e2 : (do eqGuard .eql t x y (ev x) (ev y); binOp .eql t (ev x) (ev y) : Sem Value) = (eqGuard .eql t x y (ev x) (ev y)).bind fun _ => binOp .eql t (ev x) (ev y) := rfl
          rw [e2, Sem.run_bind', g]; simp only [Result.andThen]
          rw [(pre hr).1]
          rw [show (do pure (.bool (← Op.equal t (ev x) (ev y))) : Sem Value) = (Op.equal t (ev x) (ev y)).bind (fun r => Sem.pure (.bool r)) from rfl, Sem.run_bind', e]
          rfl
        · exact h.no.elim
      · split at h
        · rename_i r hr
          have e := (eqVal_sound hR hx hy hr).1
          refine ⟨_, .bool (!r), ?_, by simp only [VR], h⟩
          have g := guard_ok hR hx hy hr ht (op := .neq)
          have e2 : (do eqGuard .neq t x y (ev x) (ev y); binOp .neq t (ev x) (ev y) : Sem Value) = (eqGuard .neq t x y (ev x) (ev y)).bind fun _ => binOp .neq t (ev x) (ev y) := rfl
          rw [e2, Sem.run_bind', g]; simp only [Result.andThen]
          rw [(pre hr).2]
          rw [show (do pure (.bool (!(← Op.equal t (ev x) (ev y)))) : Sem Value) = (Op.equal t (ev x) (ev y)).bind (fun r => Sem.pure (.bool (!r))) from rfl, Sem.run_bind', e]
          rfl
        · exact h.no.elim
      · exact h.no.elim
    · rw [ht] at h; exact h.no.elim
theorem q_un (hL : ∀ x, VR σ (lk fr x) (ev x)) {op : UnOp} {x : Operand} (h : Good (qUn fr op x k) φ) : QR P σ w (Op.unary op (ev x)) k φ := by
  unfold qUn at h
  have hx := hL x
  split at h
  · rename_i b e; rw [e] at hx; simp only [VR] at hx
    exact ⟨_, .bool (!b), by rw [hx]; rfl, by simp only [VR], h⟩
  · rename_i kd m e; rw [e] at hx; simp only [VR] at hx
    rw [wrapK_eq] at h
    exact ⟨_, _, by rw [hx]; rfl, by simp only [VR], h⟩
  · rename_i kd m e; rw [e] at hx; simp only [VR] at hx
    exact ⟨_, _, by rw [hx]; rfl, by simp only [VR], h⟩
  · exact h.no.elim
theorem conv_mem {src dst : Nat} {x : Value} {ds dd : TypeDesc} (h1 : P.underlying src = some ds) (h2 : P.underlying dst = some dd) : True := trivial
theorem q_conv (hR : Rel w0 σ hp n w) (hL : ∀ x, VR σ (lk fr x) (ev x)) {src dst : Nat} {x : Operand} (h : Good (qConv P fr hp src dst x k) φ) : QR P σ w (convert src dst (ev x)) k φ := by
  unfold qConv at h
  have hx := hL x
  split at h
  · rename_i kd k' m hd e; rw [e] at hx; simp only [VR] at hx
    split at h
    · rename_i ds hs
      rw [wrapK_eq, kc_kn] at h
      refine ⟨_, .int kd (kd.wrap m), ?_, by simp only [VR, kc_kn], h⟩
      rw [hx]
      have h1 := tyD_und hd; have h2 := tyD_und hs
      cases ds <;> simp [convert, run_underlying h1, run_underlying h2, Conv.intToInt]
    · exact h.no.elim
  · rename_i l m hd e; rw [e] at hx; simp only [VR] at hx
    split at h
    · rename_i ds hs
      refine ⟨_, .string ⟨(bys l m).toArray⟩, ?_, by simp only [VR], h⟩
      rw [hx]
      have h1 := tyD_und hd; have h2 := tyD_und hs
      cases ds <;> simp [convert, run_underlying h1, run_underlying h2]
    · exact h.no.elim
  · rename_i hd e; rw [e] at hx; simp only [VR] at hx
    split at h
    · rename_i el hs
      obtain ⟨hu, h⟩ := h.bif
      refine ⟨_, .string ⟨(bys 0 0).toArray⟩, ?_, by simp only [VR], h⟩
      rw [hx, run_convert_bytes_string w src dst el none 0 0 (tyD_und hs) (isU8_spec hu) (tyD_und hd)]; rfl
    · exact h.no.elim
  · rename_i b o s l kk ex hd e; rw [e] at hx; simp only [VR] at hx
    obtain ⟨p, u, o', c, hs, hv, hlk, hkc, hex, ho, hle, heq⟩ := hx
    split at h
    · rename_i el hsl
      obtain ⟨hu, h'⟩ := h.bif
      clear h
      split at h'
      · rename_i m y hb
        have hrow := hR.at hs hb (by simp)
        cases hl0 : Nat.beq l 0
        · rw [hl0] at h'; simp only [cond_false] at h'
          obtain ⟨hom, h⟩ := h'.bif
          clear h'
          have hom := Nat.le_of_ble_eq_true hom
          have hl1 : l ≠ 0 := fun e => by rw [e] at hl0; cases hl0
          have hoo := ho (.inl (by omega)); subst hoo
          refine ⟨_, .string ⟨(bys l (bsub y o' l)).toArray⟩, ?_, by simp only [VR], h⟩
          rw [hv]
          have := run_convert_bytes_back (P := P) w src dst el ⟨p, o', none⟩ c (bys l (bsub y o' l)) (tyD_und hsl) (isU8_spec hu) (tyD_und hd) (fun j hj => by
            rw [add_eq]
            rw [bys_len] at hj
            refine (Row.cell hrow ?_).1
            rw [List.getElem?_map]
            have e1 := bys_sub m y o' l hom
            have e2 : (bys m y)[o' + j]? = some (bys l (bsub y o' l))[j] := by
              have : (bys l (bsub y o' l))[j]? = some (bys l (bsub y o' l))[j] := List.getElem?_eq_getElem (by rw [bys_len]; exact hj)
              rw [← this, ← e1, List.getElem?_take_of_lt hj, List.getElem?_drop]
            rw [e2]; rfl)
          rw [bys_len] at this; exact this
        · rw [hl0] at h'; simp only [cond_true] at h'
          have := Nat.eq_of_beq_eq_true hl0; subst this
          refine ⟨_, .string ⟨(bys 0 0).toArray⟩, ?_, by simp only [VR], h'⟩
          rw [hv]
          exact run_convert_bytes_back (P := P) w src dst el ⟨p, o', none⟩ c [] (tyD_und hsl) (isU8_spec hu) (tyD_und hd) (fun j hj => by simp at hj)
      · exact h'.no.elim
    · exact h.no.elim
  · exact h.no.elim
theorem q_extract (hL : ∀ x, VR σ (lk fr x) (ev x)) {t : Operand} {ix : Nat} (h : Good (qExtract fr t ix k) φ) : QR P σ w (Instr.extract (ev t) ix) k φ := by
  unfold qExtract at h
  have hx := hL t
  split at h
  · rename_i vs e; rw [e] at hx; simp only [VR] at hx
    obtain ⟨ws, h1, hv⟩ := hx
    split at h
    · rename_i c hc
      obtain ⟨y, g1, g2⟩ := h1.get hc
      exact ⟨_, y, by rw [hv]; simp [Instr.extract, g1], g2, h⟩
    · exact h.no.elim
  · exact h.no.elim
theorem q_makeI (hL : ∀ x, VR σ (lk fr x) (ev x)) {t : Nat} {x : Operand} (h : Good (qMakeI P fr t x k) φ) : QR P σ w (Instr.makeInterface t (ev x)) k φ := by
  unfold qMakeI at h
  split at h
  · exact h.no.elim
  · rename_i d hni hd
    have h1 := tyD_und hd
    split at h
    · exact h.no.elim
    · refine ⟨_, .iface t (ev x), ?_, by simp only [VR]; exact ⟨_, hL x, rfl⟩, h⟩
      cases d <;> first | exact (hni _ rfl).elim | simp [Instr.makeInterface, run_underlying h1]
  · exact h.no.elim
theorem lks_R (hL : ∀ x, VR σ (lk fr x) (ev x)) : ∀ (l : List Operand), VRs σ (lks fr l) (l.map ev)
  | [] => by simp only [lks, VRs, List.map_nil]
  | x :: l => by simp only [lks, VRs, List.map_cons]; exact ⟨_, _, rfl, hL x, lks_R hL l⟩
theorem amap (a : Array Operand) : a.map ev = (a.toList.map ev).toArray := by apply Array.ext'; simp
theorem q_makeF (hL : ∀ x, VR σ (lk fr x) (ev x)) {fn : Fn} {first caps : Array Operand} (h : Good (qMakeF fr fn first caps k) φ) : QR P σ w (Instr.makeFunc fn (first.map ev) (caps.map ev)) k φ := by
  unfold qMakeF at h
  split at h
  · rename_i f
    exact ⟨_, _, rfl, by simp only [VR]; exact ⟨_, _, lks_R hL _, lks_R hL _, by rw [amap, amap]⟩, h⟩
  · rename_i name
    split at h
    · rename_i x e1 e2
      have hx := hL x
      split at h
      · rename_i t v e
        rw [e] at hx
        have f1 : first = #[x] := by rw [← Array.toArray_toList (xs := first), e1]
        have f2 : caps = #[] := by rw [← Array.toArray_toList (xs := caps), e2]
        subst f1; subst f2
        exact ⟨_, _, rfl, by simp only [VR] at hx ⊢; exact ⟨_, hx, by simp⟩, h⟩
      · exact h.no.elim
    · exact h.no.elim
  · exact h.no.elim
end
end Go.Cx

/- A run with written-out values: the quiet operations' soundness (sixth part: maps, builtins, structs, the whole). -/
set_option linter.unusedVariables false
set_option linter.unusedSimpArgs false
set_option linter.unnecessarySimpa false
namespace Go.Cx
open Go.RowKit (Below)
section
variable {P : Program} {w0 : World} {σ : Sg} {hp : H} {n : Nat} {w : World} {fr : F} {ev : Operand → Value} {k : CV → Res} {φ : Out → Prop}
theorem zeroV_spec {t : Nat} {c : CV} (h : zeroV P t = some c) : ∃ i zv, P.info? t = some i ∧ i.zero = some zv ∧ VR σ c zv := by
  unfold zeroV at h
  split at h
  · rename_i i hi
    split at h
    · rename_i zv hz; cases h; exact ⟨i, zv, tyI_info hi, hz, litCV_R _⟩
    · cases h
  · cases h

/-! ### Maps -/
theorem keyEq_sound {d : TypeDesc} {x y : CV} {vx vy : Value} (hx : VR σ x vx) (hy : VR σ y vy) {b : Bool} (h : keyEq x y = some b)
    (hd : (∃ kd k a, d = .int kd ∧ x = .int k a) ∨ (d = .string ∧ ∃ l m, x = .str l m) ∨ (d = .bool ∧ ∃ a, x = .bool a) ∨ (∃ e, d = .pointer e) ∧ ∃ a o, x = .ptr a o) : Instr.sameNow d vx vy = some b := by
  unfold keyEq at h
  split at h
  · rename_i k a j c
    obtain ⟨h1, h2⟩ := cbif h
    have := Nat.eq_of_beq_eq_true h1; subst this
    cases h2
    simp only [VR] at hx hy; subst hx; subst hy
    rcases hd with ⟨kd, _, _, rfl, _⟩ | ⟨_, _, _, hc⟩ | ⟨_, _, hc⟩ | ⟨_, _, _, hc⟩
    · simp [Instr.sameNow, ibq_iff]
    · cases hc
    · cases hc
    · cases hc
  · simp only [VR] at hx hy; subst hx; subst hy; cases h
    rcases hd with ⟨kd, _, _, rfl, hc⟩ | ⟨_, _, _, hc⟩ | ⟨rfl, _, hc⟩ | ⟨_, _, _, hc⟩
    · cases hc
    · cases hc
    · simp [Instr.sameNow, bbq_eq]
    · cases hc
  · rename_i l m l' m'
    simp only [VR] at hx hy; subst hx; subst hy; cases h
    rcases hd with ⟨kd, _, _, rfl, hc⟩ | ⟨rfl, _, _, hc⟩ | ⟨rfl, _, hc⟩ | ⟨_, _, _, hc⟩
    · cases hc
    · simp only [Instr.sameNow]; rw [beq_toListBytes, ba_toList, ba_toList, bys_beq]
    · cases hc
    · cases hc
  · cases h
def KeyD (d : TypeDesc) (x : CV) : Prop := (∃ kd k a, d = .int kd ∧ x = .int k a) ∨ (d = .string ∧ ∃ l m, x = .str l m) ∨ (d = .bool ∧ ∃ a, x = .bool a) ∨ (∃ e, d = .pointer e) ∧ ∃ a o, x = .ptr a o
theorem keyKind_spec {t : Nat} {x : CV} (h : keyKind P t x = true) : ∃ d, P.underlying t = some d ∧ KeyD d x := by
  unfold keyKind at h
  split at h
  · rename_i hd; exact ⟨_, tyD_und hd, .inl ⟨_, _, _, rfl, rfl⟩⟩
  · rename_i hd; exact ⟨_, tyD_und hd, .inr (.inl ⟨rfl, _, _, rfl⟩)⟩
  · rename_i hd; exact ⟨_, tyD_und hd, .inr (.inr (.inl ⟨rfl, _, rfl⟩))⟩
  · rename_i hd; exact ⟨_, tyD_und hd, .inr (.inr (.inr ⟨⟨_, rfl⟩, _, _, rfl⟩))⟩
  · cases h
theorem checkKey_ok {b : Bool} {kt : TypeId} {d : TypeDesc} {x : CV} (hk : P.underlying kt = some d) (hd : KeyD d x) (v : Value) (w : World) : (Instr.checkKey b 10000 kt v).run P w = .ok () w := by
  rw [show (10000 : Nat) = 9999 + 1 from rfl, Instr.checkKey]
  rcases hd with ⟨_, _, _, rfl, _⟩ | ⟨rfl, _⟩ | ⟨rfl, _⟩ | ⟨⟨_, rfl⟩, _⟩ <;> simp [run_underlying hk]
def Same2 (σ : Sg) : Option (Nat × CV) → Option (Nat × Value) → Prop
  | none, none => True
  | some (j, v), some (j', v') => j = j' ∧ VR σ v v'
  | _, _ => False
theorem findE_sound {d : TypeDesc} {x : CV} {vx : Value} (hx : VR σ x vx) (hd : KeyD d x) : ∀ {es : List Ent} {ms : List MapEntry} {i : Nat} {r : Option (Nat × CV)}, EntsR σ es ms → findE x es i = some r →
    ∃ r', Instr.findNow d vx ms i = some r' ∧ Same2 σ r r'
  | [], ms, i, r, he, h => by cases he; cases h; exact ⟨none, rfl, trivial⟩
  | e :: es, ms, i, r, he, h => by
    unfold EntsR at he
    obtain ⟨m, ns, rfl, h1, h2, h3, h4⟩ := he
    unfold findE at h
    split at h
    · rename_i hk
      cases h
      exact ⟨some (i, m.val), by unfold Instr.findNow; rw [keyEq_sound hx h1 hk hd], rfl, h2⟩
    · rename_i hk
      obtain ⟨r', g1, g2⟩ := findE_sound hx hd h4 h
      exact ⟨r', by unfold Instr.findNow; rw [keyEq_sound hx h1 hk hd]; exact g1, g2⟩
    · cases h
theorem EntsR.len : ∀ {es : List Ent} {ms : List MapEntry}, EntsR σ es ms → es.length = ms.length
  | [], _, h => by cases h; rfl
  | e :: es, _, h => by unfold EntsR at h; obtain ⟨m, ns, rfl, _, _, _, h4⟩ := h; simp [EntsR.len h4]
theorem findKey_run {kt : TypeId} {d : TypeDesc} (hk : P.underlying kt = some d) {v : Value} {ms : List MapEntry} {r : Option (Nat × Value)} (h : Instr.findNow d v ms 0 = some r) (w : World) : (Instr.findKey kt v ms).run P w = .ok r w := by
  simp [Instr.findKey, run_underlying hk, h]
theorem entsOf_sound (hR : Rel w0 σ hp n w) {x : CV} {vx : Value} (hx : VR σ x vx) {es : List Ent} (h : entsOf hp x = some es) :
    ∃ ms : List MapEntry, EntsR σ es ms ∧ ((vx = .map none ∧ ms = []) ∨ ∃ b c, vx = .map (some b) ∧ w.heap[b]? = some (.map ms.toArray c)) := by
  unfold entsOf at h
  split at h
  · simp only [VR] at hx; cases h
    exact ⟨[], rfl, .inl ⟨hx, rfl⟩⟩
  · rename_i b; simp only [VR] at hx
    obtain ⟨p, u, hs, hv⟩ := hx
    split at h
    · rename_i es c hb
      cases h
      obtain ⟨ms, g1, g2⟩ := hR.at hs hb (by simp)
      exact ⟨ms, g1, .inr ⟨p, c, hv, g2⟩⟩
    · cases h
  · cases h
theorem lookup_run {t kt et : TypeId} (ht : P.underlying t = some (.map kt et)) {vx vi : Value} {ms : List MapEntry} (he : (vx = .map none ∧ ms = []) ∨ ∃ b c, vx = .map (some b) ∧ w.heap[b]? = some (.map ms.toArray c))
    (hck : ∀ b, (Instr.checkKey b 10000 kt vi).run P w = .ok () w) {r : Option (Nat × Value)} (hf : (Instr.findKey kt vi ms).run P w = .ok r w) (ok : Bool) :
    (∀ j v, r = some (j, v) → (Instr.lookup t vx vi ok).run P w = .ok (if ok then .tuple #[v, .bool true] else v) w) ∧
    (r = none → ∀ z, (zeroValue et).run P w = .ok z w → (Instr.lookup t vx vi ok).run P w = .ok (if ok then .tuple #[z, .bool false] else z) w) := by
  rcases he with ⟨rfl, rfl⟩ | ⟨b, c, rfl, hb⟩
  · constructor
    · rintro j v rfl; simp [Instr.lookup, run_underlying ht, hck, hf]
    · rintro rfl z hz; simp [Instr.lookup, run_underlying ht, hck, hf, hz]
  · have hg : (getObj b).run P w = .ok (.map ms.toArray c) w := by simp [getObj, Sem.run, hb]
    constructor
    · rintro j v rfl; simp [Instr.lookup, run_underlying ht, hck, hf, hg]
    · rintro rfl z hz; simp [Instr.lookup, run_underlying ht, hck, hf, hg, hz]
theorem VR_ok {ok : Bool} {c : CV} {v : Value} (b : Bool) (h : VR σ c v) : VR σ (bif ok then .tup [c, .bool b] else c) (if ok then .tuple #[v, .bool b] else v) := by
  cases ok
  · simpa using h
  · simp only [cond_true, if_true, VR, VRs]; exact ⟨_, ⟨_, _, rfl, h, _, _, rfl, rfl, rfl⟩, rfl⟩
theorem q_look (hR : Rel w0 σ hp n w) (hL : ∀ x, VR σ (lk fr x) (ev x)) {t : Nat} {x ix : Operand} {ok : Bool} (h : Good (qLook P fr hp t x ix ok k) φ) : QR P σ w (Instr.lookup t (ev x) (ev ix) ok) k φ := by
  unfold qLook at h
  split at h
  · rename_i kt et ht
    obtain ⟨hkk, h2⟩ := h.bif
    clear h
    have ht := tyD_und ht
    obtain ⟨d, hk, hd⟩ := keyKind_spec hkk
    split at h2
    · rename_i es hes
      obtain ⟨ms, g1, g2⟩ := entsOf_sound hR (hL x) hes
      split at h2
      · rename_i j v hf
        obtain ⟨r', g3, g4⟩ := findE_sound (hL ix) hd g1 hf
        cases r' with
        | none => exact g4.elim
        | some p =>
          obtain ⟨j', mv⟩ := p
          exact ⟨_, _, (lookup_run ht g2 (fun b => checkKey_ok hk hd _ w) (findKey_run hk g3 w) ok).1 _ _ rfl, VR_ok true g4.2, h2⟩
      · rename_i hf
        obtain ⟨r', g3, g4⟩ := findE_sound (hL ix) hd g1 hf
        cases r' with
        | some p => exact g4.elim
        | none =>
          split at h2
          · rename_i v hz
            obtain ⟨i, zv, z1, z2, z3⟩ := zeroV_spec hz
            exact ⟨_, _, (lookup_run ht g2 (fun b => checkKey_ok hk hd _ w) (findKey_run hk g3 w) ok).2 rfl _ (zeroValue_run z1 z2 w), VR_ok false z3, h2⟩
          · exact h2.no.elim
      · exact h2.no.elim
    · exact h2.no.elim
  · exact h.no.elim

/-! ### Builtins -/
theorem q_len (hR : Rel w0 σ hp n w) {x : CV} {vx : Value} (hx : VR σ x vx) {t ty : Nat} {ts : Array Nat} (h0 : ts[0]? = some t) (h : Good (qLen P hp x t k) φ) : QR P σ w (Builtin.len_ ts ty #[vx]) k φ := by
  unfold qLen at h
  split at h
  · rename_i l m hd; simp only [VR] at hx; subst hx
    have hz : (⟨(bys l m).toArray⟩ : ByteArray).size = l := by simp [ByteArray.size, bys_len]
    exact ⟨_, .int .i64 l, by simp [Builtin.len_, h0, run_underlying (tyD_und hd), goInt, hz], by simp only [VR]; rfl, h⟩
  · rename_i e hd; simp only [VR] at hx; subst hx
    exact ⟨_, .int .i64 0, by simp [Builtin.len_, h0, run_underlying (tyD_und hd), goInt], by simp only [VR]; rfl, h⟩
  · rename_i e b o s l kk ex hd; simp only [VR] at hx; obtain ⟨_, _, _, _, _, rfl, _⟩ := hx
    exact ⟨_, .int .i64 l, by simp [Builtin.len_, h0, run_underlying (tyD_und hd), goInt], by simp only [VR]; rfl, h⟩
  · rename_i kt e hd; simp only [VR] at hx; subst hx
    exact ⟨_, .int .i64 0, by simp [Builtin.len_, h0, run_underlying (tyD_und hd), goInt], by simp only [VR]; rfl, h⟩
  · rename_i kt e b hd; simp only [VR] at hx; obtain ⟨p, u, hs, rfl⟩ := hx
    split at h
    · rename_i es c hb
      obtain ⟨ms, g1, g2⟩ := hR.at hs hb (by simp)
      have hg : (getObj p).run P w = .ok (.map ms.toArray c) w := by simp [getObj, Sem.run, g2]
      exact ⟨_, .int .i64 es.length, by simp [Builtin.len_, h0, run_underlying (tyD_und hd), goInt, hg, g1.len], by simp only [VR]; rfl, h⟩
    · exact h.no.elim
  · rename_i m e hd
    exact ⟨_, .int .i64 m, by simp [Builtin.len_, h0, run_underlying (tyD_und hd), goInt], by simp only [VR]; rfl, h⟩
  · exact h.no.elim
theorem q_cap {x : CV} {vx : Value} (hx : VR σ x vx) {t ty : Nat} {ts : Array Nat} (h0 : ts[0]? = some t) (h : Good (qCap P x t k) φ) : QR P σ w (Builtin.cap_ ts ty #[vx]) k φ := by
  unfold qCap at h
  split at h
  · rename_i e hd; simp only [VR] at hx; subst hx
    exact ⟨_, .int .i64 0, by simp [Builtin.cap_, h0, run_underlying (tyD_und hd), goInt], by simp only [VR]; rfl, h⟩
  · rename_i e b o s l c hd; simp only [VR] at hx; obtain ⟨_, _, _, cc, _, rfl, _, _, hex, _⟩ := hx
    have := hex trivial; subst this
    exact ⟨_, .int .i64 cc, by simp [Builtin.cap_, h0, run_underlying (tyD_und hd), goInt], by simp only [VR]; rfl, h⟩
  · exact h.no.elim
theorem q_max {x y : CV} {vx vy : Value} (hx : VR σ x vx) (hy : VR σ y vy) {ty : Nat} {ts : Array Nat} (h : Good (qMinMax true x y k) φ) : QR P σ w (Builtin.max_ ts ty #[vx, vy]) k φ := by
  unfold qMinMax at h
  split at h
  · rename_i kd a kd' b
    obtain ⟨_, h2⟩ := h.bif
    simp only [VR] at hx hy; subst hx; subst hy
    exact ⟨_, .int (kc kd) (if b > a then b else a), by simp [Builtin.max_, Builtin.max2], by simp only [VR, cond_true], h2⟩
  · exact h.no.elim
theorem q_min {x y : CV} {vx vy : Value} (hx : VR σ x vx) (hy : VR σ y vy) {ty : Nat} {ts : Array Nat} (h : Good (qMinMax false x y k) φ) : QR P σ w (Builtin.min_ ts ty #[vx, vy]) k φ := by
  unfold qMinMax at h
  split at h
  · rename_i kd a kd' b
    obtain ⟨_, h2⟩ := h.bif
    simp only [VR] at hx hy; subst hx; subst hy
    exact ⟨_, .int (kc kd) (if b < a then b else a), by simp [Builtin.min_, Builtin.min2], by simp only [VR, cond_false], h2⟩
  · exact h.no.elim
theorem args_of {c : Call} {l : List Operand} (h : c.args.toList = l) : c.args.map ev = (l.map ev).toArray := by rw [amap, h]
theorem q_callB (hR : Rel w0 σ hp n w) (hL : ∀ x, VR σ (lk fr x) (ev x)) {c : Call} {b : Builtin} {ty : Nat} (h : Good (qCallB P fr hp b c.args.toList c.argTypes.toList k) φ) {consts : Array Bool} :
    ∃ cv v, (builtin b c.argTypes ty consts (c.args.map ev)).run P w = .ok (.value v) w ∧ VR σ cv v ∧ Good (k cv) φ := by
  unfold qCallB at h
  split at h
  · rename_i x t ts ha ht
    have h0 : c.argTypes[0]? = some t := by rw [← Array.getElem?_toList, ht]; rfl
    obtain ⟨cv, v, g1, g2, g3⟩ := q_len (ty := ty) hR (hL x) h0 h
    refine ⟨cv, v, ?_, g2, g3⟩
    rw [args_of ha]
    exact run_v g1
  · rename_i x t ts ha ht
    have h0 : c.argTypes[0]? = some t := by rw [← Array.getElem?_toList, ht]; rfl
    obtain ⟨cv, v, g1, g2, g3⟩ := q_cap (P := P) (w := w) (ty := ty) (hL x) h0 h
    refine ⟨cv, v, ?_, g2, g3⟩
    rw [args_of ha]
    exact run_v g1
  · rename_i x y ha
    obtain ⟨cv, v, g1, g2, g3⟩ := q_max (P := P) (w := w) (ty := ty) (ts := c.argTypes) (hL x) (hL y) h
    refine ⟨cv, v, ?_, g2, g3⟩
    rw [args_of ha]
    exact run_v g1
  · rename_i x y ha
    obtain ⟨cv, v, g1, g2, g3⟩ := q_min (P := P) (w := w) (ty := ty) (ts := c.argTypes) (hL x) (hL y) h
    refine ⟨cv, v, ?_, g2, g3⟩
    rw [args_of ha]
    exact run_v g1
  · exact h.no.elim

/-! ### Structs -/
theorem foldl_put (off : Nat) : ∀ (vs : List Value) (k : Nat) (cs : Array Value), off + k + vs.length ≤ cs.size →
    ((vs.zipIdx k).foldl (fun cs (p : Value × Nat) => cs.setIfInBounds (off + p.2) p.1) cs).toList = cs.toList.take (off + k) ++ vs ++ cs.toList.drop (off + k + vs.length)
  | [], k, cs, h => by simp
  | v :: vs, k, cs, h => by
    simp only [List.zipIdx_cons, List.foldl_cons]
    rw [foldl_put off vs (k + 1) _ (by simp at h ⊢; omega)]
    simp only [Array.toList_setIfInBounds, List.length_cons]
    simp only [List.length_cons] at h
    have hlt : off + k < cs.toList.length := by simp; omega
    apply List.ext_getElem?
    intro i
    simp only [List.getElem?_append, List.length_take, List.length_append, List.length_set, List.getElem?_take, List.getElem?_drop, List.length_cons, Array.length_toList]
    have hsz : (off + (k + 1)) ≤ cs.size := by omega
    rw [Nat.min_eq_left hsz, Nat.min_eq_left (show off + k ≤ cs.size by omega)]
    by_cases h1 : i < off + k
    · rw [if_pos (show i < off + (k + 1) + vs.length by omega), if_pos (show i < off + (k + 1) by omega), if_pos (show i < off + (k + 1) by omega), if_pos (show i < off + k + (vs.length + 1) by omega), if_pos h1, if_pos h1]
      rw [List.getElem?_set_ne (by omega)]
    · by_cases h2 : i = off + k
      · subst h2
        rw [if_pos (show off + k < off + (k + 1) + vs.length by omega), if_pos (show off + k < off + (k + 1) by omega), if_pos (show off + k < off + (k + 1) by omega), if_pos (show off + k < off + k + (vs.length + 1) by omega), if_neg h1]
        rw [List.getElem?_set_self (by simpa using hlt)]
        simp
      · by_cases h3 : i < off + (k + 1) + vs.length
        · rw [if_pos h3, if_neg (show ¬ i < off + (k + 1) by omega), if_pos (show i < off + k + (vs.length + 1) by omega), if_neg h1]
          rw [show i - (off + k) = (i - (off + (k + 1))) + 1 by omega, List.getElem?_cons_succ]
        · rw [if_neg h3, if_neg (show ¬ i < off + k + (vs.length + 1) by omega)]
          rw [List.getElem?_set_ne (by omega)]
          congr 1; omega
theorem fillC_sound (hL : ∀ x, VR σ (lk fr x) (ev x)) {place : Nat → Option (Nat × Nat)} : ∀ (parts : List (Nat × Operand)) (cs r : List CV) (vs : List Value), VRs σ cs vs → fillC place fr parts cs = some r →
    ∃ ws, Instr.fill place vs.toArray (parts.map fun (i, x) => (i, ev x)) = some ws.toArray ∧ VRs σ r ws
  | [], cs, r, vs, hv, h => by cases h; exact ⟨vs, rfl, hv⟩
  | (i, x) :: rest, cs, r, vs, hv, h => by
    unfold fillC at h
    split at h
    · rename_i off size hpl
      obtain ⟨h1, h4⟩ := cbif h
      have hj : lk fr x ≠ .junk := by intro e; rw [e] at h1; cases h1
      have h1 : (cellsOf (lk fr x)).length = size := by
        split at h1
        · cases h1
        · exact Nat.eq_of_beq_eq_true h1
      have hc := cells_VR hj (hL x)
      split at h4
      · rename_i cs' hov
        obtain ⟨g1, g2⟩ := VRs.put hc hv hov
        obtain ⟨ws, f1, f2⟩ := fillC_sound hL rest cs' r _ g1 h4
        refine ⟨ws, ?_, f2⟩
        have hsz : (ev x).cells.size = size := by rw [← Array.length_toList, ← hc.len, h1]
        simp only [List.map_cons, Instr.fill, hpl]
        rw [if_neg (by rw [hsz]; simp only [Array.length_toList, hsz] at g2; simp; omega)]
        rw [← f1]
        congr 1
        apply Array.ext'
        rw [← Array.foldl_toList, Array.toList_zipIdx]
        have := foldl_put off (ev x).cells.toList 0 vs.toArray (by simp only [List.size_toArray, Array.length_toList] at g2 ⊢; omega)
        simpa using this
      · cases h4
    · cases h
theorem places_of : ∀ (fs : List Field), allSz P fs = true → ∃ places, fs.mapM (fun f => (P.info? f.type).map fun i => (f.offset, i.size)) = some places ∧ ∀ i : Nat, places[i]? = stPlace P fs i
  | [], _ => ⟨[], rfl, by intro i; simp [stPlace, nthL]⟩
  | f :: fs, h => by
    unfold allSz at h
    split at h
    · rename_i n hn
      obtain ⟨pl, h1, h2⟩ := places_of fs h
      obtain ⟨i, hi, rfl⟩ := tySz_info hn
      refine ⟨(f.offset, i.size) :: pl, by simp [List.mapM_cons, hi, h1], ?_⟩
      intro j
      cases j with
      | zero => simp [stPlace, nthL, hn]
      | succ j => simp only [List.getElem?_cons_succ]; rw [h2 j]; rfl
    · cases h
theorem q_build (hL : ∀ x, VR σ (lk fr x) (ev x)) {t : Nat} {parts : Array (Nat × Operand)} (h : Good (qBuild P fr t parts k) φ) : QR P σ w (Instr.build t (parts.map fun (i, x) => (i, ev x))) k φ := by
  unfold qBuild at h
  have hparts : (parts.map fun (i, x) => (i, ev x)).toList = parts.toList.map fun (i, x) => (i, ev x) := by simp
  split at h
  · rename_i z hz
    obtain ⟨i, zv, z1, z2, z3⟩ := zeroC_spec (σ := σ) hz
    split at h
    · rename_i fs hd
      have hu := tyD_und hd
      obtain ⟨ha, h2⟩ := h.bif
      clear h
      split at h2
      · rename_i cs hcs
        obtain ⟨pl, p1, p2⟩ := places_of fs.toList ha
        obtain ⟨ws, f1, f2⟩ := fillC_sound hL _ _ _ _ z3 hcs
        refine ⟨_, .agg ws.toArray, run_build w t _ _ ?_, by simp only [VR]; exact ⟨ws, f2, rfl⟩, h2⟩
        unfold Program.built
        rw [z1, hu]
        simp only [z2, p1, hparts]
        have e1 : (fun x : Nat => pl.toArray[x]?) = stPlace P fs.toList := by
          funext x; simp only [List.getElem?_toArray]; exact p2 x
        rw [e1]
        simpa using f1
      · exact h2.no.elim
    · rename_i m e hd
      have hu := tyD_und hd
      split at h
      · rename_i s hs
        split at h
        · rename_i cs hcs
          obtain ⟨ws, f1, f2⟩ := fillC_sound hL _ _ _ _ z3 hcs
          refine ⟨_, .agg ws.toArray, run_build w t _ _ ?_, by simp only [VR]; exact ⟨ws, f2, rfl⟩, h⟩
          obtain ⟨ie, hie, rfl⟩ := tySz_info hs
          unfold Program.built
          rw [z1, hu]
          simp only [z2, hie, hparts]
          simpa using f1
        · exact h.no.elim
      · exact h.no.elim
    · exact h.no.elim
  · exact h.no.elim

/-! ### Assertions -/
theorem VR_nilI {v : Value} (h : VR σ .nili v) : v = .nilIface := by simpa only [VR] using h
theorem q_assert (hL : ∀ x, VR σ (lk fr x) (ev x)) {t xt : Nat} {x : Operand} {ok : Bool} (h : Good (qAssert P fr x xt t ok k) φ) : QR P σ w (Instr.typeAssert (ev x) xt t ok) k φ := by
  unfold qAssert at h
  have hx := hL x
  have zero : ∀ {v : CV}, zeroV P t = some v → ∃ zv, (zeroValue t).run P w = .ok zv w ∧ VR σ (.tup [v, .bool false]) (.tuple #[zv, .bool false]) := fun hz => by
    obtain ⟨i, zv, z1, z2, z3⟩ := zeroV_spec (σ := σ) hz
    exact ⟨zv, zeroValue_run z1 z2 w, VR_ok (ok := true) false z3⟩
  split at h
  · rename_i want hd
    have hu := tyD_und hd
    split at h
    · rename_i d v e; rw [e] at hx
      have hx' := hx
      simp only [VR] at hx; obtain ⟨y, hy, hv⟩ := hx
      split at h
      · rename_i i hi
        have hi := tyI_info hi
        split at h
        · rename_i hm
          refine ⟨_, _, ?_, VR_ok (ok := ok) true hx', h⟩
          rw [hv]; simp [Instr.typeAssert, run_underlying hu, typeInfo, hi, hm]
        · rename_i m hm
          obtain ⟨hok, h2⟩ := h.bif
          clear h
          subst hok
          split at h2
          · rename_i z hz
            obtain ⟨zv, r1, r2⟩ := zero hz
            refine ⟨_, _, ?_, r2, h2⟩
            rw [hv]; simp [Instr.typeAssert, run_underlying hu, typeInfo, hi, hm, r1]
          · exact h2.no.elim
      · exact h.no.elim
    · rename_i e; rw [e] at hx; have hv := VR_nilI hx
      obtain ⟨hok, h2⟩ := h.bif
      clear h
      subst hok
      split at h2
      · rename_i z hz
        obtain ⟨zv, r1, r2⟩ := zero hz
        refine ⟨_, _, ?_, r2, h2⟩
        rw [hv]; simp [Instr.typeAssert, run_underlying hu, r1]
      · exact h2.no.elim
    · exact h.no.elim
  · rename_i d hni hd
    have hu := tyD_und hd
    split at h
    · rename_i u v e; rw [e] at hx
      simp only [VR] at hx; obtain ⟨y, hy, hv⟩ := hx
      have e0 : (Instr.typeAssert (ev x) xt t ok).run P w = (if u = t then (pure (if ok then .tuple #[y, .bool true] else y) : Sem Value).run P w else (do if ok then pure (.tuple #[← zeroValue t, .bool false]) else runtimePanic (.typeAssertion (some xt) (some u) t "") : Sem Value).run P w) := by
        rw [hv]
        cases d <;> first | exact (hni _ rfl).elim | (by_cases hut : u = t <;> simp [Instr.typeAssert, run_underlying hu, hut])
      cases hq : Nat.beq u t
      · rw [hq] at h; simp only [cond_false] at h
        have hne : u ≠ t := fun e => by rw [e, Nat.beq_refl] at hq; cases hq
        obtain ⟨hok, h2⟩ := h.bif
        clear h
        subst hok
        split at h2
        · rename_i z hz
          obtain ⟨zv, r1, r2⟩ := zero hz
          refine ⟨_, _, ?_, r2, h2⟩
          rw [e0, if_neg hne]; simp [r1]
        · exact h2.no.elim
      · rw [hq] at h; simp only [cond_true] at h
        have := Nat.eq_of_beq_eq_true hq
        refine ⟨_, _, ?_, VR_ok (ok := ok) true hy, h⟩
        rw [e0, if_pos this]; rfl
    · rename_i e; rw [e] at hx; have hv := VR_nilI hx
      obtain ⟨hok, h2⟩ := h.bif
      clear h
      subst hok
      split at h2
      · rename_i z hz
        obtain ⟨zv, r1, r2⟩ := zero hz
        refine ⟨_, _, ?_, r2, h2⟩
        rw [hv]
        cases d <;> first | exact (hni _ rfl).elim | simp [Instr.typeAssert, run_underlying hu, r1]
      · exact h2.no.elim
    · exact h.no.elim
  · exact h.no.elim

/-! ### The whole -/
theorem findM_eq (name : String) : ∀ l : List Method, findM name l = l.find? (fun m => m.name == name)
  | [] => rfl
  | m :: l => by
    unfold findM
    rw [List.find?_cons, findM_eq name l]
    cases m.name == name <;> rfl
theorem nilAhead_run {t f : Nat} {name : String} (h : methodAt P t name = some f) (v : Value) (w : World) : (nilAhead (P.types.size + Made.depth) t v name).run P w = .ok (some false) w := by
  unfold methodAt at h
  split at h
  · rename_i i hi
    have hsz : 0 < P.types.size := by
      unfold tyI at hi
      rw [look_eq, Array.getElem?_toList] at hi
      have := (Array.getElem?_eq_some_iff.1 hi).1; omega
    obtain ⟨fu, hfu⟩ : ∃ fu, P.types.size + Made.depth = fu + 1 := ⟨P.types.size + Made.depth - 1, by omega⟩
    rw [hfu]
    have hi := tyI_info hi
    rw [findM_eq, Array.find?_toList] at h
    split at h
    · rename_i m hm
      split at h
      · rename_i f' e hp hf ht
        simp [nilAhead, typeInfo, hi, hm, hp, followBlind, hf]
      · cases h
      · rename_i f' d hd hp hf ht
        have hu := tyD_und ht
        cases d <;> first | exact (hd _ rfl).elim | exact (hd _ _ rfl).elim | exact (hd _ _ hf rfl).elim | simp [nilAhead, typeInfo, hi, hm, hp, followBlind, hf, run_underlying hu]
      · cases h
    · cases h
  · cases h
theorem qev_sound (hR : Rel w0 σ hp n w) (hL : ∀ x, VR σ (lk fr x) (ev x)) {o : Oper} (h : Good (qev P fr hp o.op k) φ) :
    ∃ c v, (execOp ev o).run P w = .ok (.value v) w ∧ VR σ c v ∧ Good (k c) φ := by
  have fin : ∀ {s : Sem Value}, QR P σ w s k φ → ∃ c v, (do pure (Next.value (← s)) : Sem Next).run P w = .ok (.value v) w ∧ VR σ c v ∧ Good (k c) φ :=
    fun ⟨c, v, h1, h2, h3⟩ => ⟨c, v, run_v h1, h2, h3⟩
  unfold execOp
  generalize ho : o.op = op at h ⊢
  unfold qev at h
  split at h
  · exact ⟨_, _, rfl, hL _, h⟩
  · exact ⟨_, _, rfl, hL _, h⟩
  · exact q_pick hL h
  · exact fin (q_load hR hL h)
  · rename_i x
    unfold qNil at h
    have hx := hL x
    split at h
    · exact h.no.elim
    · exact h.no.elim
    · exact h.no.elim
    · exact h.no.elim
    · rename_i name v he
      split at h
      · rename_i t u
        split at h
        · rename_i f hm
          refine ⟨_, ev x, ?_, ?_, h⟩
          · rw [he] at hx; simp only [VR] at hx
            obtain ⟨y, ⟨z, hz, rfl⟩, hv⟩ := hx
            have hn := fun w => nilAhead_run hm z w
            simp only [hv]
            have e0 : (#[Value.iface t z] : Array Value)[0]? = some (Value.iface t z) := rfl
            simp only [e0]
            simp [Sem.run_bind, run_program, hn]
          · rw [he] at hx; exact hx
        · exact h.no.elim
      · exact h.no.elim
    · rename_i n1 n2 n3 n4 n5
      refine ⟨_, ev x, ?_, hx, h⟩
      simp only
      have key : ∀ v : Value, VR σ (lk fr x) v → ((match v with
        | .pointer none | .nilIface | .nilFunc => runtimePanic .nilDeref
        | .func (.method name) first captured =>
          match (first[0]? : Option Value) with
          | some .nilIface => runtimePanic .nilDeref
          | some (.iface t w) => do
            if (← nilAhead ((← program).types.size + Made.depth) t w name) != some false then
              unsupported (.noEntry "op/nilCheck.the method's receiver behind this interface value is a nil pointer, or cannot be seen to be none, and the arguments act or may panic (ledger 612)")
            pure (.value (.func (.method name) first captured))
          | _ => pure (.value (.func (.method name) first captured))
        | x => pure (.value x) : Sem Next)).run P w = .ok (.value v) w := by
        intro v hx
        cases hc : lk fr x <;> rw [hc] at hx <;> simp only [VR] at hx
        all_goals first
          | exact absurd hc n1 | exact absurd hc n2 | exact absurd hc n3 | exact absurd hc n4 | exact absurd hc (n5 _ _)
          | (subst hx; rfl) | (obtain ⟨_, _, _, _, _, rfl, _⟩ := hx; rfl) | (obtain ⟨_, _, _, _, rfl⟩ := hx; rfl) | (obtain ⟨_, _, _, rfl⟩ := hx; rfl) | (obtain ⟨_, _, rfl⟩ := hx; rfl)
      exact key (ev x) hx
  · exact fin (q_bin hR hL h)
  · exact fin (q_un hL h)
  · exact fin (q_conv hR hL h)
  · exact fin (q_makeI hL h)
  · exact fin (q_makeF hL h)
  · exact fin (q_slice hR hL h)
  · exact fin (q_fieldA hL h)
  · exact fin (q_field hL h)
  · exact fin (q_indexA hL h)
  · exact fin (q_index hL h)
  · exact fin (q_look hR hL h)
  · exact fin (q_assert hL h)
  · exact fin (q_extract hL h)
  · exact fin (q_build hL h)
  · rename_i c
    unfold qCall at h
    split at h
    · rename_i b hb
      obtain ⟨cv, v, g1, g2, g3⟩ := q_callB (ty := o.type) hR hL h (consts := c.args.map fun | .const _ => true | _ => false)
      refine ⟨cv, v, ?_, g2, g3⟩
      simp only [resolve, hb]
      exact g1
    · exact h.no.elim
  · exact h.no.elim
end
end Go.Cx

/- A run with written-out values: the loud operations' soundness (first part: new blocks, stores). -/
set_option linter.unusedVariables false
set_option linter.unusedSimpArgs false
set_option linter.unnecessarySimpa false
namespace Go.Cx
open Go.RowKit (Below)
theorem run_u {P : Program} {s : Sem Unit} {w w' : World} (h : s.run P w = .ok () w') : (do s; pure Next.skip : Sem Next).run P w = .ok .skip w' := by
  have : (do s; pure Next.skip : Sem Next) = s.bind (fun _ => Sem.pure Next.skip) := rfl
  rw [this, Sem.run_bind', h]; rfl
def Nle (n m : Nat) : Prop := idN n ≤ idN m ∧ limN m = limN n
theorem Nle.refl (n : Nat) : Nle n n := ⟨Nat.le_refl _, rfl⟩
theorem Nle.trans {a b c : Nat} (h : Nle a b) (k : Nle b c) : Nle a c := ⟨Nat.le_trans h.1 k.1, k.2.trans h.2⟩
theorem Ex.trans {σ τ υ : Sg} {n m : Nat} (h : Ex n σ τ) (hn : Nle n m) (k : Ex m τ υ) : Ex n σ υ :=
  ⟨h.1.trans k.1, fun i hi => by rw [k.2 i (fun ⟨a, b⟩ => hi ⟨Nat.le_trans hn.1 a, by rw [← hn.2]; exact b⟩), h.2 i hi]⟩

section
variable {P : Program} {w0 : World} {σ : Sg} {hp : H} {n : Nat} {w : World} {fr : F} {ev : Operand → Value} {k : KS} {φ : Out → Prop}
/-- The operation answers in a world that the new memory tells, and the run goes on. -/
def LR (P : Program) (w0 : World) (σ : Sg) (n : Nat) (w : World) (s : Sem Next) (k : KS) (φ : Out → Prop) : Prop :=
  ∃ w' c hp' n' σ', ((∃ v, s.run P w = .ok (.value v) w' ∧ VR σ' c v) ∨ (s.run P w = .ok .skip w' ∧ c = .tup [])) ∧ Rel w0 σ' hp' n' w' ∧ Ex n σ σ' ∧ Nle n n' ∧ Good (k c hp' n') φ
theorem LR.val {s : Sem Value} {w' : World} {c : CV} {v : Value} {hp' : H} {n' : Nat} {σ' : Sg} (h : s.run P w = .ok v w') (hv : VR σ' c v) (hR : Rel w0 σ' hp' n' w') (hx : Ex n σ σ') (hn : Nle n n') (hk : Good (k c hp' n') φ) :
    LR P w0 σ n w (do pure (Next.value (← s)) : Sem Next) k φ := ⟨w', c, hp', n', σ', .inl ⟨v, run_v h, hv⟩, hR, hx, hn, hk⟩
theorem LR.unit {s : Sem Unit} {w' : World} {hp' : H} {n' : Nat} {σ' : Sg} (h : s.run P w = .ok () w') (hR : Rel w0 σ' hp' n' w') (hx : Ex n σ σ') (hn : Nle n n') (hk : Good (k (.tup []) hp' n') φ) :
    LR P w0 σ n w (do s; pure Next.skip : Sem Next) k φ := ⟨w', _, hp', n', σ', .inr ⟨run_u h, rfl⟩, hR, hx, hn, hk⟩
theorem newCk_sound (hR : Rel w0 σ hp n w) {c : Ck} {v : Nat → CV} (h : Good (newCk hp n c v k) φ) (o : Obj) (t : Nat)
    (hc : ∀ τ, Le σ τ → τ (idN n) = some (w.heap.size, t) → holds τ { w with heap := w.heap.push o } w.heap.size t c) :
    ∃ σ', σ' (idN n) = some (w.heap.size, t) ∧ Rel w0 σ' (hset hp (idN n) c) (n + 1) { w with heap := w.heap.push o } ∧ Ex n σ σ' ∧ Nle n (n + 1) ∧ Good (k (v (idN n)) (hset hp (idN n) c) (n + 1)) φ := by
  unfold newCk at h
  obtain ⟨h1, h2⟩ := h.bif
  have h1 : idN n < limN n := by simpa [Nat.blt_eq] using h1
  obtain ⟨e1, e2⟩ := idN_lt h1 hR.lim
  have hf : σ (idN n) = none := hR.fresh _ (Nat.le_refl _) h1
  refine ⟨_, updS_self _ _ _, hR.new (by have := hR.lim; omega) hf o hc e2 (fun j hj _ => ⟨by omega, by omega⟩), ⟨Le.upd hf, fun i hi => ?_⟩, ⟨by omega, e2⟩, h2⟩
  unfold updS
  rw [if_neg (fun e => hi ⟨by omega, by omega⟩)]
theorem Row.new {w : World} {vs : List Value} {arr : Array Value} {ty : TypeId} {fz : Bool} {spare : List Value} (h : arr.toList = vs ++ spare) : Row { w with heap := w.heap.push (.cells arr ty) } w.heap.size arr.size vs fz :=
  ⟨arr, ty, 0, 0, heap_push w _, rfl, ⟨spare, h⟩, .inl ⟨rfl, rfl⟩⟩
theorem run_newRow (t : TypeId) (cells : Array Value) (w : World) : (newRow t cells).run P w = .ok ⟨w.heap.size, 0, none⟩ { w with heap := w.heap.push (.cells cells t) } := by
  simp [newRow, newObj, Sem.run]
theorem run_newVar (t : TypeId) (v : Value) (w : World) : (newVar t v).run P w = .ok ⟨w.heap.size, 0, none⟩ { w with heap := w.heap.push (.cells v.cells t) } := run_newRow t v.cells w
theorem l_newPtr (hR : Rel w0 σ hp n w) {cs : List CV} {v : Value} {t : TypeId} (hc : VRs σ cs v.cells.toList) (h : Good (newPtr hp n cs k) φ) :
    LR P w0 σ n w (do pure (Next.value (← (do pure (.pointer (some (← newVar t v))) : Sem Value))) : Sem Next) k φ := by
  obtain ⟨σ', s1, s2, s3, s4, s5⟩ := newCk_sound hR h (.cells v.cells t) v.cells.size (fun τ hle _ => ⟨_, hc.mono hle, Row.new (spare := []) (by simp)⟩)
  exact LR.val (v := .pointer (some ⟨w.heap.size, 0, none⟩)) (by simp [run_newVar]) (by simp only [VR]; exact ⟨_, _, s1, rfl⟩) s2 s3 s4 s5
theorem l_alloc (hR : Rel w0 σ hp n w) {t : Nat} (h : Good (lAlloc P hp n t k) φ) : LR P w0 σ n w (do pure (Next.value (← Instr.alloc t true (.tuple #[]))) : Sem Next) k φ := by
  unfold lAlloc at h
  split at h
  · rename_i cs hz
    obtain ⟨i, zv, z1, z2, z3⟩ := zeroC_spec (σ := σ) hz
    have := l_newPtr (P := P) (t := t) hR z3 h
    have e : ∀ w, (Instr.alloc t true (.tuple #[])).run P w = (do pure (.pointer (some (← newVar t zv))) : Sem Value).run P w := by
      intro w; simp [Instr.alloc, zeroValue_run z1 z2]
    obtain ⟨w', c, hp', n', σ', h1, h2⟩ := this
    refine ⟨w', c, hp', n', σ', ?_, h2⟩
    rcases h1 with ⟨v, hv, hr⟩ | ⟨hv, hr⟩
    · refine .inl ⟨v, ?_, hr⟩
      rw [← hv]
      show (Sem.bind _ _).run P w = (Sem.bind _ _).run P w
      rw [Sem.run_bind', Sem.run_bind', e]
    · refine .inr ⟨?_, hr⟩
      rw [← hv]
      show (Sem.bind _ _).run P w = (Sem.bind _ _).run P w
      rw [Sem.run_bind', Sem.run_bind', e]
  · exact h.no.elim
theorem l_box (hR : Rel w0 σ hp n w) (hL : ∀ x, VR σ (lk fr x) (ev x)) {t : Nat} {x : Operand} (h : Good (lBox fr hp n t x k) φ) : LR P w0 σ n w (do pure (Next.value (← Instr.box t (ev x))) : Sem Next) k φ := by
  unfold lBox at h
  split at h
  · exact h.no.elim
  · rename_i hj
    exact l_newPtr hR (cells_VR hj (hL x)) h

/-! ### Writing -/
theorem oneCell_of : ∀ {cs : List CV} {vs : List Value}, VRs σ cs vs → allCell cs = true → ∀ v ∈ vs, v.oneCell' = true
  | [], vs, h, _, v, hv => by simp only [VRs] at h; subst h; cases hv
  | c :: cs, vs, h, ha, v, hv => by
    simp only [VRs] at h; obtain ⟨u, ws, rfl, h1, h2⟩ := h
    unfold allCell at ha
    cases hc : cellOk c
    · rw [hc] at ha; cases ha
    · rw [hc] at ha; simp only [cond_true] at ha
      rcases List.mem_cons.1 hv with rfl | hv
      · cases c <;> simp only [VR] at h1 <;> first | (cases hc; done) | (subst h1; rfl) | (obtain ⟨_, _, _, _, _, rfl, _⟩ := h1; rfl) | (obtain ⟨_, _, _, _, rfl⟩ := h1; rfl) | (obtain ⟨_, _, _, rfl⟩ := h1; rfl) | (obtain ⟨_, _, rfl⟩ := h1; rfl)
      · exact oneCell_of h2 ha v hv
theorem run_storeCells_row (g o : Nat) (t : TypeId) (fz : Nat × Nat) : ∀ (vs : List Value) (i : Nat) (cur : Array Value) (w : World), w.heap[g]? = some (.cells cur t fz) → (fz = (0, 0) ∨ cur.size ≤ fz.1) → o + i + vs.length ≤ cur.size → (∀ v ∈ vs, v.oneCell' = true) →
    (storeCells ⟨g, o, none⟩ vs i).run P w = .ok () (w.setRow g (cur.toList.take (o + i) ++ vs ++ cur.toList.drop (o + i + vs.length)).toArray)
  | [], i, cur, w, hg, _, _, _ => by
    simp only [storeCells, List.append_nil, List.length_nil, Nat.add_zero, List.take_append_drop, Array.toArray_toList]
    rw [setRow_self w g cur t fz hg]
    rfl
  | v :: rest, i, cur, w, hg, hfz, hl, h1 => by
    have hi : o + i < cur.size := by simp at hl; omega
    have hcell : w.cell? ⟨g, o + i, none⟩ = some cur[o + i] := by simp [World.cell?, hg, hi]
    have hfro : w.frozen? ⟨g, o + i, none⟩ = false := by
      obtain ⟨lo, hi'⟩ := fz
      simp only [World.frozen?, hg]
      rcases hfz with h | h
      · cases h; simp
      · simp at h ⊢; omega
    have hst : (store ((⟨g, o, none⟩ : Addr).add i) v).run P w = .ok () (w.setRow g (cur.setIfInBounds (o + i) v)) := by
      rw [add_eq, run_store P w _ v _ (h1 v (by simp)), hcell]
      simp [hfro, setCell_eq_setRow w g (o + i) cur t fz v hg]
    have ih := run_storeCells_row g o t fz rest (i + 1) (cur.setIfInBounds (o + i) v) (w.setRow g (cur.setIfInBounds (o + i) v)) (setRow_heap w g cur _ t _ hg) (by simpa using hfz) (by simp at hl ⊢; omega) (fun x hx => h1 x (by simp [hx]))
    simp only [storeCells, Sem.run_bind, hst, Result.andThen_ok, ih, setRow_setRow]
    congr 3
    have e := list_seg_step cur.toList (o + i) v rest (by simp at hl ⊢; omega)
    simpa [Array.toList_setIfInBounds, Nat.add_assoc] using e
theorem setRow_other (w : World) (g k : Nat) (cs : Array Value) (h : k ≠ g) : (w.setRow g cs).heap[k]? = w.heap[k]? := by
  unfold World.setRow
  show (w.heap.modify g _)[k]? = _
  rw [Array.getElem?_modify, if_neg (fun e => h e.symm)]
theorem setRow_size (w : World) (g : Nat) (cs : Array Value) : (w.setRow g cs).heap.size = w.heap.size := by
  unfold World.setRow; simp
/-- Writing into a row. -/
theorem Row.write {p t : Nat} {vs : List Value} {fz : Bool} (h : Row w p t vs fz) {o : Nat} {new : List Value} (h1 : o ≤ vs.length) (hfit : o + new.length ≤ t) (hone : ∀ v ∈ new, v.oneCell' = true) :
    ∃ w', (storeCells ⟨p, o, none⟩ new).run P w = .ok () w' ∧ Row w' p t (vs.take o ++ new ++ vs.drop (o + new.length)) fz ∧ w'.heap.size = w.heap.size ∧ (∀ k, k ≠ p → w'.heap[k]? = w.heap[k]?) ∧
      w'.os = w.os ∧ w'.tape = w.tape ∧ w'.output = w.output := by
  obtain ⟨arr, ty, lo, hi, g1, g2, ⟨sp, g3⟩, g4⟩ := h
  have hfz : (lo, hi) = (0, 0) ∨ arr.size ≤ (lo, hi).1 := by
    rcases g4 with ⟨rfl, rfl⟩ | ⟨_, g⟩
    · exact .inl rfl
    · exact .inr (by rw [g2]; exact g)
  have hr := run_storeCells_row (P := P) p o ty (lo, hi) new 0 arr w g1 hfz (by rw [g2]; omega) hone
  refine ⟨_, hr, ⟨_, ty, lo, hi, setRow_heap w p arr _ ty _ g1, ?_, ⟨sp.drop (o + new.length - vs.length), ?_⟩, g4⟩, setRow_size _ _ _, fun k hk => setRow_other _ _ _ _ hk, rfl, rfl, rfl⟩
  · have : arr.toList.length = t := by simpa using g2
    simp only [List.size_toArray, List.length_append, List.length_take, List.length_drop, Nat.add_zero]; omega
  · simp only [Nat.add_zero]
    rw [g3, List.take_append_of_le_length h1, List.drop_append, List.append_assoc, List.append_assoc, List.append_assoc]
theorem cvByte_spec {c : CV} {x : Nat} (h : cvByte c = some x) : c = .int 4 (.ofNat x) ∧ x < 256 := by
  unfold cvByte at h
  split at h
  · rename_i m
    obtain ⟨h1, h2⟩ := cbif h
    cases h2
    have := Nat.le_of_ble_eq_true h1
    exact ⟨rfl, by omega⟩
  · cases h
theorem cvBytes_spec : ∀ {cs : List CV} {x : Nat} {vs : List Value}, cvBytes cs = some x → VRs σ cs vs → vs = (bys cs.length x).map bval
  | [], x, vs, h, hv => by simp only [VRs] at hv; subst hv; rfl
  | c :: cs, x, vs, h, hv => by
    simp only [VRs] at hv; obtain ⟨u, ws, rfl, h1, h2⟩ := hv
    unfold cvBytes at h
    split at h
    · rename_i y hy
      split at h
      · rename_i z hz
        cases h
        obtain ⟨rfl, hlt⟩ := cvByte_spec hy
        have ih := cvBytes_spec hz h2
        simp only [VR] at h1; subst h1
        simp only [List.length_cons, bys, List.map_cons]
        rw [show (y + 256 * z) % 256 = y by omega, show (y + 256 * z) / 256 = z by omega, ← ih]
        congr 1
        simp only [bval, kc]; congr 1; rw [u8_nat y hlt]; rfl
      · cases h
    · cases h
theorem bval_one (l : List UInt8) : ∀ v ∈ l.map bval, v.oneCell' = true := by
  intro v hv; obtain ⟨b, _, rfl⟩ := List.mem_map.1 hv; rfl
theorem wrN_sound (hR : Rel w0 σ hp n w) {b o p t : Nat} {cs : List CV} {vs : List Value} {hp' : H} (h : wrN hp b o cs = some hp') (hs : σ b = some (p, t)) (hv : VRs σ cs vs) :
    ∃ w', (storeCells ⟨p, o, none⟩ vs).run P w = .ok () w' ∧ Rel w0 σ hp' n w' := by
  unfold wrN at h
  split at h
  · rename_i old hc
    obtain ⟨ha, h⟩ := cbif h
    split at h
    · rename_i new hn
      cases h
      obtain ⟨ws, h1, h2⟩ := hR.at hs hc (by simp)
      obtain ⟨g1, g2⟩ := VRs.put hv h1 hn
      have hle : ws.length ≤ t := by obtain ⟨arr, _, _, _, _, q1, ⟨sp, q2⟩, _⟩ := h2; have := congrArg List.length q2; simp at this; omega
      obtain ⟨w', r1, r2, r3, r4, r5, r6, r7⟩ := h2.write (P := P) (o := o) (new := vs) (by omega) (by omega) (oneCell_of hv ha)
      exact ⟨w', r1, hR.upd hs (by rw [hc]; simp) r3 r4 r5 r6 r7 ⟨_, g1, r2⟩⟩
    · cases h
  · rename_i l m hc
    obtain ⟨ha, h⟩ := cbif h
    have ha := Nat.le_of_ble_eq_true ha
    split at h
    · rename_i x hx
      cases h
      have h2 := hR.at hs hc (by simp)
      have hvs := cvBytes_spec hx hv
      have hvl : vs.length = cs.length := hv.len.symm
      have hle : l ≤ t := by obtain ⟨arr, _, _, _, _, q1, ⟨sp, q2⟩, _⟩ := h2; have := congrArg List.length q2; simp [bys_len] at this; omega
      obtain ⟨w', r1, r2, r3, r4, r5, r6, r7⟩ := Row.write (P := P) (o := o) (new := vs) h2 (by simp [bys_len]; omega) (by omega) (by rw [hvs]; exact bval_one _)
      refine ⟨w', r1, hR.upd hs (by rw [hc]; simp) r3 r4 r5 r6 r7 ?_⟩
      show Row w' p t ((bys l (bput m o cs.length x l)).map bval) true
      rw [bys_put _ _ _ _ _ ha, List.map_append, List.map_append, ← hvs, List.map_take, List.map_drop, ← hvl]
      exact r2
    · cases h
  · cases h
theorem l_store (hR : Rel w0 σ hp n w) (hL : ∀ x, VR σ (lk fr x) (ev x)) {t : Nat} {a x : Operand} (h : Good (lStore P fr hp n t a x k) φ) : LR P w0 σ n w (do Instr.storeAt t (ev a) (ev x); pure Next.skip : Sem Next) k φ := by
  unfold lStore at h
  have ha := hL a
  split at h
  · rename_i b o he
    rw [he] at ha; simp only [VR] at ha
    obtain ⟨p, u, hs, hv⟩ := ha
    split at h
    · rename_i sz hsz
      split at h
      · exact h.no.elim
      · rename_i hj
        obtain ⟨h1, h2⟩ := h.bif
        clear h
        have h1 := Nat.eq_of_beq_eq_true h1
        have hc := cells_VR hj (hL x)
        split at h2
        · rename_i hp' hw
          obtain ⟨w', r1, r2⟩ := wrN_sound (P := P) hR hw hs hc
          refine LR.unit (w' := w') ?_ r2 (Ex.refl _ _) (Nle.refl _) h2
          rw [hv]
          have hsize : (ev x).cells.size = sz := by rw [← Array.length_toList, ← hc.len, h1]
          simp [Instr.storeAt, Instr.sureAddr, storeVar, run_size hsz, hsize, r1]
        · exact h2.no.elim
    · exact h.no.elim
  · exact h.no.elim
end
end Go.Cx

/- A run with written-out values: the loud operations' soundness (second part: slices, maps). -/
set_option linter.unusedVariables false
set_option linter.unusedSimpArgs false
set_option linter.unnecessarySimpa false
namespace Go.Cx
open Go.RowKit (Below)
theorem range_mod (z : List Value) : ∀ n : Nat, (List.range (n * z.length)).map (fun i => z[i % z.length]!) = (List.replicate n z).flatten
  | 0 => by simp
  | n + 1 => by
    rw [Nat.succ_mul, Nat.add_comm, List.range_add, List.map_append, List.replicate_succ, List.flatten_cons, ← range_mod z n]
    congr 1
    · apply List.ext_getElem (by simp)
      intro i h1 h2
      simp at h1
      simp [Nat.mod_eq_of_lt h2, h2]
    · rw [List.map_map]
      apply List.map_congr_left
      intro i _
      simp
theorem range_mod_arr (z : Array Value) (n : Nat) : ((Array.range (n * z.size)).map (fun i => z[i % z.size]!)).toList = (List.replicate n z.toList).flatten := by
  rw [← range_mod]
  simp [Array.toList_map, Array.toList_range]
  intro a _
  rw [getElem!_def]
  split <;> simp_all
section
variable {P : Program} {w0 : World} {σ : Sg} {hp : H} {n : Nat} {w : World} {fr : F} {ev : Operand → Value} {k : KS} {φ : Out → Prop}
theorem bys_zero : ∀ m : Nat, (bys m 0).map bval = List.replicate m (.int .u8 0)
  | 0 => rfl
  | m + 1 => by simp only [bys, List.map_cons, List.replicate_succ]; rw [show (0 : Nat) / 256 = 0 from rfl, bys_zero m]; rfl
/-- Rows of zeros. -/
theorem zeroN_spec {e sz m : Nat} {ck : Ck} (h : zeroN P e sz m = some ck) : ∃ i zv, P.info? e = some i ∧ i.zero = some zv ∧ zv.cells.size = sz ∧
    ∀ (τ : Sg) (w : World) (p t : Nat), Row w p t (List.replicate m zv.cells.toList).flatten false → holds τ w p t ck := by
  unfold zeroN at h
  split at h
  · rename_i z hz
    obtain ⟨hl, h2⟩ := cbif h
    have hl := Nat.eq_of_beq_eq_true hl
    obtain ⟨i, zv, z1, z2, z3⟩ := zeroC_spec (σ := fun _ => none) hz
    have z3' : ∀ τ : Sg, VRs τ z zv.cells.toList := fun τ => by
      obtain ⟨i', zv', y1, y2, y3⟩ := zeroC_spec (σ := τ) hz
      rw [z1] at y1; cases y1; rw [z2] at y2; cases y2; exact y3
    have hsz : zv.cells.size = sz := by rw [← Array.length_toList, ← z3.len, hl]
    refine ⟨i, zv, z1, z2, hsz, fun τ w p t hr => ?_⟩
    cases hu : isU8 P e
    · rw [hu] at h2; cases h2
      exact ⟨_, (z3' τ).rep m, hr⟩
    · rw [hu] at h2; simp only [cond_true] at h2
      split at h2
      · rename_i c
        split at h2
        · rename_i hc
          cases h2
          obtain ⟨rfl, _⟩ := cvByte_spec hc
          have := z3' τ
          simp only [VRs, VR] at this
          obtain ⟨v, ws, e1, e2, e3⟩ := this
          subst e2; subst e3
          show Row w p t ((bys m 0).map bval) true
          rw [bys_zero]
          rw [e1] at hr
          obtain ⟨arr, ty, lo, hi, q1, q2, q3, q4⟩ := hr
          refine ⟨arr, ty, lo, hi, q1, q2, ?_, ?_⟩
          · simpa [List.flatten_replicate_singleton, kc] using q3
          · rcases q4 with q4 | ⟨q4, _⟩
            · exact .inl q4
            · cases q4
        · cases h2
      · cases h2
  · cases h
theorem putC_len {cs : List CV} : ∀ {o : Nat} {l r : List CV}, putC cs o l = some r → r.length = l.length := by
  have h0 : ∀ {cs l r : List CV}, putC0 cs l = some r → r.length = l.length := by
    intro cs
    induction cs with
    | nil => intro l r h; simp only [putC0] at h; cases h; rfl
    | cons c cs ih =>
      intro l r h
      cases l with
      | nil => simp only [putC0] at h; cases h
      | cons x l =>
        simp only [putC0] at h
        split at h
        · rename_i q hq; cases h; simp [ih hq]
        · cases h
  intro o
  induction o with
  | zero => intro l r h; simp only [putC] at h; exact h0 h
  | succ o ih =>
    intro l r h
    cases l with
    | nil => simp only [putC] at h; cases h
    | cons x l =>
      simp only [putC] at h
      split at h
      · rename_i q hq; cases h; simp [ih hq]
      · cases h
theorem fillC_len {place : Nat → Option (Nat × Nat)} : ∀ (parts : List (Nat × Operand)) (cs r : List CV), fillC place fr parts cs = some r → r.length = cs.length
  | [], cs, r, h => by cases h; rfl
  | (i, x) :: rest, cs, r, h => by
    unfold fillC at h
    split at h
    · obtain ⟨_, h⟩ := cbif h
      split at h
      · rename_i q hq
        rw [fillC_len rest _ _ h, putC_len hq]
      · cases h
    · cases h
theorem wrap_nat {c : Nat} (h : c ≤ 140737488355328) : IntKind.i64.wrap (c : Int) = c := by
  simp [IntKind.wrap, IntKind.bits, IntKind.signed]; omega
theorem l_makeS (hR : Rel w0 σ hp n w) (hL : ∀ x, VR σ (lk fr x) (ev x)) {t : Nat} {x y : Operand} (h : Good (lMakeS P fr hp n t x y k) φ) :
    LR P w0 σ n w (do pure (Next.value (← Instr.makeSlice t (ev x) (ev y))) : Sem Next) k φ := by
  unfold lMakeS at h
  have hx := hL x
  have hy := hL y
  split at h
  · rename_i k1 l k2 c e1 e2
    rw [e1] at hx; rw [e2] at hy
    simp only [VR] at hx hy
    obtain ⟨g1, h2⟩ := h.bif
    clear h
    have g1 := Nat.le_of_ble_eq_true g1
    split at h2
    · rename_i e hd
      have hu := tyD_und hd
      split at h2
      · rename_i i hi
        have hi := tyI_info hi
        obtain ⟨g2, h3⟩ := h2.bif
        obtain ⟨g3, h4⟩ := h3.bif
        obtain ⟨g4, h5⟩ := h4.bif
        clear h2 h3 h4
        have g2 := Nat.le_of_ble_eq_true g2
        have g3 := Nat.le_of_ble_eq_true g3
        have g4 := Nat.le_of_ble_eq_true g4
        split at h5
        · rename_i ck hck
          obtain ⟨i', zv, z1, z2, z3, z4⟩ := zeroN_spec hck
          rw [hi] at z1; cases z1
          have hcells : ((Array.range (c * i.size)).map (fun j => zv.cells[j % zv.cells.size]!)).toList = (List.replicate c zv.cells.toList).flatten := by
            rw [← z3]; exact range_mod_arr zv.cells c
          obtain ⟨σ', s1, s2, s3, s4, s5⟩ := newCk_sound hR h5 (.cells ((Array.range (c * i.size)).map (fun j => zv.cells[j % zv.cells.size]!)) e) (c * i.size)
            (fun τ hle _ => z4 τ _ _ _ (by
              have := Row.new (w := w) (vs := (List.replicate c zv.cells.toList).flatten) (arr := (Array.range (c * i.size)).map (fun j => zv.cells[j % zv.cells.size]!)) (ty := e) (fz := false) (spare := []) (by rw [hcells]; simp)
              simpa using this))
          refine LR.val (v := .slice (some ⟨w.heap.size, 0, none⟩) l c) ?_ ?_ s2 s3 s4 s5
          · rw [hx, hy]
            have hz : (zeroValue e).run P w = .ok zv w := zeroValue_run hi z2 w
            have hsz : (sizeOf e).run P w = .ok i.size w := by simp [sizeOf, typeInfo, hi]
            have big : ¬ ((i.bytes : Int) * (c : Int) > 281474976710656) := by
              have : ((i.bytes * c : Nat) : Int) = (i.bytes : Int) * (c : Int) := by push_cast; rfl
              omega
            by_cases hc0 : c * i.size = 0
            · have hc : c = 0 := by
                rcases Nat.mul_eq_zero.1 hc0 with h | h
                · exact h
                · omega
              subst hc
              have hl : l = 0 := by omega
              subst hl
              have w0' : IntKind.i64.wrap (Int.ofNat 0) = 0 := rfl
              simp only [Instr.makeSlice, Sem.run_bind, run_underlying hu, Result.andThen_ok, asInt, asIntOf, Sem.run_pure, typeInfo, run_program, hi, w0']
              simp [hsz, run_newRow]
              rw [show Array.range 0 = #[] from rfl]; simp
            · have w1 : IntKind.i64.wrap (Int.ofNat c) = (c : Int) := wrap_nat g2
              have w2 : IntKind.i64.wrap (Int.ofNat l) = (l : Int) := wrap_nat (by omega)
              simp only [Instr.makeSlice, Sem.run_bind, run_underlying hu, Result.andThen_ok, asInt, asIntOf, Sem.run_pure, typeInfo, run_program, hi, w1, w2]
              have hcl : ¬ ((c : Int) < (l : Int)) := by omega
              have hneg : ∀ m : Nat, ¬ ((m : Int) < 0) := fun m => by omega
              have hc0' : ¬ (c = 0 ∨ i.size = 0) := fun h => hc0 (by rcases h with h | h <;> rw [h] <;> simp)
              simp [hsz, hz, run_newRow, show ¬ (281474976710656 < (i.bytes : Int) * (c : Int)) by omega, hneg, hcl, hc0']
              exact fun h => absurd h hc0
          · simp only [VR]
            exact ⟨_, _, _, _, s1, rfl, g1, Nat.le_refl _, fun _ => rfl, fun _ => rfl, by omega, fun e => (by cases e)⟩
        · exact h5.no.elim
      · exact h2.no.elim
    · exact h2.no.elim
  · exact h.no.elim
theorem l_makeM (hR : Rel w0 σ hp n w) (hL : ∀ x, VR σ (lk fr x) (ev x)) {t : Nat} {r : Option Operand} (h : Good (lMakeM P fr hp n t r k) φ) :
    LR P w0 σ n w (do pure (Next.value (← Instr.makeMap t (r.map ev))) : Sem Next) k φ := by
  unfold lMakeM at h
  split at h
  · rename_i kt et hd
    have hu := tyD_und hd
    have mk : ∀ {h : Good (newCk hp n (.map [] 0) (fun b => .map b) k) φ}, (Instr.makeMap t (r.map ev)).run P w = .ok (.map (some w.heap.size)) { w with heap := w.heap.push (.map #[] 0) } → LR P w0 σ n w (do pure (Next.value (← Instr.makeMap t (r.map ev))) : Sem Next) k φ := fun {h} hrun => by
      obtain ⟨σ', s1, s2, s3, s4, s5⟩ := newCk_sound hR h (.map #[] 0) 0 (fun τ hle _ => ⟨[], rfl, heap_push w _⟩)
      exact LR.val hrun (by simp only [VR]; exact ⟨_, _, s1, rfl⟩) s2 s3 s4 s5
    split at h
    · exact mk (h := h) (by simp [Instr.makeMap, newObj, Sem.run])
    · rename_i x
      split at h
      · rename_i kd i e
        exact mk (h := h) (by simp [Instr.makeMap, newObj, Sem.run, run_underlying hu, int_of hL e, asInt, asIntOf])
      · exact h.no.elim
  · exact h.no.elim
theorem l_buildS (hR : Rel w0 σ hp n w) (hL : ∀ x, VR σ (lk fr x) (ev x)) {t len : Nat} {parts : Array (Nat × Operand)} (h : Good (lBuildS P fr hp n t len parts k) φ) :
    LR P w0 σ n w (do pure (Next.value (← Instr.buildSlice t len (parts.map fun (i, x) => (i, ev x)))) : Sem Next) k φ := by
  unfold lBuildS at h
  have hparts : (parts.map fun (i, x) => (i, ev x)).toList = parts.toList.map fun (i, x) => (i, ev x) := by simp
  split at h
  · rename_i e hd
    have hu := tyD_und hd
    split at h
    · rename_i s hs
      obtain ⟨g1, h2⟩ := h.bif
      obtain ⟨g2, h3⟩ := h2.bif
      clear h h2
      have g1 := Nat.le_of_ble_eq_true g1
      have g2 := Nat.le_of_ble_eq_true g2
      split at h3
      · rename_i z hz
        obtain ⟨g3, h4⟩ := h3.bif
        clear h3
        have g3 := Nat.eq_of_beq_eq_true g3
        obtain ⟨i, zv, z1, z2, z3⟩ := zeroC_spec (σ := σ) hz
        have hsz : zv.cells.size = s := by rw [← Array.length_toList, ← z3.len, g3]
        split at h4
        · rename_i cs hcs
          obtain ⟨ws, f1, f2⟩ := fillC_sound hL _ _ _ _ (z3.rep len) hcs
          have hfl := f2.len
          have hcells : ((Array.range (len * s)).map (fun j => zv.cells[j % zv.cells.size]!)) = (List.replicate len zv.cells.toList).flatten.toArray := by
            apply Array.ext'; rw [← hsz]; simpa using range_mod_arr zv.cells len
          have hrun : (Instr.buildSlice t len (parts.map fun (i, x) => (i, ev x))).run P w = .ok (.slice (some ⟨w.heap.size, 0, none⟩) len len) { w with heap := w.heap.push (.cells ws.toArray e) } := by
            have hzr : (zeroValue e).run P w = .ok zv w := zeroValue_run z1 z2 w
            by_cases h0 : len * s = 0
            · have hl : len = 0 := by
                rcases Nat.mul_eq_zero.1 h0 with h | h
                · exact h
                · omega
              subst hl
              simp only [List.replicate_zero, List.flatten_nil] at f1
              have f1' : Instr.fill (fun i => some (i * s, s)) #[] (List.map (fun x => (x.1, ev x.2)) parts.toList) = some ws.toArray := f1
              simp [Instr.buildSlice, run_underlying hu, run_size hs, hparts, run_newRow]
              rw [show Array.range 0 = #[] from rfl, Array.map_empty, f1']
              simp [run_newRow]
            · rw [← hcells] at f1
              have h0' : ¬ (len = 0 ∨ s = 0) := fun h => h0 (by rcases h with h | h <;> rw [h] <;> simp)
              simp [Instr.buildSlice, run_underlying hu, run_size hs, hparts, hzr, h0', show ¬ (16777216 < len * s) by omega, run_newRow, f1]
              exact fun h => absurd h h0
          have hlen : ws.length = len * s := by
            rw [← f2.len]
            have e1 := fillC_len _ _ _ hcs
            have : ∀ m, (repC z m).length = m * z.length := fun m => by
              induction m with
              | zero => simp [repC]
              | succ m ih => simp only [repC, List.length_append, ih, Nat.succ_mul]; omega
            rw [e1, this, g3]
          cases hu8 : isU8 P e
          · rw [hu8] at h4; simp only [cond_false] at h4
            obtain ⟨σ', s1, s2, s3, s4, s5⟩ := newCk_sound hR h4 (.cells ws.toArray e) ws.length (fun τ hle _ => ⟨ws, f2.mono hle, by simpa using Row.new (w := w) (vs := ws) (arr := ws.toArray) (ty := e) (fz := false) (spare := []) (by simp)⟩)
            exact LR.val hrun (by simp only [VR]; exact ⟨_, _, _, _, s1, rfl, Nat.le_refl _, Nat.le_refl _, fun _ => rfl, fun _ => rfl, by omega, fun e => (by cases e)⟩) s2 s3 s4 s5
          · rw [hu8] at h4; simp only [cond_true] at h4
            split at h4
            · rename_i x hx
              obtain ⟨hs1, hx⟩ := cbif hx
              have hb := cvBytes_spec hx f2
              have hs1 := Nat.eq_of_beq_eq_true hs1
              subst hs1
              obtain ⟨σ', s1, s2, s3, s4, s5⟩ := newCk_sound hR h4 (.cells ws.toArray e) ws.length (fun τ hle _ => by
                have := Row.new (w := w) (vs := ws) (arr := ws.toArray) (ty := e) (fz := true) (spare := []) (by simp)
                show Row _ _ _ ((bys len x).map bval) true
                have hcl : cs.length = len := by rw [hfl, hlen]; omega
                rw [← hcl, ← hb]; simpa using this)
              exact LR.val hrun (by simp only [VR]; exact ⟨_, _, _, _, s1, rfl, Nat.le_refl _, Nat.le_refl _, fun _ => rfl, fun _ => rfl, by omega, fun e => (by cases e)⟩) s2 s3 s4 s5
            · exact h4.no.elim
        · exact h4.no.elim
      · exact h3.no.elim
    · exact h.no.elim
  · exact h.no.elim
end
end Go.Cx

/- A run with written-out values: the loud operations' soundness (third part: maps). -/
set_option linter.unusedVariables false
set_option linter.unusedSimpArgs false
set_option linter.unnecessarySimpa false
namespace Go.Cx
open Go.RowKit (Below)
def putO (w : World) (r : Nat) (o : Obj) : World := { w with heap := w.heap.setIfInBounds r o }
section
variable {P : Program} {w0 : World} {σ : Sg} {hp : H} {n : Nat} {w : World} {fr : F} {ev : Operand → Value} {k : KS} {φ : Out → Prop}
theorem putO_self {r : Nat} (o : Obj) (h : r < w.heap.size) : (putO w r o).heap[r]? = some o := by
  show (w.heap.setIfInBounds r o)[r]? = _; simp [Array.getElem?_setIfInBounds, h]
theorem Rel.put (hR : Rel w0 σ hp n w) {i p t : Nat} (hs : σ i = some (p, t)) (hl : hget hp i ≠ .no) {o : Obj} {c : Ck} (hc : (putO w p o).heap[p]? = some o → holds σ (putO w p o) p t c) : Rel w0 σ (hset hp i c) n (putO w p o) :=
  hR.upd (w' := putO w p o) hs hl (by simp [putO]) (fun k hk => by show (w.heap.setIfInBounds p o)[k]? = _; rw [Array.getElem?_setIfInBounds, if_neg (fun e => hk e.symm)]) rfl rfl rfl (hc (putO_self o (hR.old _ _ _ hs).2.2))
theorem run_getMap {r c : Nat} {es : Array MapEntry} (hb : w.heap[r]? = some (.map es c)) : (getObj r).run P w = .ok (.map es c) w := by simp [getObj, Sem.run, hb]
theorem run_setMap {r c : Nat} {es : Array MapEntry} (hb : w.heap[r]? = some (.map es c)) (o : Obj) : (setObj r o).run P w = .ok () (putO w r o) := by simp [setObj, Sem.run, hb, putO]
theorem keyEq_val {d : TypeDesc} {x y : CV} {vx vy : Value} (hx : VR σ x vx) (hy : VR σ y vy) (h : keyEq x y = some true) : vx = vy ∧ Instr.sameBits 10000 vy vx = true := by
  unfold keyEq at h
  split at h
  · obtain ⟨h1, h2⟩ := cbif h
    have := Nat.eq_of_beq_eq_true h1; subst this
    rw [ibq_iff] at h2
    simp only [Option.some.injEq, beq_iff_eq] at h2; subst h2
    simp only [VR] at hx hy; subst hx; subst hy
    exact ⟨rfl, by simp [Instr.sameBits]⟩
  · rw [bbq_eq] at h
    simp only [Option.some.injEq, beq_iff_eq] at h; subst h
    simp only [VR] at hx hy; subst hx; subst hy
    exact ⟨rfl, by simp [Instr.sameBits]⟩
  · rw [bys_beq] at h
    simp only [Option.some.injEq, beq_iff_eq] at h
    simp only [VR] at hx hy; subst hx; subst hy
    rw [h]
    exact ⟨rfl, by simp only [Instr.sameBits]; rw [beq_toListBytes]; simp⟩
  · cases h
/-- What is found: the entry there has this very key. -/
theorem findE_at {x : CV} {vx : Value} (hx : VR σ x vx) : ∀ {es : List Ent} {ms : List MapEntry} {i j : Nat} {v : CV}, EntsR σ es ms → findE x es i = some (some (j, v)) →
    i ≤ j ∧ ∃ e m, es[j - i]? = some e ∧ ms[j - i]? = some m ∧ m.key = vx ∧ Instr.sameBits 10000 m.key vx = true ∧ e.val = v ∧ VR σ e.val m.val ∧ m.born = e.born
  | [], ms, i, j, v, he, h => by cases h
  | e :: es, ms, i, j, v, he, h => by
    unfold EntsR at he
    obtain ⟨m, ns, rfl, h1, h2, h3, h4⟩ := he
    unfold findE at h
    split at h
    · rename_i hk
      cases h
      obtain ⟨e1, e2⟩ := keyEq_val (d := .bool) hx h1 hk
      refine ⟨Nat.le_refl _, e, m, by simp, by simp, e1.symm, e2, rfl, h2, h3⟩
    · rename_i hk
      obtain ⟨a, e', m', b1, b2, b3⟩ := findE_at hx h4 h
      refine ⟨by omega, e', m', ?_, ?_, b3⟩
      · rw [show j - i = (j - (i + 1)) + 1 by omega, List.getElem?_cons_succ]; exact b1
      · rw [show j - i = (j - (i + 1)) + 1 by omega, List.getElem?_cons_succ]; exact b2
    · cases h
theorem setE_R {x v : CV} {vx vv : Value} (hx : VR σ x vx) (hv : VR σ v vv) (f : MapEntry → MapEntry) (hf : ∀ m, (f m).key = vx ∧ (f m).born = m.born) : ∀ {es : List Ent} {ms : List MapEntry} {i : Nat}, EntsR σ es ms → (∀ m, ms[i]? = some m → (f m).val = vv) → EntsR σ (setE x v i es) (ms.modify i f)
  | [], ms, i, he, _ => by cases he; cases i <;> rfl
  | e :: es, ms, i, he, hm => by
    unfold EntsR at he
    obtain ⟨m, ns, rfl, h1, h2, h3, h4⟩ := he
    cases i with
    | zero =>
      have := hm m (by simp)
      simp only [setE, EntsR, List.modify_cons, if_true]
      exact ⟨f m, ns, by simp [List.modify], by rw [(hf m).1]; exact hx, by rw [this]; exact hv, by rw [(hf m).2]; exact h3, h4⟩
    | succ i =>
      simp only [setE, EntsR]
      exact ⟨m, ns.modify i f, by simp [List.modify], h1, h2, h3, setE_R hx hv f hf h4 (fun m' hm' => hm m' (by simpa using hm'))⟩
theorem EntsR.app {es fs : List Ent} {ms ns : List MapEntry} : EntsR σ es ms → EntsR σ fs ns → EntsR σ (es ++ fs) (ms ++ ns) := by
  induction es generalizing ms with
  | nil => intro h k; cases h; simpa using k
  | cons e es ih =>
    intro h k
    unfold EntsR at h
    obtain ⟨m, ns', rfl, h1, h2, h3, h4⟩ := h
    simp only [List.cons_append, EntsR]
    exact ⟨m, _, rfl, h1, h2, h3, ih h4 k⟩
theorem delE_R : ∀ {es : List Ent} {ms : List MapEntry} {i : Nat}, EntsR σ es ms → EntsR σ (delE i es) (ms.eraseIdx i)
  | [], ms, i, he => by cases he; simp [delE, EntsR]
  | e :: es, ms, i, he => by
    unfold EntsR at he
    obtain ⟨m, ns, rfl, h1, h2, h3, h4⟩ := he
    cases i with
    | zero => simpa [delE] using h4
    | succ i =>
      simp only [delE, EntsR, List.eraseIdx_cons_succ]
      exact ⟨m, _, rfl, h1, h2, h3, delE_R h4⟩
theorem toArray_modify (ms : List MapEntry) (i : Nat) (f : MapEntry → MapEntry) : ms.toArray.modify i f = (ms.modify i f).toArray := by
  apply Array.ext'; simp
theorem l_mapUp (hR : Rel w0 σ hp n w) (hL : ∀ x, VR σ (lk fr x) (ev x)) {t : Nat} {m x v : Operand} (h : Good (lMapUp P fr hp n t m x v k) φ) :
    LR P w0 σ n w (do Instr.mapUpdate t (ev m) (ev x) (ev v); pure Next.skip : Sem Next) k φ := by
  unfold lMapUp at h
  split at h
  · rename_i kt et ht
    have ht := tyD_und ht
    obtain ⟨hkk, h2⟩ := h.bif
    clear h
    obtain ⟨d, hk, hd⟩ := keyKind_spec hkk
    have hm := hL m
    split at h2
    · rename_i b e; rw [e] at hm; simp only [VR] at hm
      obtain ⟨p, u, hs, hv⟩ := hm
      split at h2
      · rename_i es clock hb
        obtain ⟨ms, g1, g2⟩ := hR.at hs hb (by simp)
        have hck := fun b w => checkKey_ok (P := P) (b := b) hk hd (ev x) w
        split at h2
        · exact h2.no.elim
        · rename_i hj
          split at h2
          · rename_i i u hf
            obtain ⟨r', f1, f2⟩ := findE_sound (hL x) hd g1 hf
            cases r' with
            | none => exact f2.elim
            | some q =>
              obtain ⟨j', mv⟩ := q
              obtain ⟨e1, f2⟩ := f2
              subst e1
              obtain ⟨_, e', m', b1, b2, b3, b4, b5, b6, b7⟩ := findE_at (hL x) g1 hf
              simp only [Nat.sub_zero] at b1 b2
              have hfk := fun w => findKey_run (P := P) hk f1 w
              have hkey : ((ms.toArray[i]?).map (·.key)).getD (ev x) = m'.key := by simp [b2]
              have hstay : (Instr.keyThatStays m'.key (ev x)).run P w = .ok (ev x) w := by
                simp [Instr.keyThatStays, b4]
              refine LR.unit (w' := putO w p (.map (ms.toArray.modify i fun e => { e with key := ev x, val := ev v }) clock)) ?_ (hR.put (c := .map (setE (lk fr x) (lk fr v) i es) clock) hs (by rw [hb]; simp) (fun hh => ⟨_, ?_, by rw [hh, toArray_modify]⟩)) (Ex.refl _ _) (Nle.refl _) h2
              · rw [hv]
                simp only [Instr.mapUpdate, Sem.run_bind, run_underlying ht, Result.andThen_ok, run_getMap g2, hck, hfk, hkey, hstay, run_setMap g2]
              · exact setE_R (hL x) (hL v) (fun e => { e with key := ev x, val := ev v }) (fun m => ⟨rfl, rfl⟩) g1 (fun m hm => rfl)
          · rename_i hf
            obtain ⟨r', f1, f2⟩ := findE_sound (hL x) hd g1 hf
            cases r' with
            | some q => exact f2.elim
            | none =>
              have hfk := fun w => findKey_run (P := P) hk f1 w
              refine LR.unit (w' := putO w p (.map (ms.toArray.push { key := ev x, val := ev v, born := clock }) (clock + 1))) ?_ (hR.put (c := .map (es ++ [⟨lk fr x, lk fr v, clock⟩]) (clock + 1)) hs (by rw [hb]; simp) (fun hh => ⟨ms ++ [{ key := ev x, val := ev v, born := clock }], ?_, by rw [hh]; simp⟩)) (Ex.refl _ _) (Nle.refl _) h2
              · rw [hv]
                simp only [Instr.mapUpdate, Sem.run_bind, run_underlying ht, Result.andThen_ok, run_getMap g2, hck, hfk, run_setMap g2]
              · exact g1.app (by unfold EntsR; exact ⟨_, [], rfl, hL x, hL v, rfl, rfl⟩)
          · exact h2.no.elim
      · exact h2.no.elim
    · exact h2.no.elim
  · exact h.no.elim
theorem l_delete (hR : Rel w0 σ hp n w) (hL : ∀ x, VR σ (lk fr x) (ev x)) {t ty : Nat} {ts : Array Nat} (h0 : ts[0]? = some t) {m x : Operand} (h : Good (lDelete P fr hp n t m x k) φ) :
    LR P w0 σ n w (do pure (Next.value (← Builtin.delete_ ts ty #[ev m, ev x])) : Sem Next) k φ := by
  unfold lDelete at h
  split at h
  · rename_i kt et ht
    have ht := tyD_und ht
    obtain ⟨hkk, h2⟩ := h.bif
    clear h
    obtain ⟨d, hk, hd⟩ := keyKind_spec hkk
    have hm := hL m
    have hck := fun b w => checkKey_ok (P := P) (b := b) hk hd (ev x) w
    split at h2
    · rename_i e; rw [e] at hm; simp only [VR] at hm
      refine LR.val (v := .tuple #[]) ?_ (by simp only [VR, VRs]; exact ⟨[], rfl, rfl⟩) hR (Ex.refl _ _) (Nle.refl _) h2
      rw [hm]; simp [Builtin.delete_, h0, run_underlying ht, hck]
    · rename_i b e; rw [e] at hm; simp only [VR] at hm
      obtain ⟨p, u, hs, hv⟩ := hm
      split at h2
      · rename_i es clock hb
        obtain ⟨ms, g1, g2⟩ := hR.at hs hb (by simp)
        have hself : putO w p (.map ms.toArray clock) = w := by
          obtain ⟨hlt, hval⟩ := Array.getElem?_eq_some_iff.1 g2
          unfold putO
          have : w.heap.setIfInBounds p (.map ms.toArray clock) = w.heap := by
            apply Array.ext (by simp)
            intro i h1 h2
            rw [Array.getElem_setIfInBounds]
            split
            · rename_i e; subst e; exact hval.symm
            · rfl
          rw [this]
        split at h2
        · rename_i i u hf
          obtain ⟨r', f1, f2⟩ := findE_sound (hL x) hd g1 hf
          cases r' with
          | none => exact f2.elim
          | some q =>
            obtain ⟨j', mv⟩ := q
            obtain ⟨e1, f2⟩ := f2
            subst e1
            have hfk := fun w => findKey_run (P := P) hk f1 w
            refine LR.val (v := .tuple #[]) (w' := putO w p (.map (ms.toArray.eraseIdxIfInBounds i) clock)) ?_ (by simp only [VR, VRs]; exact ⟨[], rfl, rfl⟩) (hR.put (c := .map (delE i es) clock) hs (by rw [hb]; simp) (fun hh => ⟨ms.eraseIdx i, delE_R g1, by rw [hh]; congr 2; apply Array.ext'; simp⟩)) (Ex.refl _ _) (Nle.refl _) h2
            rw [hv]
            simp [Builtin.delete_, h0, run_underlying ht, run_getMap g2, hck, hfk, run_setMap g2]
        · rename_i hf
          obtain ⟨r', f1, f2⟩ := findE_sound (hL x) hd g1 hf
          cases r' with
          | some q => exact f2.elim
          | none =>
            have hfk := fun w => findKey_run (P := P) hk f1 w
            refine LR.val (v := .tuple #[]) (w' := w) ?_ (by simp only [VR, VRs]; exact ⟨[], rfl, rfl⟩) hR (Ex.refl _ _) (Nle.refl _) h2
            rw [hv]
            simp [Builtin.delete_, h0, run_underlying ht, run_getMap g2, hck, hfk, run_setMap g2, hself]
        · exact h2.no.elim
      · exact h2.no.elim
    · exact h2.no.elim
  · exact h.no.elim
end
end Go.Cx

/- A run with written-out values: the loud operations' soundness (fourth part: entries, ranges). -/
set_option linter.unusedVariables false
set_option linter.unusedSimpArgs false
set_option linter.unnecessarySimpa false
namespace Go.Cx
open Go.RowKit (Below)
section
variable {P : Program} {w0 : World} {σ : Sg} {hp : H} {n : Nat} {w : World} {fr : F} {ev : Operand → Value} {k : KS} {φ : Out → Prop}
theorem entAt_eq : ∀ (es : List Ent) (i : Nat), entAt i es = es[i]?
  | [], i => by simp [entAt]
  | e :: es, 0 => by simp [entAt]
  | e :: es, i + 1 => by simp [entAt, entAt_eq es i]
theorem VR_pair {a b : CV} {va vb : Value} (ha : VR σ a va) (hb : VR σ b vb) : VR σ (.tup [a, b]) (.tuple #[va, vb]) := by
  simp only [VR, VRs]; exact ⟨_, ⟨_, _, rfl, ha, _, _, rfl, hb, rfl⟩, rfl⟩
theorem VR_tri {a b c : CV} {va vb vc : Value} (ha : VR σ a va) (hb : VR σ b vb) (hc : VR σ c vc) : VR σ (.tup [a, b, c]) (.tuple #[va, vb, vc]) := by
  simp only [VR, VRs]; exact ⟨_, ⟨_, _, rfl, ha, _, _, rfl, hb, _, _, rfl, hc, rfl⟩, rfl⟩
theorem VR_unit : VR σ (.tup []) (.tuple #[]) := by simp only [VR, VRs]; exact ⟨[], rfl, rfl⟩
theorem VR_goInt (m : Nat) : VR σ (.int 3 (.ofNat m)) (goInt m) := by simp only [VR]; rfl
theorem l_mapEntry (hR : Rel w0 σ hp n w) (hL : ∀ x, VR σ (lk fr x) (ev x)) {t : Nat} {m x : Operand} (h : Good (lMapEntry P fr hp n t m x k) φ) :
    LR P w0 σ n w (do pure (Next.value (← Instr.mapEntry t (ev m) (ev x))) : Sem Next) k φ := by
  unfold lMapEntry at h
  split at h
  · rename_i kt et ht
    have ht := tyD_und ht
    obtain ⟨hkk, h2⟩ := h.bif
    clear h
    obtain ⟨d, hk, hd⟩ := keyKind_spec hkk
    have hm := hL m
    split at h2
    · rename_i b e; rw [e] at hm; simp only [VR] at hm
      obtain ⟨p, u, hs, hv⟩ := hm
      split at h2
      · rename_i es clock hb
        obtain ⟨ms, g1, g2⟩ := hR.at hs hb (by simp)
        have hck := fun b w => checkKey_ok (P := P) (b := b) hk hd (ev x) w
        split at h2
        · rename_i i v hf
          obtain ⟨r', f1, f2⟩ := findE_sound (hL x) hd g1 hf
          cases r' with
          | none => exact f2.elim
          | some q =>
            obtain ⟨j', mv⟩ := q
            obtain ⟨e1, f2⟩ := f2
            subst e1
            obtain ⟨_, e', m', b1, b2, b3, b4, b5, b6, b7⟩ := findE_at (hL x) g1 hf
            simp only [Nat.sub_zero] at b1 b2
            rw [entAt_eq, b1] at h2
            simp only at h2
            have hfk := fun w => findKey_run (P := P) hk f1 w
            have hkey : ((ms.toArray[i]?).map (·.key)).getD (ev x) = m'.key := by simp [b2]
            have hborn : ((ms.toArray[i]?).map (fun x => (x.born : Int))).getD 0 = (e'.born : Int) := by simp [b2, b7]
            have hstay : (Instr.keyThatStays m'.key (ev x)).run P w = .ok (ev x) w := by
              simp [Instr.keyThatStays, b4]
            refine LR.val (v := .tuple #[mv, goInt e'.born]) (w' := putO w p (.map (ms.toArray.modify i fun e => { e with key := ev x }) clock)) ?_ (VR_pair f2 (VR_goInt _)) (hR.put (c := .map (setE (lk fr x) v i es) clock) hs (by rw [hb]; simp) (fun hh => ⟨_, ?_, by rw [hh, toArray_modify]⟩)) (Ex.refl _ _) (Nle.refl _) h2
            · rw [hv]
              simp only [Instr.mapEntry, Sem.run_bind, run_underlying ht, Result.andThen_ok, run_getMap g2, hck, hfk, hkey, hstay, run_setMap g2, hborn]
              rfl
            · subst b5
              exact setE_R (vv := m'.val) (hL x) b6 (fun e => { e with key := ev x }) (fun m => ⟨rfl, rfl⟩) g1 (fun m hm => by rw [b2] at hm; cases hm; rfl)
        · rename_i hf
          obtain ⟨r', f1, f2⟩ := findE_sound (hL x) hd g1 hf
          cases r' with
          | some q => exact f2.elim
          | none =>
            split at h2
            · rename_i v hz
              obtain ⟨i, zv, z1, z2, z3⟩ := zeroV_spec (σ := σ) hz
              have hzr := fun w => zeroValue_run (P := P) z1 z2 w
              have hfk := fun w => findKey_run (P := P) hk f1 w
              refine LR.val (v := .tuple #[zv, goInt clock]) (w' := putO w p (.map (ms.toArray.push { key := ev x, val := zv, born := clock }) (clock + 1))) ?_ (VR_pair z3 (VR_goInt _)) (hR.put (c := .map (es ++ [⟨lk fr x, v, clock⟩]) (clock + 1)) hs (by rw [hb]; simp) (fun hh => ⟨ms ++ [{ key := ev x, val := zv, born := clock }], ?_, by rw [hh]; simp⟩)) (Ex.refl _ _) (Nle.refl _) h2
              · rw [hv]
                simp only [Instr.mapEntry, Sem.run_bind, run_underlying ht, Result.andThen_ok, run_getMap g2, hck, hfk, hzr, run_setMap g2]
                rfl
              · exact g1.app (by unfold EntsR; exact ⟨_, [], rfl, hL x, z3, rfl, rfl⟩)
            · exact h2.no.elim
        · exact h2.no.elim
      · exact h2.no.elim
    · exact h2.no.elim
  · exact h.no.elim
theorem bornAt_R {s : Nat} {v : CV} {vv : Value} (hv : VR σ v vv) : ∀ {es es' : List Ent} {ms : List MapEntry}, EntsR σ es ms → bornAt s v es = some es' →
    ∃ i, ms.findIdx? (fun e => (e.born : Int) == (s : Int)) = some i ∧ EntsR σ es' (ms.modify i fun e => { e with val := vv })
  | [], es', ms, he, h => by cases h
  | e :: es, es', ms, he, h => by
    unfold EntsR at he
    obtain ⟨m, ns, rfl, h1, h2, h3, h4⟩ := he
    unfold bornAt at h
    cases hb : Nat.beq e.born s
    · rw [hb] at h; simp only [cond_false] at h
      have hne : ¬ ((m.born : Int) = (s : Int)) := by rw [h3]; intro e'; have : e.born = s := by omega
                                                      rw [this, Nat.beq_refl] at hb; cases hb
      split at h
      · rename_i r hr
        cases h
        obtain ⟨i, i1, i2⟩ := bornAt_R hv h4 hr
        refine ⟨i + 1, ?_, ?_⟩
        · rw [List.findIdx?_cons]; simp only [beq_iff_eq, hne, Bool.false_eq_true, if_false]; rw [i1]; rfl
        · simp only [List.modify_succ_cons, EntsR]; exact ⟨m, _, rfl, h1, h2, h3, i2⟩
      · cases h
    · rw [hb] at h; cases h
      have := Nat.eq_of_beq_eq_true hb
      refine ⟨0, ?_, ?_⟩
      · rw [List.findIdx?_cons]; simp [h3, this]
      · simp only [List.modify_zero_cons, EntsR]; exact ⟨_, _, rfl, h1, hv, h3, h4⟩
theorem l_entryStore (hR : Rel w0 σ hp n w) (hL : ∀ x, VR σ (lk fr x) (ev x)) {t : Nat} {m s v : Operand} (h : Good (lEntryStore fr hp n m s v k) φ) :
    LR P w0 σ n w (do Instr.entryStore t (ev m) (ev s) (ev v); pure Next.skip : Sem Next) k φ := by
  unfold lEntryStore at h
  have hm := hL m
  split at h
  · rename_i b e; rw [e] at hm; simp only [VR] at hm
    obtain ⟨p, u, hs, hv⟩ := hm
    split at h
    · rename_i es clock hb
      obtain ⟨ms, g1, g2⟩ := hR.at hs hb (by simp)
      split at h
      · rename_i kd st hst
        have hst := int_of hL hst
        split at h
        · exact h.no.elim
        · rename_i hj
          split at h
          · rename_i es' hb'
            obtain ⟨i, i1, i2⟩ := bornAt_R (hL v) g1 hb'
            refine LR.unit (w' := putO w p (.map (ms.toArray.modify i fun e => { e with val := ev v }) clock)) ?_ (hR.put (c := .map es' clock) hs (by rw [hb]; simp) (fun hh => ⟨_, i2, by rw [hh, toArray_modify]⟩)) (Ex.refl _ _) (Nle.refl _) h
            rw [hv, hst]
            have hfi : ms.toArray.findIdx? (fun e => (e.born : Int) == Int.ofNat st) = some i := by
              rw [List.findIdx?_toArray]; exact i1
            simp only [Instr.entryStore, Sem.run_bind, Result.andThen_ok, run_getMap g2, asInt, asIntOf, Sem.run_pure, hfi, run_setMap g2]
          · exact h.no.elim
      · exact h.no.elim
    · exact h.no.elim
  · exact h.no.elim
theorem l_range (hR : Rel w0 σ hp n w) (hL : ∀ x, VR σ (lk fr x) (ev x)) {t : Nat} {x : Operand} (h : Good (lRange P fr hp n t x k) φ) :
    LR P w0 σ n w (do pure (Next.value (← Instr.range t (ev x))) : Sem Next) k φ := by
  unfold lRange at h
  have hx := hL x
  have mk : ∀ {c : Ck} (o : Obj), (∀ τ, Le σ τ → τ (idN n) = some (w.heap.size, 0) → holds τ { w with heap := w.heap.push o } w.heap.size 0 c) → Good (newCk hp n c (fun b => .ptr b 0) k) φ →
      (Instr.range t (ev x)).run P w = .ok (.pointer (some ⟨w.heap.size, 0, none⟩)) { w with heap := w.heap.push o } → LR P w0 σ n w (do pure (Next.value (← Instr.range t (ev x))) : Sem Next) k φ := fun o hc h hrun => by
    obtain ⟨σ', s1, s2, s3, s4, s5⟩ := newCk_sound hR h o 0 hc
    exact LR.val hrun (by simp only [VR]; exact ⟨_, _, s1, rfl⟩) s2 s3 s4 s5
  split at h
  · rename_i l m hd e; rw [e] at hx; simp only [VR] at hx
    exact mk (c := .siter l m 0) (.stringIter ⟨(bys l m).toArray⟩ 0) (fun τ hle _ => heap_push w _) h (by rw [hx]; simp [Instr.range, run_underlying (tyD_und hd), newObj, Sem.run])
  · rename_i kt et hd e; rw [e] at hx; simp only [VR] at hx
    exact mk (c := .iter0) (.mapIter none 0 #[] 0) (fun τ hle _ => heap_push w _) h (by rw [hx]; simp [Instr.range, run_underlying (tyD_und hd), newObj, Sem.run])
  · rename_i kt et b hd e; rw [e] at hx; simp only [VR] at hx
    obtain ⟨p, u, hs, hv⟩ := hx
    split at h
    · rename_i es clock hb
      obtain ⟨ms, g1, g2⟩ := hR.at hs hb (by simp)
      exact mk (c := .iter b clock [] clock) (.mapIter (some p) clock #[] clock) (fun τ hle _ => ⟨p, u, hle _ _ hs, heap_push w _⟩) h (by rw [hv]; simp [Instr.range, run_underlying (tyD_und hd), run_getMap g2, newObj, Sem.run])
    · exact h.no.elim
  · exact h.no.elim
theorem has_eq (x : Nat) : ∀ l : List Nat, has x l = l.contains x
  | [] => rfl
  | a :: l => by
    unfold has
    rw [has_eq x l, List.contains_cons]
    by_cases h : a = x
    · subst h; simp
    · have : Nat.beq a x = false := by cases hq : Nat.beq a x; rfl; exact absurd (Nat.eq_of_beq_eq_true hq) h
      rw [this]; simp [Ne.symm h]
theorem cands_R (seen : List Nat) : ∀ {es : List Ent} {ms : List MapEntry}, EntsR σ es ms → EntsR σ (cands seen es) (ms.filter fun e => !seen.contains e.born)
  | [], ms, he => by cases he; rfl
  | e :: es, ms, he => by
    unfold EntsR at he
    obtain ⟨m, ns, rfl, h1, h2, h3, h4⟩ := he
    unfold cands
    rw [has_eq, List.filter_cons, h3]
    cases seen.contains e.born
    · simp only [cond_false, Bool.not_false, if_true, EntsR]; exact ⟨m, _, rfl, h1, h2, h3, cands_R seen h4⟩
    · simp only [cond_true, Bool.not_true, Bool.false_eq_true, if_false]; exact cands_R seen h4
theorem allOld_R {since : Nat} : ∀ {es : List Ent} {ms : List MapEntry}, EntsR σ es ms → allOld since es = true → ∀ m ∈ ms, m.born < since
  | [], ms, he, _, m, hm => by cases he; cases hm
  | e :: es, ms, he, h, m, hm => by
    unfold EntsR at he
    obtain ⟨m', ns, rfl, h1, h2, h3, h4⟩ := he
    unfold allOld at h
    cases hb : Nat.blt e.born since
    · rw [hb] at h; cases h
    · rw [hb] at h; simp only [cond_true] at h
      rcases List.mem_cons.1 hm with rfl | hm
      · rw [h3]; simpa [Nat.blt_eq] using hb
      · exact allOld_R h4 h m hm
theorem eachE_good {f : Ent → Res} : ∀ {l : List Ent}, Good (eachE f l) φ → ∀ e ∈ l, Good (f e) φ
  | [], _, e, he => by cases he
  | [a], h, e, he => by
    simp only [List.mem_singleton] at he; subst he; exact h
  | a :: b :: l, h, e, he => by
    simp only [eachE] at h
    obtain ⟨h1, h2⟩ := h.cat
    rcases List.mem_cons.1 he with rfl | he
    · exact h1
    · exact eachE_good h2 e he
theorem EntsR.get : ∀ {es : List Ent} {ms : List MapEntry} {i : Nat} {m : MapEntry}, EntsR σ es ms → ms[i]? = some m → ∃ e, e ∈ es ∧ VR σ e.key m.key ∧ VR σ e.val m.val ∧ m.born = e.born
  | [], ms, i, m, he, h => by cases he; cases h
  | e :: es, ms, i, m, he, h => by
    unfold EntsR at he
    obtain ⟨m', ns, rfl, h1, h2, h3, h4⟩ := he
    cases i with
    | zero => simp at h; subst h; exact ⟨e, List.mem_cons_self, h1, h2, h3⟩
    | succ i =>
      obtain ⟨e', a, b⟩ := EntsR.get h4 (by simpa using h)
      exact ⟨e', List.mem_cons_of_mem _ a, b⟩
end
end Go.Cx

/- A run with written-out values: the loud operations' soundness (fifth part: next, entry). -/
set_option linter.unusedVariables false
set_option linter.unusedSimpArgs false
set_option linter.unnecessarySimpa false
namespace Go.Cx
open Go.RowKit (Below)
open Go.ChangeMaps (setBlock)
section
variable {P : Program} {w0 : World} {σ : Sg} {hp : H} {n : Nat} {w : World} {fr : F} {ev : Operand → Value} {k : KS} {φ : Out → Prop}
theorem l_next (hR : Rel w0 σ hp n w) (hL : ∀ x, VR σ (lk fr x) (ev x)) {x : Operand} {str : Bool} {ty : TypeId} (h : Good (lNext fr hp n x str k) φ) :
    LR P w0 σ n w (do pure (Next.value (← Instr.next (ev x) str ty)) : Sem Next) k φ := by
  unfold lNext at h
  have hx := hL x
  split at h
  · rename_i r e; rw [e] at hx; simp only [VR] at hx
    obtain ⟨p, u, hs, hv⟩ := hx
    rw [hv]
    split at h
    · rename_i m since seen stepped hit
      cases str
      · simp only [cond_false] at h
        split at h
        · rename_i es clock hm
          obtain ⟨hcond, h2⟩ := h.bif
          clear h
          obtain ⟨hss, hold⟩ : since ≤ stepped ∧ allOld since es = true := by
            cases hq : Nat.ble since stepped
            · rw [hq] at hcond; cases hcond
            · rw [hq] at hcond; exact ⟨Nat.le_of_ble_eq_true hq, hcond⟩
          obtain ⟨q, v, hsm, hitw⟩ := hR.at hs hit (by simp)
          obtain ⟨ms, g1, g2⟩ := hR.at hsm hm (by simp)
          have hcr := cands_R seen g1
          have hleft : (leftOf ms.toArray seen.toArray) = (ms.filter fun e => !seen.contains e.born).toArray := by
            unfold leftOf; simp
          have key := run_next_at (P := P) w ty p q since stepped seen.toArray ms.toArray clock hitw g2 (fun x hx => allOld_R g1 hold x (by simpa using hx)) hss
          rw [hleft] at key
          rcases key with ⟨k1, k2⟩ | ⟨e, k1, w1, k2, k3⟩
          · have hnil : (ms.filter fun e => !seen.contains e.born) = [] := List.eq_nil_of_length_eq_zero (by simpa using k1)
            rw [hnil] at hcr
            have : cands seen es = [] := by
              cases hc : cands seen es with
              | nil => rfl
              | cons a l => rw [hc] at hcr; unfold EntsR at hcr; obtain ⟨_, _, hcc, _⟩ := hcr; cases hcc
            rw [this] at h2
            exact LR.val k2 (by simp only [VR, VRs]; exact ⟨_, ⟨_, _, rfl, rfl, rfl⟩, rfl⟩) hR (Ex.refl _ _) (Nle.refl _) h2
          · obtain ⟨i, hi⟩ := List.getElem?_of_mem (show e ∈ (ms.filter fun e => !seen.contains e.born) by simpa using k1)
            obtain ⟨e', m1, m2, m3, m4⟩ := hcr.get hi
            have h3 : Good (eachE (fun e => k (.tup [.bool true, e.key, e.val]) (hset hp r (.iter m since (seen ++ [e.born]) clock)) n) (cands seen es)) φ := by
              split at h2
              · rename_i hc; rw [hc] at m1; cases m1
              · exact h2
            have h4 := eachE_good h3 e' m1
            have hR1 : Rel w0 σ hp n w1 := by
              rcases k2 with rfl | rfl
              · exact hR
              · exact hR.drew _
            refine LR.val k3 (VR_tri (by simp only [VR]) m2 m3) (hR1.put (c := .iter m since (seen ++ [e'.born]) clock) hs (by rw [hit]; simp) (fun hh => ⟨q, v, hsm, ?_⟩)) (Ex.refl _ _) (Nle.refl _) h4
            rw [hh, ← m4]; simp
        · exact h.no.elim
      · exact h.no.elim
    · rename_i hit
      cases str
      · simp only [cond_false] at h
        have hitw := hR.at hs hit (by simp)
        have hitw : w.heap[p]? = some (.mapIter none 0 #[] 0) := hitw
        refine LR.val (v := .tuple #[.bool false]) ?_ (by simp only [VR, VRs]; exact ⟨_, ⟨_, _, rfl, rfl, rfl⟩, rfl⟩) hR (Ex.refl _ _) (Nle.refl _) h
        simp [Instr.next, getObj, Sem.run, hitw]
      · exact h.no.elim
    · rename_i l m pos hit
      cases str
      · exact h.no.elim
      · simp only [cond_true] at h
        have hitw : w.heap[p]? = some (.stringIter ⟨(bys l m).toArray⟩ pos) := hR.at hs hit (by simp)
        have hsz : (⟨(bys l m).toArray⟩ : ByteArray).size = l := by simp [ByteArray.size, bys_len]
        cases hlt : Nat.blt pos l
        · rw [hlt] at h; simp only [cond_false] at h
          have hlt' : ¬ pos < l := by intro h'; have := Nat.blt_eq.symm ▸ h'; rw [this] at hlt; cases hlt
          refine LR.val (v := .tuple #[.bool false]) ?_ (by simp only [VR, VRs]; exact ⟨_, ⟨_, _, rfl, rfl, rfl⟩, rfl⟩) hR (Ex.refl _ _) (Nle.refl _) h
          simp [Instr.next, getObj, Sem.run, hitw, hsz, hlt']
        · rw [hlt] at h; simp only [cond_true] at h
          have hlt' : pos < l := by simpa [Nat.blt_eq] using hlt
          obtain ⟨ha, h2⟩ := h.bif
          clear h
          have ha : bnth m pos < 128 := by simpa [Nat.blt_eq] using ha
          have hlt2 : pos < (⟨(bys l m).toArray⟩ : ByteArray).size := by rw [hsz]; exact hlt'
          have hget : ((⟨(bys l m).toArray⟩ : ByteArray)[pos]'hlt2) = UInt8.ofNat (bnth m pos) := by
            have := bval_bnth l m pos hlt'
            rw [getElem?_pos (⟨(bys l m).toArray⟩ : ByteArray) pos hlt2] at this
            exact Option.some.inj this
          have hdec := decode_ascii ⟨(bys l m).toArray⟩ pos hlt2 (by rw [hget, u8_nat _ (bnth_lt m pos)]; exact ha)
          rw [hget, u8_nat _ (bnth_lt m pos)] at hdec
          refine LR.val (v := .tuple #[.bool true, goInt pos, .int .i32 (bnth m pos : Nat)]) (w' := putO w p (.stringIter ⟨(bys l m).toArray⟩ (pos + 1))) ?_ (VR_tri (by simp only [VR]) (VR_goInt _) (by simp only [VR]; rfl))
            (hR.put (c := .siter l m (pos + 1)) hs (by rw [hit]; simp) (fun hh => hh)) (Ex.refl _ _) (Nle.refl _) h2
          simp [Instr.next, getObj, setObj, Sem.run, hitw, hsz, hlt', hdec, putO]
    · exact h.no.elim
  · exact h.no.elim
theorem lastN_eq : ∀ l : List Nat, lastN l = l.getLast?
  | [] => rfl
  | [a] => rfl
  | a :: b :: l => by simp only [lastN]; rw [lastN_eq (b :: l)]; simp
theorem findBorn_R {s : Nat} : ∀ {es : List Ent} {ms : List MapEntry} {e : Ent}, EntsR σ es ms → findBorn s es = some e → ∃ m, ms.find? (fun x => x.born == s) = some m ∧ VR σ e.key m.key ∧ VR σ e.val m.val
  | [], ms, e, he, h => by cases h
  | a :: es, ms, e, he, h => by
    unfold EntsR at he
    obtain ⟨m, ns, rfl, h1, h2, h3, h4⟩ := he
    unfold findBorn at h
    cases hb : Nat.beq a.born s
    · rw [hb] at h; simp only [cond_false] at h
      obtain ⟨m', k1, k2⟩ := findBorn_R h4 h
      refine ⟨m', ?_, k2⟩
      have : ¬ (m.born = s) := by rw [h3]; intro e'; rw [e', Nat.beq_refl] at hb; cases hb
      rw [List.find?_cons_of_neg (by simpa using this)]; exact k1
    · rw [hb] at h; cases h
      have := Nat.eq_of_beq_eq_true hb
      exact ⟨m, by rw [List.find?_cons_of_pos (by simp [h3, this])], h1, h2⟩
theorem l_entry (hR : Rel w0 σ hp n w) (hL : ∀ x, VR σ (lk fr x) (ev x)) {x : Operand} (h : Good (lEntry fr hp n x k) φ) :
    LR P w0 σ n w (do pure (Next.value (← Instr.entry (ev x))) : Sem Next) k φ := by
  unfold lEntry at h
  have hx := hL x
  split at h
  · rename_i r e; rw [e] at hx; simp only [VR] at hx
    obtain ⟨p, u, hs, hv⟩ := hx
    split at h
    · rename_i m since seen stepped hit
      split at h
      · rename_i es clock hm
        obtain ⟨hcl, h2⟩ := h.bif
        clear h
        have hcl := Nat.eq_of_beq_eq_true hcl
        subst hcl
        split at h2
        · rename_i s hlast
          rw [lastN_eq] at hlast
          split at h2
          · rename_i en hen
            obtain ⟨q, v, hsm, hitw⟩ := hR.at hs hit (by simp)
            obtain ⟨ms, g1, g2⟩ := hR.at hsm hm (by simp)
            obtain ⟨m', k1, k2, k3⟩ := findBorn_R g1 hen
            refine LR.val (v := .tuple #[m'.key, m'.val]) ?_ (VR_pair k2 k3) hR (Ex.refl _ _) (Nle.refl _) h2
            rw [hv]
            have hf : ms.toArray.find? (fun x => x.born == s) = some m' := by rw [← Array.find?_toList]; exact k1
            have hbk : seen.toArray.back? = some s := by simpa using hlast
            simp only [Instr.entry, getObj, Sem.run_bind, Sem.run, hitw, g2, Result.andThen, hbk, bne_self_eq_false, Bool.false_eq_true, if_false, hf]
            rfl
          · exact h2.no.elim
        · exact h2.no.elim
      · exact h.no.elim
    · exact h.no.elim
  · exact h.no.elim
end
end Go.Cx

/- A run with written-out values: the loud operations' soundness (sixth part: elements). -/
set_option linter.unusedVariables false
set_option linter.unusedSimpArgs false
set_option linter.unnecessarySimpa false
namespace Go.Cx
open Go.RowKit (Below)
theorem growBy_le {need : Nat} : ∀ (r c : Nat), 256 ≤ c → c ≤ 2 * need → Builtin.growBy need r c ≤ 2 * need
  | 0, c, _, h => h
  | r + 1, c, h0, h => by
    simp only [Builtin.growBy]
    split
    · exact h
    · exact growBy_le r _ (by omega) (by omega)
theorem nextcap_le {need old : Nat} (h : old < need) : Builtin.nextslicecap need old ≤ 2 * need := by
  unfold Builtin.nextslicecap
  split
  · omega
  · split
    · omega
    · exact growBy_le _ _ (by omega) (by omega)
def notInt (d : TypeDesc) : Bool := match d with | .int _ => false | _ => true
theorem notInt_eq {d : TypeDesc} : notInt d = true → Builtin.append_.match_1 (fun _ => Bool) d (fun _ => true) (fun _ => false) = false := by
  intro h
  cases d <;> first | rfl | (simp [notInt] at h; done)
section
variable {P : Program} {w0 : World} {σ : Sg} {hp : H} {n : Nat} {w : World} {fr : F} {ev : Operand → Value} {k : KS} {φ : Out → Prop}
theorem append_fit {ts : Array TypeId} {t t2 et ty : TypeId} {d2 : TypeDesc} {sz m sLen sCap : Nat} {base : Option Addr} {x : Value} {cells : List Value} {w w' : World} (h0 : ts[0]? = some t) (h1 : ts[1]? = some t2)
    (ht : P.underlying t = some (.slice et)) (ht2 : P.underlying t2 = some d2) (hd : notInt d2 = true) (hsz : (sizeOf et).run P w = .ok sz w) (hx : (Builtin.lenOf x).run P w = .ok m w) (hf : (Builtin.firstCells sz m x).run P w = .ok cells.toArray w) (hfit : sLen + m ≤ sCap)
    (hrun : match base with | some a => (storeCells (a.add (sLen * sz)) cells).run P w = .ok () w' | none => w' = w) :
    (Builtin.append_ ts ty #[.slice base sLen sCap, x]).run P w = .ok (.slice base (sLen + m) sCap) w' := by
  have hd' := notInt_eq hd
  cases base with
  | none => subst hrun; simp [Builtin.append_, h0, h1, run_underlying ht, run_underlying ht2, hsz, hx, hfit, hf, hd']
  | some a => simp [Builtin.append_, h0, h1, run_underlying ht, run_underlying ht2, hsz, hx, hfit, hf, hrun, hd']
theorem append_grow {ts : Array TypeId} {t t2 et ty : TypeId} {d2 : TypeDesc} {m sLen sCap : Nat} {base : Option Addr} {x z : Value} {i : TypeInfo} {cells old : List Value} {w : World} (h0 : ts[0]? = some t) (h1 : ts[1]? = some t2)
    (ht : P.underlying t = some (.slice et)) (ht2 : P.underlying t2 = some d2) (hd : notInt d2 = true) (hi : P.info? et = some i) (hz : i.zero = some z) (hzs : z.cells.size = i.size) (hb : 1 ≤ i.bytes)
    (hx : (Builtin.lenOf x).run P w = .ok m w) (hf : (Builtin.firstCells i.size m x).run P w.drew = .ok cells.toArray w.drew) (hfit : ¬ sLen + m ≤ sCap)
    (hold : (Builtin.firstCells i.size sLen (.slice base sLen sCap)).run P w.drew = .ok old.toArray w.drew) (hroom : i.bytes * (sLen + m) ≤ 140737488355328) :
    ∃ c spare, sLen + m ≤ c ∧ spare.length = (c - (sLen + m)) * i.size ∧ (Builtin.append_ ts ty #[.slice base sLen sCap, x]).run P w =
      .ok (.slice (some ⟨w.heap.size, 0, none⟩) (sLen + m) c) { w.drew with heap := w.heap.push (.cells (old ++ cells ++ spare).toArray et) } := by
  refine ⟨(Question.appendCap (sLen + m) sCap et).cut (w.tape w.drawn (.appendCap (sLen + m) sCap et)), (Builtin.zeroCells z.cells ((Question.appendCap (sLen + m) sCap et).cut (w.tape w.drawn (.appendCap (sLen + m) sCap et)) - (sLen + m))).toList, by simp [Question.cut], by simp [Builtin.zeroCells, hzs], ?_⟩
  have hsz : ∀ w, (sizeOf et).run P w = .ok i.size w := fun w => by simp [sizeOf, typeInfo, hi]
  have hcap := nextcap_le (show sCap < sLen + m by omega)
  have hcapb : ¬ (281474976710656 < Builtin.nextslicecap (sLen + m) sCap * i.bytes) := by
    have : Builtin.nextslicecap (sLen + m) sCap * i.bytes ≤ 2 * (sLen + m) * i.bytes := Nat.mul_le_mul_right _ hcap
    have e : 2 * (sLen + m) * i.bytes = 2 * (i.bytes * (sLen + m)) := by rw [Nat.mul_assoc, Nat.mul_comm (sLen + m)]
    omega
  have hnb : ¬ i.bytes = 0 := by omega
  have hd' := notInt_eq hd
  have hzr : ∀ w, (zeroValue et).run P w = .ok z w := fun w => zeroValue_run hi hz w
  have harr : ∀ Z : Array Value, old.toArray ++ (cells.toArray ++ Z) = (old ++ (cells ++ Z.toList)).toArray := fun Z => by apply Array.ext'; simp
  simp [Builtin.append_, h0, h1, run_underlying ht, run_underlying ht2, hsz, hx, hfit, typeInfo, hi, hnb, hcapb, hd', Question.forced, hold, hf, hzr, run_newRow]
  rw [harr]
  rfl
theorem copy_run {ts : Array TypeId} {t et ty : TypeId} {sz m l cap : Nat} {base : Option Addr} {x : Value} {cells : List Value} {w w' : World} (h0 : ts[0]? = some t) (ht : P.underlying t = some (.slice et)) (hsz : (sizeOf et).run P w = .ok sz w)
    (hx : (Builtin.lenOf x).run P w = .ok m w) (hf : (Builtin.firstCells sz (min m l) x).run P w = .ok cells.toArray w)
    (hrun : match base with | some a => (storeCells a cells).run P w = .ok () w' | none => w' = w) :
    (Builtin.copy_ ts ty #[.slice base l cap, x]).run P w = .ok (goInt (min m l : Nat)) w' := by
  have hmin : m.min l = min m l := rfl
  cases base with
  | none => subst hrun; simp [Builtin.copy_, h0, run_underlying ht, hx, hsz, hmin, hf]
  | some a => simp [Builtin.copy_, h0, run_underlying ht, hx, hsz, hmin, hf, hrun]
theorem clearS_run {ts : Array TypeId} {t et ty : TypeId} {l cap : Nat} {a : Addr} {i : TypeInfo} {zv : Value} {w w' : World} (h0 : ts[0]? = some t) (ht : P.underlying t = some (.slice et)) (hi : P.info? et = some i) (hz : i.zero = some zv)
    (hrun : (storeCells a (List.replicate (l + 1) zv.cells.toList).flatten).run P w = .ok () w') :
    (Builtin.clear_ ts ty #[.slice (some a) (l + 1) cap]).run P w = .ok (.tuple #[]) w' := by
  have hc : (Builtin.zeroCells zv.cells (l + 1)).toList = (List.replicate (l + 1) zv.cells.toList).flatten := range_mod_arr _ _
  simp [Builtin.clear_, h0, run_underlying ht, zeroValue_run hi hz, hc, hrun]

/-! ### Elements -/
def ElsR (σ : Sg) : Els → List Value → Prop
  | .cs l, vs => VRs σ l vs
  | .bs l m, vs => vs = (bys l m).map bval
theorem ElsR.mono {τ : Sg} (h : Le σ τ) {e : Els} {vs : List Value} (k : ElsR σ e vs) : ElsR τ e vs := by
  cases e with
  | cs l => exact VRs.mono h k
  | bs l m => exact k
theorem lenOf_sound {c : CV} {v : Value} (hv : VR σ c v) {m : Nat} (h : lenOf c = some m) (w : World) : (Builtin.lenOf v).run P w = .ok m w := by
  unfold lenOf at h
  split at h
  · simp only [VR] at hv; subst hv; cases h; rfl
  · rename_i l x; simp only [VR] at hv; subst hv; cases h; simp [Builtin.lenOf, ByteArray.size, bys_len]
  · simp only [VR] at hv; obtain ⟨_, _, _, _, _, rfl, _⟩ := hv; cases h; rfl
  · cases h
theorem elsOf_sound (hR : Rel w0 σ hp n w) {c : CV} {v : Value} (hv : VR σ c v) {u8 : Bool} {s m : Nat} {e : Els} (h : elsOf hp u8 s c m = some e) (h1 : 1 ≤ s) (h8 : u8 = true → s = 1) :
    ∃ vs, ElsR σ e vs ∧ vs.length = m * s ∧ ∀ w', (∀ a, w'.cell? a = w.cell? a) → (Builtin.firstCells s m v).run P w' = .ok vs.toArray w' := by
  unfold elsOf at h
  split at h
  · obtain ⟨h2, h3⟩ := cbif h
    have := Nat.eq_of_beq_eq_true h2; subst this
    simp only [VR] at hv; subst hv
    refine ⟨[], ?_, by simp, fun w' _ => rfl⟩
    cases h3; cases u8 <;> simp [ElsR, VRs, bys]
  · rename_i l x
    obtain ⟨h2, h3⟩ := cbif h
    obtain ⟨h4, h5⟩ := cbif h3
    cases h5
    have h4 := Nat.le_of_ble_eq_true h4
    have := h8 h2; subst this
    simp only [VR] at hv; subst hv
    refine ⟨(bys m x).map bval, rfl, by simp [bys_len], fun w' _ => ?_⟩
    have e := extract_bys l x 0 m h4 (Nat.zero_le _)
    simp only [Builtin.firstCells, Sem.run_pure]
    rw [e]
    congr 1
    simp only [Nat.sub_zero]
    have e2 : bys m (bsub x 0 m) = bys m x := by unfold bsub; rw [bys_mod, pw_zero, Nat.div_one]
    rw [e2]
    apply Array.ext'; simp [bval]
  · rename_i b o s' l kk ex
    obtain ⟨h2, h3⟩ := cbif h
    have := Nat.eq_of_beq_eq_true h2; subst this
    obtain ⟨h4, h5⟩ := cbif h3
    have h4 := Nat.le_of_ble_eq_true h4
    simp only [VR] at hv; obtain ⟨p, t, o', C, hs, rfl, hlk, hkc, hex, ho, hle, heq⟩ := hv
    cases hm0 : Nat.beq m 0
    · rw [hm0] at h5; simp only [cond_false] at h5
      have hm : m ≠ 0 := fun e => by rw [e] at hm0; cases hm0
      have hoo := ho (.inl (by omega)); subst hoo
      have rd : ∀ (vs ws : List Value) (fz : Bool), Row w p t ws fz → vs.length = m * s → (∀ j v, vs[j]? = some v → ws[o' + j]? = some v) → ∀ w', (∀ a, w'.cell? a = w.cell? a) → (Builtin.firstCells s m (.slice (some ⟨p, o', none⟩) l C)).run P w' = .ok vs.toArray w' := by
        intro vs ws fz hrow hl hj w' hw'
        simp only [Builtin.firstCells]
        rw [← hl]
        exact run_loadCells _ vs w' (fun j v hv => by rw [hw', add_eq]; exact (hrow.cell (hj j v hv)).1)
      cases hu : u8
      · rw [hu] at h5; simp only [cond_false] at h5
        split at h5
        · rename_i cs hc
          split at h5
          · rename_i r hr
            cases h5
            obtain ⟨ws, g1, g2⟩ := hR.at hs hc (by simp)
            obtain ⟨a1, a2, a3⟩ := (g1.drop (n := o')).take hr
            refine ⟨_, a1, by rw [List.length_take]; omega, rd _ ws _ g2 (by rw [List.length_take]; omega) (fun j v hj => ?_)⟩
            have hlt := (List.getElem?_eq_some_iff.1 hj).1
            rw [List.getElem?_take_of_lt (by simp at hlt; omega), List.getElem?_drop] at hj
            exact hj
          · cases h5
        · cases h5
      · rw [hu] at h5; simp only [cond_true] at h5
        have := h8 hu; subst this
        split at h5
        · rename_i kk2 x hc
          obtain ⟨h6, h7⟩ := cbif h5
          cases h7
          have h6 := Nat.le_of_ble_eq_true h6
          have g2 : Row w p t ((bys kk2 x).map bval) true := hR.at hs hc (by simp)
          refine ⟨(bys m (bsub x o' m)).map bval, rfl, by simp [bys_len], rd _ _ _ g2 (by simp [bys_len]) (fun j v hj => ?_)⟩
          have hlt := (List.getElem?_eq_some_iff.1 hj).1
          rw [List.length_map, bys_len] at hlt
          rw [← bys_sub kk2 x o' m h6, List.getElem?_map, List.getElem?_take_of_lt hlt, List.getElem?_drop, ← List.getElem?_map] at hj
          exact hj
        · cases h5
    · rw [hm0] at h5; simp only [cond_true] at h5
      have := Nat.eq_of_beq_eq_true hm0; subst this
      refine ⟨[], ?_, by simp, fun w' _ => by simp [Builtin.firstCells, loadCells, loadCellsFrom]⟩
      cases h5; cases u8 <;> simp [ElsR, VRs, bys]
  · cases h
theorem Row.len {p t : Nat} {vs : List Value} {fz : Bool} (h : Row w p t vs fz) : vs.length ≤ t := by
  obtain ⟨arr, _, _, _, _, q1, ⟨sp, q2⟩, _⟩ := h; have := congrArg List.length q2; simp at this; omega
end
end Go.Cx
