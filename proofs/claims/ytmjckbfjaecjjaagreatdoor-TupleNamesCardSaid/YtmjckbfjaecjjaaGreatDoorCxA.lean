/- A run with values written out: its data. -/
import Derived.Calls
import Derived.Below
import Derived.Orders
set_option linter.unusedVariables false
namespace Go.Cx
noncomputable section

/-! ### Kinds by number -/
def kc : Nat → IntKind
  | 0 => .i8 | 1 => .i16 | 2 => .i32 | 3 => .i64 | 4 => .u8 | 5 => .u16 | 6 => .u32 | _ => .u64
def kn : IntKind → Nat
  | .i8 => 0 | .i16 => 1 | .i32 => 2 | .i64 => 3 | .u8 => 4 | .u16 => 5 | .u32 => 6 | .u64 => 7
def hiN : Nat → Nat
  | 0 => 127 | 1 => 32767 | 2 => 2147483647 | 3 => 9223372036854775807 | 4 => 255 | 5 => 65535 | 6 => 4294967295 | _ => 18446744073709551615
def loN : Nat → Nat
  | 0 => 128 | 1 => 32768 | 2 => 2147483648 | 3 => 9223372036854775808 | _ => 0
def fits (k : Nat) (n : Int) : Bool := match n with | .ofNat m => Nat.ble m (hiN k) | .negSucc m => Nat.blt m (loN k)
def wrapK (k : Nat) (n : Int) : Int := bif fits k n then n else (kc k).wrap n

/-! ### Two types: bytes, strings.Builder -/
def u8T : Nat := 5
def bldT : Nat := 50

/-! ### Values -/
inductive CV where
  | int (k : Nat) (n : Int) | bool (b : Bool) | str (l n : Nat)
  | ptr (b o : Nat) | nilp
  | slice (b o s l k : Nat) (ex : Bool) | nils
  | map (b : Nat) | nilm
  | fn (f : Nat) (first caps : List CV) | mth (name : String) (recv : CV) | yld (l : Nat) | nilf
  | ifc (t : Nat) (v : CV) | nili
  | agg (cs : List CV) | tup (vs : List CV)
  | junk
  deriving Inhabited

structure Ent where
  key : CV
  val : CV
  born : Nat
  deriving Inhabited

/-! ### Eight places -/
structure O (α : Type) where
  c0 : α
  c1 : α
  c2 : α
  c3 : α
  c4 : α
  c5 : α
  c6 : α
  c7 : α
def sel {α : Type} (c0 c1 c2 c3 c4 c5 c6 c7 : α) (d : Nat) : α :=
  @Nat.rec (fun _ => α) c0 (fun d _ => @Nat.rec (fun _ => α) c1 (fun d _ => @Nat.rec (fun _ => α) c2 (fun d _ => @Nat.rec (fun _ => α) c3 (fun d _ =>
    @Nat.rec (fun _ => α) c4 (fun d _ => @Nat.rec (fun _ => α) c5 (fun d _ => @Nat.rec (fun _ => α) c6 (fun _ _ => c7) d) d) d) d) d) d) d
def og {α : Type} (o : O α) (d : Nat) : α := @O.rec α (fun _ => α) (fun c0 c1 c2 c3 c4 c5 c6 c7 => sel c0 c1 c2 c3 c4 c5 c6 c7 d) o
def os {α : Type} (f : α → α) (o : O α) (d : Nat) : O α :=
  @O.rec α (fun _ => O α) (fun c0 c1 c2 c3 c4 c5 c6 c7 => sel ⟨f c0, c1, c2, c3, c4, c5, c6, c7⟩ ⟨c0, f c1, c2, c3, c4, c5, c6, c7⟩ ⟨c0, c1, f c2, c3, c4, c5, c6, c7⟩ ⟨c0, c1, c2, f c3, c4, c5, c6, c7⟩
    ⟨c0, c1, c2, c3, f c4, c5, c6, c7⟩ ⟨c0, c1, c2, c3, c4, f c5, c6, c7⟩ ⟨c0, c1, c2, c3, c4, c5, f c6, c7⟩ ⟨c0, c1, c2, c3, c4, c5, c6, f c7⟩ d) o
def oe {α : Type} (a : α) : O α := ⟨a, a, a, a, a, a, a, a⟩
/-- A frame: how many places it has, and these. -/
structure F where
  n : Nat
  o : O (O (O CV))
def F0 (n : Nat) : F := ⟨n, oe (oe (oe .junk))⟩
def fget (f : F) (i : Nat) : CV := @F.rec (fun _ => CV) (fun _ o => og (og (og o (i / 64)) (i / 8 % 8)) (i % 8)) f
def fput (f : F) (i : Nat) (v : CV) : F := @F.rec (fun _ => F) (fun n o => ⟨n, os (fun g => os (fun h => os (fun _ => v) h (i % 8)) g (i / 8 % 8)) o (i / 64)⟩) f
/-- Places 0 to 510 are a frame's; 511 keeps its deferred calls. -/
def fset (f : F) (i : Nat) (v : CV) : F := @F.rec (fun _ => F) (fun n o => bif Nat.blt i n then ⟨n, os (fun g => os (fun h => os (fun _ => v) h (i % 8)) g (i / 8 % 8)) o (i / 64)⟩ else ⟨n, o⟩) f
def fg (f : F) (i : Nat) : CV := @F.rec (fun _ => CV) (fun n o => bif Nat.blt i n then og (og (og o (i / 64)) (i / 8 % 8)) (i % 8) else .junk) f
def dfSlot : Nat := 511

/-- What lies in a block. -/
inductive Ck where
  | no
  | cells (cs : List CV)
  | bytes (l n : Nat)
  | map (es : List Ent) (clock : Nat)
  | iter (m since : Nat) (seen : List Nat) (stepped : Nat)
  | siter (l n pos : Nat)
  | iter0
  | dfr
  | loop (fn : Nat) (fr : F) (ps : List Nat) (assign body : Code) (db : Nat) (st : Nat) (pend : Option Code)
  | tcells (cs : List CV)
abbrev H := O (O (O (O (O Ck))))
def H0 : H := oe (oe (oe (oe (oe .no))))
def hget (h : H) (i : Nat) : Ck := og (og (og (og (og h (i / 4096)) (i / 512 % 8)) (i / 64 % 8)) (i / 8 % 8)) (i % 8)
def hset (h : H) (i : Nat) (c : Ck) : H :=
  os (fun h => os (fun h => os (fun h => os (fun h => os (fun _ => c) h (i % 8)) h (i / 8 % 8)) h (i / 64 % 8)) h (i / 512 % 8)) h (i / 4096)

/-! ### Outcomes -/
structure Out where
  v : CV
  hp : H
  n : Nat
abbrev Res := Option (List Out)
def Res.cat (a b : Res) : Res := match a with | none => none | some l => (match b with | none => none | some m => some (l ++ m))

/-! ### Bytes by number: the first byte is the lowest -/
def pw (l : Nat) : Nat := 2 ^ (8 * l)
def bnth (n i : Nat) : Nat := (n / pw i) % 256
def bsub (n lo len : Nat) : Nat := (n / pw lo) % pw len
def bcat (l1 n1 n2 : Nat) : Nat := n1 % pw l1 + n2 * pw l1
/-- n with len bytes from lo on laid over by m's. -/
def bput (n lo len m l : Nat) : Nat := n % pw lo + (m % pw len) * pw lo + ((n / pw (lo + len)) % pw (l - (lo + len))) * pw (lo + len)
def ofBytes : List UInt8 → Nat
  | [] => 0
  | x :: l => x.toNat + 256 * ofBytes l
def byteCVs (n : Nat) : Nat → List CV
  | 0 => []
  | l + 1 => .int 4 (.ofNat (n % 256)) :: byteCVs (n / 256) l
def cvByte : CV → Option Nat
  | .int 4 (.ofNat m) => bif Nat.ble m 255 then some m else none
  | _ => none
def cvBytes : List CV → Option Nat
  | [] => some 0
  | c :: l => (match cvByte c with | some x => (match cvBytes l with | some y => some (x + 256 * y) | none => none) | none => none)
def bleBytes : Nat → Nat → Nat → Nat → Bool  -- is (l1, n1) less than (l2, n2)
  | _, 0, _, _ => false
  | 0, _ + 1, _, _ => true
  | l1 + 1, l2 + 1, n1, n2 => bif Nat.blt (n1 % 256) (n2 % 256) then true else bif Nat.beq (n1 % 256) (n2 % 256) then bleBytes l1 l2 (n1 / 256) (n2 / 256) else false

/-! ### Lists -/
def nthC : List CV → Nat → Option CV
  | [], _ => none
  | c :: _, 0 => some c
  | _ :: l, i + 1 => nthC l i
def takeC : Nat → List CV → Option (List CV)
  | 0, _ => some []
  | _ + 1, [] => none
  | n + 1, c :: l => (match takeC n l with | some r => some (c :: r) | none => none)
def dropC : Nat → List CV → List CV
  | 0, l => l
  | _ + 1, [] => []
  | n + 1, _ :: l => dropC n l
/-- cs laid over l from o on (it may reach beyond the end, but not begin beyond it). -/
def overC (cs : List CV) : Nat → List CV → Option (List CV)
  | 0, l => some (cs ++ dropC cs.length l)
  | _ + 1, [] => none
  | o + 1, c :: l => (match overC cs o l with | some r => some (c :: r) | none => none)
/-- cs laid over l from o on, within it. -/
def putC0 : List CV → List CV → Option (List CV)
  | [], l => some l
  | _ :: _, [] => none
  | c :: cs, _ :: l => (match putC0 cs l with | some r => some (c :: r) | none => none)
def putC (cs : List CV) : Nat → List CV → Option (List CV)
  | 0, l => putC0 cs l
  | _ + 1, [] => none
  | o + 1, c :: l => (match putC cs o l with | some r => some (c :: r) | none => none)
def repC (cs : List CV) : Nat → List CV
  | 0 => []
  | n + 1 => cs ++ repC cs n

/-! ### Equality (the letters) -/
def ibq : Int → Int → Bool
  | .ofNat a, .ofNat b => Nat.beq a b
  | .negSucc a, .negSucc b => Nat.beq a b
  | _, _ => false
def bbq : Bool → Bool → Bool
  | true, true => true | false, false => true | _, _ => false
mutual
def CV.bq : CV → CV → Bool
  | .int k a, .int j b => bif Nat.beq k j then ibq a b else false
  | .bool a, .bool b => bbq a b
  | .str l n, .str k m => bif Nat.beq l k then Nat.beq n m else false
  | .ptr b o, .ptr c p => bif Nat.beq b c then Nat.beq o p else false
  | .nilp, .nilp => true
  | .slice b o s l k e, .slice b' o' s' l' k' e' => bif Nat.beq b b' then (bif Nat.beq o o' then (bif Nat.beq s s' then (bif Nat.beq l l' then (bif Nat.beq k k' then bbq e e' else false) else false) else false) else false) else false
  | .nils, .nils => true
  | .map b, .map c => Nat.beq b c
  | .nilm, .nilm => true
  | .fn f l l', .fn g m m' => bif Nat.beq f g then (bif CVs.bq l m then CVs.bq l' m' else false) else false
  | .mth a v, .mth b w => bif a == b then CV.bq v w else false
  | .yld a, .yld b => Nat.beq a b
  | .nilf, .nilf => true
  | .ifc t v, .ifc u w => bif Nat.beq t u then CV.bq v w else false
  | .nili, .nili => true
  | .agg l, .agg m => CVs.bq l m
  | .tup l, .tup m => CVs.bq l m
  | _, _ => false
def CVs.bq : List CV → List CV → Bool
  | [], [] => true
  | a :: l, b :: m => bif CV.bq a b then CVs.bq l m else false
  | _, _ => false
end
def Ents.bq : List Ent → List Ent → Bool
  | [], [] => true
  | a :: l, b :: m => bif Nat.beq a.born b.born then (bif CV.bq a.key b.key then (bif CV.bq a.val b.val then Ents.bq l m else false) else false) else false
  | _, _ => false
def nats : List Nat → List Nat → Bool
  | [], [] => true
  | a :: l, b :: m => bif Nat.beq a b then nats l m else false
  | _, _ => false
def Ck.bq : Ck → Ck → Bool
  | .cells l, .cells m => CVs.bq l m
  | .bytes l n, .bytes k m => bif Nat.beq l k then Nat.beq n m else false
  | .map l c, .map m d => bif Nat.beq c d then Ents.bq l m else false
  | .iter a b c d, .iter a' b' c' d' => bif Nat.beq a a' then (bif Nat.beq b b' then (bif nats c c' then Nat.beq d d' else false) else false) else false
  | .siter a b c, .siter a' b' c' => bif Nat.beq a a' then (bif Nat.beq b b' then Nat.beq c c' else false) else false
  | .iter0, .iter0 => true
  | .dfr, .dfr => true
  | .no, .no => true
  | .tcells l, .tcells m => CVs.bq l m
  | _, _ => false

/-! ### Is a value told wholly? -/
mutual
def CV.det : CV → Bool
  | .slice _ _ s _ k ex => bif ex then true else (bif Nat.ble 1 k then Nat.ble 1 s else false)
  | .fn _ a b => bif CVs.det a then CVs.det b else false
  | .mth _ v => CV.det v
  | .ifc _ v => CV.det v
  | .agg l => CVs.det l
  | .tup l => CVs.det l
  | .junk => false
  | .int _ _ => true
  | .bool _ => true
  | .str _ _ => true
  | .ptr _ _ => true
  | .nilp => true
  | .nils => true
  | .map _ => true
  | .nilm => true
  | .yld _ => true
  | .nilf => true
  | .nili => true
def CVs.det : List CV → Bool
  | [] => true
  | a :: l => bif CV.det a then CVs.det l else false
end

/-! ### What several outcomes have in common -/
def Ck.meet (a b : Ck) : Ck := bif Ck.bq a b then a else .no
def om {α : Type} (f : α → α → α) (a b : O α) : O α := ⟨f a.c0 b.c0, f a.c1 b.c1, f a.c2 b.c2, f a.c3 b.c3, f a.c4 b.c4, f a.c5 b.c5, f a.c6 b.c6, f a.c7 b.c7⟩
def H.meet (a b : H) : H := om (om (om (om (om Ck.meet)))) a b
def CV.meet1 (a b : CV) : CV := bif CV.bq a b then a else .junk
def CVs.meet : List CV → List CV → List CV
  | a :: l, b :: m => CV.meet1 a b :: CVs.meet l m
  | _, _ => []
def CV.meet (a b : CV) : CV :=
  match a, b with
  | .tup l, .tup m => bif Nat.beq l.length m.length then .tup (CVs.meet l m) else .junk
  | a, b => CV.meet1 a b
def Out.meet (a b : Out) : Out := ⟨CV.meet a.v b.v, H.meet a.hp b.hp, bif Nat.ble a.n b.n then b.n else a.n⟩
def meets : Out → List Out → Out
  | o, [] => o
  | o, p :: l => meets (Out.meet o p) l
end
end Go.Cx
