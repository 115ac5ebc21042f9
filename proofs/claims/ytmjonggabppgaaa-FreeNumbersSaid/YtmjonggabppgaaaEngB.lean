/- Symbolic terms, values, chunks of memory and verification conditions, with their meaning. -/
import Derived.Test.YtmjonggabppgaaaEngA
set_option linter.unusedSimpArgs false
set_option linter.unusedVariables false
namespace Go.Eng
open Go.RowKit (Below)

inductive Srt where | int | bool | ints | bytes | rows | amap | g
  deriving Repr, Inhabited, DecidableEq
def Srt.n : Srt → Nat | .int => 0 | .bool => 1 | .ints => 2 | .bytes => 3 | .rows => 4 | .amap => 5 | .g => 6
theorem Srt.n_inj {a b : Srt} (h : a.n = b.n) : a = b := by cases a <;> cases b <;> first | rfl | (simp [Srt.n] at h)

inductive U (G : Type) where
  | int (n : Int) | bool (b : Bool) | prop (p : Prop) | ints (l : List Int) | bytes (l : List UInt8) | rows (l : List (List Int))
  | amap (l : List (Int × Int)) | val (v : Value) | g (x : G)

namespace U
variable {G : Type}
def toInt : U G → Int | .int n => n | _ => 0
def toBool : U G → Bool | .bool b => b | _ => false
def toProp : U G → Prop | .prop p => p | .bool b => b = true | _ => False
def toInts : U G → List Int | .ints l => l | _ => []
def toBytes : U G → List UInt8 | .bytes l => l | _ => []
def toRows : U G → List (List Int) | .rows l => l | _ => []
def toMap : U G → List (Int × Int) | .amap l => l | _ => []
def toVal : U G → Value | .val v => v | _ => .nilFunc
@[simp] theorem toInt_int (n : Int) : (U.int n : U G).toInt = n := rfl
@[simp] theorem toBool_bool (b : Bool) : (U.bool b : U G).toBool = b := rfl
@[simp] theorem toProp_bool (b : Bool) : (U.bool b : U G).toProp = (b = true) := rfl
@[simp] theorem toProp_prop (p : Prop) : (U.prop p : U G).toProp = p := rfl
@[simp] theorem toInts_ints (l : List Int) : (U.ints l : U G).toInts = l := rfl
@[simp] theorem toBytes_bytes (l : List UInt8) : (U.bytes l : U G).toBytes = l := rfl
@[simp] theorem toRows_rows (l : List (List Int)) : (U.rows l : U G).toRows = l := rfl
@[simp] theorem toMap_amap (l : List (Int × Int)) : (U.amap l : U G).toMap = l := rfl
end U

structure Sig (G : Type) where
  dg : G
  ch : Nat → Bool
  usr : Nat → U G → U G → U G → U G → U G
  prd : Nat → World → U G → U G → HProp

def U.co {G : Type} (S : Sig G) : Srt → U G → U G
  | .int, u => .int u.toInt | .bool, u => .bool u.toBool | .ints, u => .ints u.toInts | .bytes, u => .bytes u.toBytes
  | .rows, u => .rows u.toRows | .amap, u => .amap u.toMap
  | .g, u => (match u with | .g x => .g x | _ => .g S.dg)
theorem U.co_co {G : Type} (S : Sig G) (s : Srt) (u : U G) : U.co S s (U.co S s u) = U.co S s u := by
  cases s <;> try rfl
  cases u <;> rfl

/-- Terms. f1, f2, f3: the functions of this library, by number; us: the user's. -/
inductive SX where
  | int (n : Int) | bool (b : Bool) | byt (l : List UInt8) | at (s : Srt) (i : Nat)
  | f1 (f : Nat) (a : SX) | f2 (f : Nat) (a b : SX) | f3 (f : Nat) (a b c : SX) | us (s : Srt) (f : Nat) (a b c d : SX)
  deriving Repr, Inhabited

def kc : Nat → IntKind
  | 0 => .i8 | 1 => .i16 | 2 => .i32 | 3 => .i64 | 4 => .u8 | 5 => .u16 | 6 => .u32 | _ => .u64
def kn : IntKind → Nat
  | .i8 => 0 | .i16 => 1 | .i32 => 2 | .i64 => 3 | .u8 => 4 | .u16 => 5 | .u32 => 6 | .u64 => 7
theorem kc_kn (k : IntKind) : kc (kn k) = k := by cases k <;> rfl

def bitsV (op : BinOp) (k : IntKind) (x y : Int) : Int :=
  let a := BitVec.ofInt k.bits x
  let b := BitVec.ofInt k.bits y
  k.wrap (match op with | .and => a &&& b | .or => a ||| b | .xor => a ^^^ b | _ => a &&& ~~~b).toNat

def mget (d : Int) : List (Int × Int) → Int → Int
  | [], _ => d
  | (k, v) :: l, x => if k = x then v else mget d l x
def mhas : List (Int × Int) → Int → Bool
  | [], _ => false
  | (k, _) :: l, x => if k = x then true else mhas l x
def mset : List (Int × Int) → Int → Int → List (Int × Int)
  | [], x, y => [(x, y)]
  | (k, v) :: l, x, y => if k = x then (x, y) :: l else (k, v) :: mset l x y
def mdel : List (Int × Int) → Int → List (Int × Int)
  | [], _ => []
  | (k, v) :: l, x => if k = x then l else (k, v) :: mdel l x

/-- The register of the check sum CRC-32C, half a byte at a time, behind these bytes. -/
def crcTab : List Nat := [0, 274646895, 549293790, 820201905, 1098587580, 1361435347, 1640403810, 1905808397, 2197175160, 2460548119, 2722870694, 2987750089, 3280807620, 3553878443, 3811616794, 4084100981]
def crcHalf (r : Nat) : Nat := Nat.xor (crcTab.getD (Nat.land r 15) 0) (r / 16)
def crcByte (r x : Nat) : Nat := crcHalf (crcHalf (Nat.xor r x))
def crcRun : Nat → List UInt8 → Nat
  | r, [] => r
  | r, x :: l => crcRun (crcByte r x.toNat) l

section
variable {G : Type}
def ap1 (f : Nat) (a : U G) : U G :=
  match f with
  | 160 => .int (crcRun 4294967295 a.toBytes : Nat)
  | 1 => .int (-a.toInt) | 2 => .bool (!a.toBool) | 3 => .int (if a.toBool then 1 else 0) | 4 => .int a.toInt
  | 30 => .int a.toInts.length | 31 => .int a.toBytes.length | 32 => .int a.toRows.length | 33 => .int a.toMap.length
  | 152 => .ints [] | 153 => .bytes [] | 154 => .rows [] | 155 => .amap []
  | f => if 10 ≤ f ∧ f ≤ 17 then .int ((kc (f - 10)).wrap a.toInt)
         else if 20 ≤ f ∧ f ≤ 27 then .bool (decide ((kc (f - 20)).min ≤ a.toInt) && decide (a.toInt ≤ (kc (f - 20)).max))
         else .int 0
def ap2 (f : Nat) (a b : U G) : U G :=
  match f with
  | 40 => .int (a.toInt + b.toInt) | 41 => .int (a.toInt - b.toInt) | 42 => .int (a.toInt * b.toInt)
  | 43 => .int (a.toInt.tdiv b.toInt) | 44 => .int (a.toInt.tmod b.toInt)
  | 45 => .bool (a.toInt == b.toInt) | 46 => .bool (decide (a.toInt < b.toInt)) | 47 => .bool (decide (a.toInt ≤ b.toInt))
  | 48 => .bool (a.toBool == b.toBool) | 49 => .bool (a.toBool && b.toBool) | 50 => .bool (a.toBool || b.toBool)
  | 51 => .int (if b.toInt < a.toInt then b.toInt else a.toInt) | 52 => .int (if b.toInt > a.toInt then b.toInt else a.toInt)
  | 110 => .int (a.toInts.getD b.toInt.toNat 0) | 111 => .int ((a.toBytes.getD b.toInt.toNat 0).toNat : Nat)
  | 113 => .ints (a.toInts.take b.toInt.toNat) | 114 => .bytes (a.toBytes.take b.toInt.toNat) | 115 => .rows (a.toRows.take b.toInt.toNat)
  | 116 => .ints (a.toInts.drop b.toInt.toNat) | 117 => .bytes (a.toBytes.drop b.toInt.toNat) | 118 => .rows (a.toRows.drop b.toInt.toNat)
  | 119 => .ints (a.toInts ++ b.toInts) | 120 => .bytes (a.toBytes ++ b.toBytes) | 121 => .rows (a.toRows ++ b.toRows)
  | 122 => .ints (a.toInt :: b.toInts) | 123 => .bytes (UInt8.ofNat a.toInt.toNat :: b.toBytes) | 124 => .rows (a.toInts :: b.toRows)
  | 125 => .ints (List.replicate a.toInt.toNat b.toInt) | 126 => .bytes (List.replicate a.toInt.toNat (UInt8.ofNat b.toInt.toNat)) | 127 => .rows (List.replicate a.toInt.toNat b.toInts)
  | 141 => .bool (mhas a.toMap b.toInt) | 143 => .amap (mdel a.toMap b.toInt)
  | 150 => .bool (a.toBytes == b.toBytes) | 151 => .bool (Op.bytesLess a.toBytes b.toBytes)
  | f => if 60 ≤ f ∧ f ≤ 67 then .int (bitsV .and (kc (f - 60)) a.toInt b.toInt)
         else if 68 ≤ f ∧ f ≤ 75 then .int (bitsV .or (kc (f - 68)) a.toInt b.toInt)
         else if 76 ≤ f ∧ f ≤ 83 then .int (bitsV .xor (kc (f - 76)) a.toInt b.toInt)
         else if 84 ≤ f ∧ f ≤ 91 then .int (bitsV .andNot (kc (f - 84)) a.toInt b.toInt)
         else if 92 ≤ f ∧ f ≤ 99 then .int ((kc (f - 92)).wrap (a.toInt * 2 ^ (min b.toInt.toNat (kc (f - 92)).bits)))
         else if 100 ≤ f ∧ f ≤ 107 then .int (a.toInt.fdiv (2 ^ (min b.toInt.toNat (kc (f - 100)).bits)))
         else .int 0
def ap3 (f : Nat) (a b c : U G) : U G :=
  match f with
  | 112 => .int ((a.toRows.getD b.toInt.toNat []).getD c.toInt.toNat 0)
  | 130 => .ints (a.toInts.set b.toInt.toNat c.toInt) | 131 => .bytes (a.toBytes.set b.toInt.toNat (UInt8.ofNat c.toInt.toNat)) | 132 => .rows (a.toRows.set b.toInt.toNat c.toInts)
  | 133 => .int (if a.toBool then b.toInt else c.toInt) | 134 => .bool (if a.toBool then b.toBool else c.toBool)
  | 140 => .int (mget a.toInt b.toMap c.toInt) | 142 => .amap (mset a.toMap b.toInt c.toInt)
  | _ => .int 0

abbrev Env (G : Type) := Nat → U G

def SX.den (S : Sig G) (ρ : Env G) : SX → U G
  | .int n => .int n | .bool b => .bool b | .byt l => .bytes l | .at s i => U.co S s (ρ i)
  | .f1 f a => ap1 f (a.den S ρ)
  | .f2 f a b => ap2 f (a.den S ρ) (b.den S ρ)
  | .f3 f a b c => ap3 f (a.den S ρ) (b.den S ρ) (c.den S ρ)
  | .us s f a b c d => U.co S s (S.usr f (a.den S ρ) (b.den S ρ) (c.den S ρ) (d.den S ρ))
end

def ibq : Int → Int → Bool
  | .ofNat a, .ofNat b => Nat.beq a b
  | .negSucc a, .negSucc b => Nat.beq a b
  | _, _ => false
theorem ibq_eq {a b : Int} (h : ibq a b = true) : a = b := by
  cases a <;> cases b <;> simp only [ibq, reduceCtorEq] at h
  · rw [Nat.eq_of_beq_eq_true h]
  · rw [Nat.eq_of_beq_eq_true h]
theorem ibq_refl (a : Int) : ibq a a = true := by cases a <;> simp [ibq]
def bbq : Bool → Bool → Bool
  | true, true => true | false, false => true | _, _ => false
theorem bbq_eq {a b : Bool} (h : bbq a b = true) : a = b := by cases a <;> cases b <;> simp_all [bbq]
def lbq : List UInt8 → List UInt8 → Bool
  | [], [] => true
  | a :: l, b :: m => bif Nat.beq a.toNat b.toNat then lbq l m else false
  | _, _ => false
theorem lbq_eq : ∀ {a b : List UInt8}, lbq a b = true → a = b
  | [], [], _ => rfl
  | a :: l, b :: m, h => by
    unfold lbq at h
    cases hn : Nat.beq a.toNat b.toNat
    · rw [hn] at h; cases h
    · rw [hn] at h
      have := Nat.eq_of_beq_eq_true hn
      rw [lbq_eq (a := l) (b := m) h, UInt8.toNat_inj.1 this]
  | [], _ :: _, h => by cases h
  | _ :: _, [], h => by cases h

def SX.bq : SX → SX → Bool
  | .int a, .int b => ibq a b
  | .bool a, .bool b => bbq a b
  | .byt a, .byt b => lbq a b
  | .at s i, .at t j => bif Nat.beq s.n t.n then Nat.beq i j else false
  | .f1 f a, .f1 g b => bif Nat.beq f g then SX.bq a b else false
  | .f2 f a a', .f2 g b b' => bif Nat.beq f g then (bif SX.bq a b then SX.bq a' b' else false) else false
  | .f3 f a a' a'', .f3 g b b' b'' => bif Nat.beq f g then (bif SX.bq a b then (bif SX.bq a' b' then SX.bq a'' b'' else false) else false) else false
  | .us s f a a' a'' a3, .us t g b b' b'' b3 => bif (bif Nat.beq f g then Nat.beq s.n t.n else false) then (bif SX.bq a b then (bif SX.bq a' b' then (bif SX.bq a'' b'' then SX.bq a3 b3 else false) else false) else false) else false
  | _, _ => false
theorem SX.bq_eq : ∀ {a b : SX}, SX.bq a b = true → a = b := by
  intro a
  induction a with
  | int n => intro b h; cases b <;> simp [SX.bq] at h; rw [ibq_eq h]
  | bool n => intro b h; cases b <;> simp [SX.bq] at h; rw [bbq_eq h]
  | byt n => intro b h; cases b <;> simp [SX.bq] at h; rw [lbq_eq h]
  | «at» s n => intro b h; cases b <;> simp [SX.bq, Bool.cond_eq_ite] at h; rw [Srt.n_inj h.1, h.2]
  | f1 f a ih => intro b h; cases b <;> simp [SX.bq, Bool.cond_eq_ite] at h; rw [h.1, ih h.2]
  | f2 f a a' ih ih' => intro b h; cases b <;> simp [SX.bq, Bool.cond_eq_ite] at h; rw [h.1, ih h.2.1, ih' h.2.2]
  | f3 f a a' a'' ih ih' ih'' => intro b h; cases b <;> simp [SX.bq, Bool.cond_eq_ite] at h; rw [h.1, ih h.2.1, ih' h.2.2.1, ih'' h.2.2.2]
  | us s f a a' a'' a3 ih ih' ih'' ih3 => intro b h; cases b <;> simp [SX.bq, Bool.cond_eq_ite] at h; rw [h.1.1, Srt.n_inj h.1.2, ih h.2.1, ih' h.2.2.1, ih'' h.2.2.2.1, ih3 h.2.2.2.2]

/-- Every atom lies below n. -/
def SX.lt (n : Nat) : SX → Bool
  | .int _ | .bool _ | .byt _ => true
  | .at _ i => Nat.blt i n
  | .f1 _ a => a.lt n
  | .f2 _ a b => bif a.lt n then b.lt n else false
  | .f3 _ a b c => bif a.lt n then (bif b.lt n then c.lt n else false) else false
  | .us _ _ a b c d => bif a.lt n then (bif b.lt n then (bif c.lt n then d.lt n else false) else false) else false

def Ext {G : Type} (n : Nat) (ρ ρ' : Env G) : Prop := ∀ i, i < n → ρ' i = ρ i
theorem Ext.refl {G : Type} (n : Nat) (ρ : Env G) : Ext n ρ ρ := fun _ _ => rfl
theorem Ext.trans {G : Type} {n m : Nat} {a b c : Env G} (h : Ext n a b) (k : Ext m b c) (hm : n ≤ m) : Ext n a c :=
  fun i hi => (k i (Nat.lt_of_lt_of_le hi hm)).trans (h i hi)

section
variable {G : Type} (S : Sig G)
theorem SX.den_ext {n : Nat} {ρ ρ' : Env G} (h : Ext n ρ ρ') : ∀ {e : SX}, e.lt n = true → e.den S ρ' = e.den S ρ := by
  intro e
  induction e with
  | int n => intro _; rfl
  | bool n => intro _; rfl
  | byt n => intro _; rfl
  | «at» s i => intro hl; simp only [SX.den]; rw [h i (by simpa [SX.lt, Nat.blt_eq] using hl)]
  | f1 f a ih => intro hl; simp only [SX.den]; rw [ih hl]
  | f2 f a b ih ih' => intro hl; simp [SX.lt, Bool.cond_eq_ite] at hl; simp only [SX.den]; rw [ih hl.1, ih' hl.2]
  | f3 f a b c ih ih' ih'' => intro hl; simp [SX.lt, Bool.cond_eq_ite] at hl; simp only [SX.den]; rw [ih hl.1, ih' hl.2.1, ih'' hl.2.2]
  | us s f a b c d ih ih' ih'' ih3 => intro hl; simp [SX.lt, Bool.cond_eq_ite] at hl; simp only [SX.den]; rw [ih hl.1, ih' hl.2.1, ih'' hl.2.2.1, ih3 hl.2.2.2]
end

/-- Surely an integer. -/
def SX.isI : SX → Bool
  | .int _ | .at .int _ => true
  | .us .int _ _ _ _ _ => true
  | .f1 f _ => (match f with | 1 | 3 | 4 | 30 | 31 | 32 | 33 | 160 => true | _ => bif Nat.ble 10 f then Nat.ble f 17 else false)
  | .f2 f _ _ => (match f with | 40 | 41 | 42 | 43 | 44 | 51 | 52 | 110 | 111 => true | _ => bif Nat.ble 60 f then Nat.ble f 107 else false)
  | .f3 f _ _ _ => (match f with | 112 | 140 | 133 => true | _ => false)
  | _ => false
theorem SX.isI_den {G : Type} (S : Sig G) (ρ : Env G) {e : SX} (h : e.isI = true) : ∃ n, e.den S ρ = .int n := by
  cases e with
  | int n => exact ⟨n, rfl⟩
  | bool b => cases h
  | byt b => cases h
  | «at» s i => cases s <;> first | exact ⟨_, rfl⟩ | (cases h)
  | us s f a b c d => cases s <;> first | exact ⟨_, rfl⟩ | (cases h)
  | f1 f a =>
    simp only [SX.isI] at h
    simp only [SX.den]
    unfold ap1
    split <;> first | exact ⟨_, rfl⟩ | (exfalso; revert h; simp; done) | skip
    rename_i f _ _ _ _ _ _ _ _ _ _ _ _ _
    split at h <;> first | contradiction | skip
    simp [Bool.cond_eq_ite] at h
    rw [if_pos h]; exact ⟨_, rfl⟩
  | f2 f a b =>
    simp only [SX.isI] at h
    simp only [SX.den]
    unfold ap2
    split <;> first | exact ⟨_, rfl⟩ | (exfalso; revert h; simp; done) | skip
    split at h <;> first | contradiction | skip
    simp [Bool.cond_eq_ite] at h
    repeat' split
    all_goals first | exact ⟨_, rfl⟩ | skip
  | f3 f a b c =>
    simp only [SX.isI] at h
    simp only [SX.den]
    unfold ap3
    split <;> first | exact ⟨_, rfl⟩ | (exfalso; revert h; simp; done) | skip
    all_goals (split at h <;> first | contradiction | (cases h))
theorem SX.isI_toInt {G : Type} (S : Sig G) (ρ : Env G) {e : SX} (h : e.isI = true) : U.int (e.den S ρ).toInt = e.den S ρ := by
  obtain ⟨n, hn⟩ := SX.isI_den S ρ h
  rw [hn]; rfl

/-! ### Simplifying constructors -/
def SX.addL (x : SX) (y : Int) : SX :=
  bif ibq y 0 then (bif x.isI then x else .f2 40 x (.int y)) else .f2 40 x (.int y)
def SX.mkAdd : SX → SX → SX
  | .int x, .int y => .int (x + y)
  | .f2 40 z (.int w), .int y => SX.addL z (w + y)
  | x, .int y => SX.addL x y
  | .int x, y => SX.addL y x
  | .f2 40 z (.int w), y => .f2 40 (.f2 40 z y) (.int w)
  | x, y => .f2 40 x y
def SX.mk2 (f : Nat) (a b : SX) : SX :=
  match f with
  | 40 => SX.mkAdd a b
  | 41 => (match a, b with | .int x, .int y => .int (x - y) | x, .int y => SX.mkAdd x (.int (-y)) | x, y => .f2 41 x y)
  | 42 => (match a, b with | .int x, .int y => .int (x * y) | x, y => .f2 42 x y)
  | 43 => (match a, b with | .int x, .int y => .int (x.tdiv y) | x, y => .f2 43 x y)
  | 44 => (match a, b with | .int x, .int y => .int (x.tmod y) | x, y => .f2 44 x y)
  | 45 => (match a, b with | .int x, .int y => .bool (ibq x y) | x, y => .f2 45 x y)
  | 46 => (match a, b with | .int x, .int y => .bool (decide (x < y)) | x, y => .f2 46 x y)
  | 47 => (match a, b with | .int x, .int y => .bool (decide (x ≤ y)) | x, y => .f2 47 x y)
  | 49 => (match a, b with | .bool false, _ => .bool false | .bool true, .bool y => .bool y | x, y => .f2 49 x y)
  | 50 => (match a, b with | .bool true, _ => .bool true | .bool false, .bool y => .bool y | x, y => .f2 50 x y)
  | 48 => (match a, b with | .bool x, .bool y => .bool (bbq x y) | x, y => .f2 48 x y)
  | 150 => (match a, b with | .byt x, .byt y => .bool (lbq x y) | x, y => .f2 150 x y)
  | 151 => (match a, b with | .byt x, .byt y => .bool (Op.bytesLess x y) | x, y => .f2 151 x y)
  | f => (match a, b with
    | .int x, .int y => bif (bif Nat.ble 51 f then Nat.ble f 107 else false) then .int (U.toInt (ap2 (G := Unit) f (.int x) (.int y))) else .f2 f (.int x) (.int y)
    | x, y => .f2 f x y)
def SX.mkLen (t : Nat) : SX → SX
  | .byt l => bif Nat.beq t 31 then .int (l.length : Nat) else .f1 t (.byt l)
  | .f1 g a => bif Nat.beq g (t + 122) then .int 0 else .f1 t (.f1 g a)
  | .f2 g a b => bif Nat.beq g (t + 89) then SX.mkAdd (SX.mkLen t a) (SX.mkLen t b)
      else bif Nat.beq g (t + 92) then SX.mkAdd (SX.mkLen t b) (.int 1)
      else bif Nat.beq g (t + 95) then (match a with | .int n => .int (n.toNat : Nat) | a => .f1 t (.f2 g a b))
      else .f1 t (.f2 g a b)
  | .f3 g a b c => bif Nat.beq g (t + 100) then SX.mkLen t a else .f1 t (.f3 g a b c)
  | x => .f1 t x
def SX.mk1I (f : Nat) (n : Int) : SX :=
  bif Nat.beq f 1 then .int (-n)
  else bif Nat.ble 10 f then (bif Nat.ble f 17 then .int ((kc (f - 10)).wrap n) else
      (bif Nat.ble 20 f then (bif Nat.ble f 27 then .bool (decide ((kc (f - 20)).min ≤ n) && decide (n ≤ (kc (f - 20)).max)) else .f1 f (.int n)) else .f1 f (.int n))) else .f1 f (.int n)
def SX.mk1 (f : Nat) (a : SX) : SX :=
  match f with
  | 30 => SX.mkLen 30 a | 31 => SX.mkLen 31 a | 32 => SX.mkLen 32 a
  | 2 => (match a with | .bool b => .bool (!b) | a => .f1 2 a)
  | 3 => (match a with | .bool b => .int (bif b then 1 else 0) | a => .f1 3 a)
  | 160 => (match a with | .byt l => .int (.ofNat (crcRun 4294967295 l)) | a => .f1 160 a)
  | f => (match a with | .int n => SX.mk1I f n | a => .f1 f a)
def SX.mk3 (f : Nat) (a b c : SX) : SX :=
  match a with
  | .bool true => (bif Nat.beq f 133 then (bif b.isI then b else .f3 f a b c) else bif Nat.beq f 134 then (match b with | .bool x => .bool x | b => .f3 f a b c) else .f3 f a b c)
  | .bool false => (bif Nat.beq f 133 then (bif c.isI then c else .f3 f a b c) else bif Nat.beq f 134 then (match c with | .bool x => .bool x | c => .f3 f a b c) else .f3 f a b c)
  | a => .f3 f a b c

section
variable {G : Type} (S : Sig G) (ρ : Env G)
theorem ibq_iff {a b : Int} : ibq a b = (a == b) := by
  by_cases h : a = b
  · subst h; simp [ibq_refl]
  · have : ibq a b = false := by cases hb : ibq a b; rfl; exact absurd (ibq_eq hb) h
    rw [this]; simp [h]
theorem lbq_beq : ∀ (a b : List UInt8), lbq a b = (a == b)
  | [], [] => rfl
  | [], _ :: _ => rfl
  | _ :: _, [] => rfl
  | a :: l, b :: m => by
    unfold lbq
    rw [lbq_beq l m]
    by_cases h : a = b
    · subst h
      have : Nat.beq a.toNat a.toNat = true := by rw [Nat.beq_eq]
      rw [this]; simp
    · have : Nat.beq a.toNat b.toNat = false := by
        cases hh : Nat.beq a.toNat b.toNat
        · rfl
        · exact absurd (UInt8.toNat_inj.1 (Nat.eq_of_beq_eq_true hh)) h
      rw [this]; simp [h]
theorem ap2_big (f : Nat) (x y : Int) (h1 : 51 ≤ f) (h2 : f ≤ 107) : (U.int (U.toInt (ap2 (G := Unit) f (.int x) (.int y))) : U G) = ap2 f (.int x) (.int y) := by
  unfold ap2
  split <;> first | rfl | (exfalso; omega) | skip
  repeat' split
  all_goals rfl
theorem SX.addL_den (x : SX) (y : Int) : (SX.addL x y).den S ρ = .int ((x.den S ρ).toInt + y) := by
  unfold SX.addL
  cases h : ibq y 0
  · rfl
  · cases hx : x.isI
    · rfl
    · have := ibq_eq h; subst this
      simp only [cond_true]; rw [Int.add_zero, SX.isI_toInt S ρ hx]
theorem SX.mkAdd_den (a b : SX) : (SX.mkAdd a b).den S ρ = .int ((a.den S ρ).toInt + (b.den S ρ).toInt) := by
  unfold SX.mkAdd
  split
  · rfl
  · rw [SX.addL_den]; simp only [SX.den, ap2, U.toInt]; congr 1; omega
  · rw [SX.addL_den]; rfl
  · rw [SX.addL_den]; simp only [SX.den, U.toInt]; congr 1; omega
  · simp only [SX.den, ap2, U.toInt]; congr 1; omega
  · rfl
theorem SX.mk2_den (f : Nat) (a b : SX) : (SX.mk2 f a b).den S ρ = (SX.f2 f a b).den S ρ := by
  unfold SX.mk2
  split
  · rw [SX.mkAdd_den]; rfl
  · split
    · rfl
    · rw [SX.mkAdd_den]; simp only [SX.den, ap2, U.toInt]; congr 1
    · rfl
  · split <;> rfl
  · split <;> rfl
  · split <;> rfl
  · split
    · simp only [SX.den, ap2, U.toInt, ibq_iff]
    · rfl
  · split <;> rfl
  · split <;> rfl
  · split <;> first | rfl | simp [SX.den, ap2, U.toBool]
  · split <;> first | rfl | simp [SX.den, ap2, U.toBool]
  · split
    · rename_i x y; simp only [SX.den, ap2, U.toBool]; cases x <;> cases y <;> rfl
    · rfl
  · split
    · simp only [SX.den, ap2, U.toBytes]; rw [lbq_beq]
    · rfl
  · split <;> rfl
  · split
    · rename_i x y
      cases h : (bif Nat.ble 51 f then Nat.ble f 107 else false)
      · rfl
      · simp only [Bool.cond_eq_ite] at h
        split at h
        · rename_i h1
          have e1 := Nat.le_of_ble_eq_true h1; have e2 := Nat.le_of_ble_eq_true h
          simp only [cond_true, SX.den]
          exact ap2_big _ _ _ e1 e2
        · cases h
    · rfl
theorem SX.mkLen30_den : ∀ (a : SX), (SX.mkLen 30 a).den S ρ = (SX.f1 30 a).den S ρ := by
  intro a
  induction a with
  | f1 g a ih =>
    unfold SX.mkLen; cases h : Nat.beq g (30 + 122)
    · rfl
    · rw [Nat.eq_of_beq_eq_true h]; rfl
  | f2 g a b ih ih' =>
    unfold SX.mkLen
    cases h : Nat.beq g (30 + 89)
    · cases h2 : Nat.beq g (30 + 92)
      · cases h3 : Nat.beq g (30 + 95)
        · rfl
        · rw [Nat.eq_of_beq_eq_true h3]; cases a <;> simp [SX.den, ap1, ap2, U.toInt, U.toInts]
      · rw [Nat.eq_of_beq_eq_true h2]; simp only [cond_false, cond_true]; rw [SX.mkAdd_den, ih']; simp [SX.den, ap1, ap2, U.toInt, U.toInts]
    · rw [Nat.eq_of_beq_eq_true h]; simp only [cond_true]; rw [SX.mkAdd_den, ih, ih']; simp [SX.den, ap1, ap2, U.toInt, U.toInts]
  | f3 g a b c ih ih' ih'' =>
    unfold SX.mkLen
    cases h : Nat.beq g (30 + 100)
    · rfl
    · rw [Nat.eq_of_beq_eq_true h]; simp only [cond_true]; rw [ih]; simp [SX.den, ap1, ap3, U.toInts]
  | _ => rfl
theorem SX.mkLen31_den : ∀ (a : SX), (SX.mkLen 31 a).den S ρ = (SX.f1 31 a).den S ρ := by
  intro a
  induction a with
  | f1 g a ih =>
    unfold SX.mkLen; cases h : Nat.beq g (31 + 122)
    · rfl
    · rw [Nat.eq_of_beq_eq_true h]; rfl
  | f2 g a b ih ih' =>
    unfold SX.mkLen
    cases h : Nat.beq g (31 + 89)
    · cases h2 : Nat.beq g (31 + 92)
      · cases h3 : Nat.beq g (31 + 95)
        · rfl
        · rw [Nat.eq_of_beq_eq_true h3]; cases a <;> simp [SX.den, ap1, ap2, U.toInt, U.toBytes]
      · rw [Nat.eq_of_beq_eq_true h2]; simp only [cond_false, cond_true]; rw [SX.mkAdd_den, ih']; simp [SX.den, ap1, ap2, U.toInt, U.toBytes]
    · rw [Nat.eq_of_beq_eq_true h]; simp only [cond_true]; rw [SX.mkAdd_den, ih, ih']; simp [SX.den, ap1, ap2, U.toInt, U.toBytes]
  | f3 g a b c ih ih' ih'' =>
    unfold SX.mkLen
    cases h : Nat.beq g (31 + 100)
    · rfl
    · rw [Nat.eq_of_beq_eq_true h]; simp only [cond_true]; rw [ih]; simp [SX.den, ap1, ap3, U.toBytes]
  | _ => rfl
theorem SX.mkLen32_den : ∀ (a : SX), (SX.mkLen 32 a).den S ρ = (SX.f1 32 a).den S ρ := by
  intro a
  induction a with
  | f1 g a ih =>
    unfold SX.mkLen; cases h : Nat.beq g (32 + 122)
    · rfl
    · rw [Nat.eq_of_beq_eq_true h]; rfl
  | f2 g a b ih ih' =>
    unfold SX.mkLen
    cases h : Nat.beq g (32 + 89)
    · cases h2 : Nat.beq g (32 + 92)
      · cases h3 : Nat.beq g (32 + 95)
        · rfl
        · rw [Nat.eq_of_beq_eq_true h3]; cases a <;> simp [SX.den, ap1, ap2, U.toInt, U.toRows]
      · rw [Nat.eq_of_beq_eq_true h2]; simp only [cond_false, cond_true]; rw [SX.mkAdd_den, ih']; simp [SX.den, ap1, ap2, U.toInt, U.toRows]
    · rw [Nat.eq_of_beq_eq_true h]; simp only [cond_true]; rw [SX.mkAdd_den, ih, ih']; simp [SX.den, ap1, ap2, U.toInt, U.toRows]
  | f3 g a b c ih ih' ih'' =>
    unfold SX.mkLen
    cases h : Nat.beq g (32 + 100)
    · rfl
    · rw [Nat.eq_of_beq_eq_true h]; simp only [cond_true]; rw [ih]; simp [SX.den, ap1, ap3, U.toRows]
  | _ => rfl
theorem SX.mk1I_den (f : Nat) (n : Int) : (SX.mk1I f n).den S ρ = (SX.f1 f (.int n)).den S ρ := by
  unfold SX.mk1I
  cases h : Nat.beq f 1
  · cases h1 : Nat.ble 10 f
    · rfl
    · cases h2 : Nat.ble f 17
      · cases h3 : Nat.ble 20 f
        · rfl
        · cases h4 : Nat.ble f 27
          · rfl
          · have e3 := Nat.le_of_ble_eq_true h3; have e4 := Nat.le_of_ble_eq_true h4
            simp only [cond_true, cond_false, SX.den]
            unfold ap1
            split <;> first | omega | skip
            rw [if_neg (by omega), if_pos (by omega)]; rfl
      · have e1 := Nat.le_of_ble_eq_true h1; have e2 := Nat.le_of_ble_eq_true h2
        simp only [cond_true, cond_false, SX.den]
        unfold ap1
        split <;> first | omega | skip
        rw [if_pos (by omega)]; rfl
  · rw [Nat.eq_of_beq_eq_true h]; rfl
theorem SX.mk1_den (f : Nat) (a : SX) : (SX.mk1 f a).den S ρ = (SX.f1 f a).den S ρ := by
  unfold SX.mk1
  split
  · exact SX.mkLen30_den S ρ a
  · exact SX.mkLen31_den S ρ a
  · exact SX.mkLen32_den S ρ a
  · split <;> rfl
  · split
    · rename_i b; cases b <;> rfl
    · rfl
  · split <;> rfl
  · split
    · exact SX.mk1I_den S ρ _ _
    · rfl
theorem SX.mk3_den (f : Nat) (a b c : SX) : (SX.mk3 f a b c).den S ρ = (SX.f3 f a b c).den S ρ := by
  unfold SX.mk3
  split
  · cases h : Nat.beq f 133
    · cases h2 : Nat.beq f 134
      · rfl
      · rw [Nat.eq_of_beq_eq_true h2]; simp only [cond_true, cond_false]; split <;> rfl
    · rw [Nat.eq_of_beq_eq_true h]; simp only [cond_true]
      cases hb : b.isI
      · rfl
      · simp only [cond_true]; rw [← SX.isI_toInt S ρ hb]; rfl
  · cases h : Nat.beq f 133
    · cases h2 : Nat.beq f 134
      · rfl
      · rw [Nat.eq_of_beq_eq_true h2]; simp only [cond_true, cond_false]; split <;> rfl
    · rw [Nat.eq_of_beq_eq_true h]; simp only [cond_true]
      cases hb : c.isI
      · rfl
      · simp only [cond_true]; rw [← SX.isI_toInt S ρ hb]; rfl
  · rfl
end

/-! ### Contents that stand written out -/
def consI : List SX → SX
  | [] => .f1 152 (.int 0)
  | e :: l => .f2 122 e (consI l)
def nilT (t : Nat) : SX := .f1 (152 + t) (.int 0)
def SX.appT (t : Nat) : SX → SX → SX
  | .byt l, b => bif Nat.beq t 1 then (match b with
      | .byt m => .byt (l ++ m)
      | b => .f2 (119 + t) (.byt l) b) else .f2 (119 + t) (.byt l) b
  | .f1 g z, b => bif Nat.beq g (152 + t) then b else .f2 (119 + t) (.f1 g z) b
  | .f2 g x l, b => bif (bif Nat.beq g (122 + t) then true else Nat.beq g (119 + t)) then .f2 g x (SX.appT t l b) else .f2 (119 + t) (.f2 g x l) b
  | a, b => .f2 (119 + t) a b
def SX.consT (t : Nat) (el l : SX) : SX :=
  match el, l with
  | .int n, .byt m => bif Nat.beq t 1 then .byt (UInt8.ofNat n.toNat :: m) else .f2 (122 + t) el l
  | .int n, .f1 g _ => bif (bif Nat.beq t 1 then Nat.beq g (152 + t) else false) then .byt [UInt8.ofNat n.toNat] else .f2 (122 + t) el l
  | el, l => .f2 (122 + t) el l
def SX.takeT (t : Nat) : SX → Nat → SX
  | .byt l, k => bif Nat.beq t 1 then .byt (l.take k) else .f2 (113 + t) (.byt l) (.int (.ofNat k))
  | .f1 g z, k => bif Nat.beq g (152 + t) then .f1 g z else .f2 (113 + t) (.f1 g z) (.int (.ofNat k))
  | .f2 g x l, k => bif Nat.beq g (122 + t) then (match k with | 0 => nilT t | k + 1 => .f2 g x (SX.takeT t l k)) else
      bif Nat.beq g (119 + t) then (match SX.mkLen (30 + t) x with
        | .int (.ofNat n) => bif Nat.ble k n then SX.takeT t x k else .f2 g x (SX.takeT t l (k - n))
        | _ => .f2 (113 + t) (.f2 g x l) (.int (.ofNat k))) else .f2 (113 + t) (.f2 g x l) (.int (.ofNat k))
  | a, k => .f2 (113 + t) a (.int (.ofNat k))
def SX.dropT (t : Nat) : SX → Nat → SX
  | .byt l, k => bif Nat.beq t 1 then .byt (l.drop k) else .f2 (116 + t) (.byt l) (.int (.ofNat k))
  | .f1 g z, k => bif Nat.beq g (152 + t) then .f1 g z else .f2 (116 + t) (.f1 g z) (.int (.ofNat k))
  | .f2 g x l, k => bif Nat.beq g (122 + t) then (match k with | 0 => .f2 g x l | k + 1 => SX.dropT t l k) else
      bif Nat.beq g (119 + t) then (match SX.mkLen (30 + t) x with
        | .int (.ofNat n) => bif Nat.ble n k then SX.dropT t l (k - n) else .f2 g (SX.dropT t x k) l
        | _ => .f2 (116 + t) (.f2 g x l) (.int (.ofNat k))) else .f2 (116 + t) (.f2 g x l) (.int (.ofNat k))
  | a, k => .f2 (116 + t) a (.int (.ofNat k))
def SX.setT (t : Nat) (el : SX) : SX → Nat → SX
  | .byt l, k => bif Nat.beq t 1 then (match el with
      | .int v => .byt (l.set k (UInt8.ofNat v.toNat))
      | el => bif Nat.blt k l.length then .f2 120 (.byt (l.take k)) (.f2 123 el (.byt (l.drop (k + 1)))) else .byt l) else .f3 (130 + t) (.byt l) (.int (.ofNat k)) el
  | .f1 g z, k => bif Nat.beq g (152 + t) then .f1 g z else .f3 (130 + t) (.f1 g z) (.int (.ofNat k)) el
  | .f2 g x l, k => bif Nat.beq g (122 + t) then (match k with | 0 => .f2 g el l | k + 1 => .f2 g x (SX.setT t el l k)) else
      bif Nat.beq g (119 + t) then (match SX.mkLen (30 + t) x with
        | .int (.ofNat n) => bif Nat.ble n k then .f2 g x (SX.setT t el l (k - n)) else .f2 g (SX.setT t el x k) l
        | _ => .f3 (130 + t) (.f2 g x l) (.int (.ofNat k)) el) else .f3 (130 + t) (.f2 g x l) (.int (.ofNat k)) el
  | a, k => .f3 (130 + t) a (.int (.ofNat k)) el
def SX.consN (t : Nat) (el : SX) : Nat → SX
  | 0 => nilT t
  | n + 1 => .f2 (122 + t) el (SX.consN t el n)
def SX.repT (t : Nat) (n el : SX) : SX :=
  match n with
  | .int (.ofNat k) => bif Nat.beq t 1 then (match el with | .int v => .byt (List.replicate k (UInt8.ofNat v.toNat)) | el => .f2 (125 + t) n el)
      else bif Nat.ble k 5000 then SX.consN t el k else .f2 (125 + t) n el
  | n => .f2 (125 + t) n el
def nthIk : SX → Nat → SX
  | .f2 g x l, k => bif Nat.beq g 122 then (match k with | 0 => bif x.isI then x else .f2 110 (.f2 g x l) (.int (.ofNat 0)) | k + 1 => nthIk l k)
      else bif Nat.beq g 119 then (match SX.mkLen 30 x with
        | .int (.ofNat n) => bif Nat.ble n k then nthIk l (k - n) else nthIk x k
        | _ => .f2 110 (.f2 g x l) (.int (.ofNat k)))
      else .f2 110 (.f2 g x l) (.int (.ofNat k))
  | x, k => .f2 110 x (.int (.ofNat k))
def nthI (x i : SX) : SX := match i with | .int (.ofNat k) => nthIk x k | i => .f2 110 x i
/-- A byte's number: does the term give just what is kept? -/
def asByte : SX → Option SX
  | .int (.ofNat n) => bif Nat.ble n 255 then some (.int (.ofNat n)) else none
  | .f1 14 a => some (.f1 14 a)
  | .f2 111 a b => some (.f2 111 a b)
  | _ => none
def nthBk : SX → Nat → SX
  | .byt l, k => .int (.ofNat (l.getD k 0).toNat)
  | .f2 g x l, k => bif Nat.beq g 123 then (match k with | 0 => (match asByte x with | some x => x | none => .f2 111 (.f2 g x l) (.int (.ofNat 0))) | k + 1 => nthBk l k)
      else bif Nat.beq g 120 then (match SX.mkLen 31 x with
        | .int (.ofNat n) => bif Nat.ble n k then nthBk l (k - n) else nthBk x k
        | _ => .f2 111 (.f2 g x l) (.int (.ofNat k)))
      else .f2 111 (.f2 g x l) (.int (.ofNat k))
  | x, k => .f2 111 x (.int (.ofNat k))
def nthB (x i : SX) : SX := match i with | .int (.ofNat k) => nthBk x k | i => .f2 111 x i
def nthRk (p : SX) : SX → Nat → SX
  | .f2 g x l, k => bif Nat.beq g 124 then (match k with | 0 => (match p with | .int (.ofNat q) => nthIk x q | p => .f3 112 (.f2 g x l) (.int (.ofNat 0)) p) | k + 1 => nthRk p l k)
      else bif Nat.beq g 121 then (match SX.mkLen 32 x with
        | .int (.ofNat n) => bif Nat.ble n k then nthRk p l (k - n) else nthRk p x k
        | _ => .f3 112 (.f2 g x l) (.int (.ofNat k)) p)
      else .f3 112 (.f2 g x l) (.int (.ofNat k)) p
  | x, k => .f3 112 x (.int (.ofNat k)) p
def nthR (x i p : SX) : SX := match i with | .int (.ofNat k) => nthRk p x k | i => .f3 112 x i p

section
variable {G : Type} (S : Sig G) (ρ : Env G)
def elsT (t : Nat) (u : U G) : List (U G) :=
  match t with
  | 0 => u.toInts.map U.int
  | 1 => u.toBytes.map fun b => U.int (b.toNat : Nat)
  | _ => u.toRows.map U.ints
def nelT (t : Nat) (u : U G) : U G :=
  match t with
  | 0 => .int u.toInt
  | 1 => .int ((UInt8.ofNat u.toInt.toNat).toNat : Nat)
  | _ => .ints u.toInts
theorem consI_den : ∀ (l : List SX), (consI l).den S ρ = .ints (l.map fun e => (e.den S ρ).toInt)
  | [] => rfl
  | e :: l => by simp only [consI, SX.den, ap2, consI_den l, U.toInts_ints, List.map_cons]
theorem three {t : Nat} (h : t ≤ 2) : t = 0 ∨ t = 1 ∨ t = 2 := by omega
theorem elsT_app {t : Nat} (h : t ≤ 2) (a b : SX) : elsT t ((SX.f2 (119 + t) a b).den S ρ) = elsT t (a.den S ρ) ++ elsT t (b.den S ρ) := by
  rcases three h with rfl | rfl | rfl
  · simp only [elsT, SX.den, ap2, U.toInts_ints, List.map_append]
  · simp only [elsT, SX.den, ap2, U.toBytes_bytes, List.map_append]
  · simp only [elsT, SX.den, ap2, U.toRows_rows, List.map_append]
theorem elsT_cons {t : Nat} (h : t ≤ 2) (a b : SX) : elsT t ((SX.f2 (122 + t) a b).den S ρ) = nelT t (a.den S ρ) :: elsT t (b.den S ρ) := by
  rcases three h with rfl | rfl | rfl <;> rfl
theorem elsT_nil {t : Nat} (h : t ≤ 2) (z : SX) : elsT t ((SX.f1 (152 + t) z).den S ρ) = [] := by
  rcases three h with rfl | rfl | rfl <;> rfl
theorem elsT_take {t : Nat} (h : t ≤ 2) (a n : SX) : elsT t ((SX.f2 (113 + t) a n).den S ρ) = (elsT t (a.den S ρ)).take (n.den S ρ).toInt.toNat := by
  rcases three h with rfl | rfl | rfl
  · simp only [elsT, SX.den, ap2, U.toInts_ints, List.map_take]
  · simp only [elsT, SX.den, ap2, U.toBytes_bytes, List.map_take]
  · simp only [elsT, SX.den, ap2, U.toRows_rows, List.map_take]
theorem elsT_drop {t : Nat} (h : t ≤ 2) (a n : SX) : elsT t ((SX.f2 (116 + t) a n).den S ρ) = (elsT t (a.den S ρ)).drop (n.den S ρ).toInt.toNat := by
  rcases three h with rfl | rfl | rfl
  · simp only [elsT, SX.den, ap2, U.toInts_ints, List.map_drop]
  · simp only [elsT, SX.den, ap2, U.toBytes_bytes, List.map_drop]
  · simp only [elsT, SX.den, ap2, U.toRows_rows, List.map_drop]
theorem elsT_rep {t : Nat} (h : t ≤ 2) (n el : SX) : elsT t ((SX.f2 (125 + t) n el).den S ρ) = List.replicate (n.den S ρ).toInt.toNat (nelT t (el.den S ρ)) := by
  rcases three h with rfl | rfl | rfl
  · simp only [elsT, SX.den, ap2, U.toInts_ints, nelT, List.map_replicate]
  · simp only [elsT, SX.den, ap2, U.toBytes_bytes, nelT, List.map_replicate]
  · simp only [elsT, SX.den, ap2, U.toRows_rows, nelT, List.map_replicate]
theorem elsT_set {t : Nat} (h : t ≤ 2) (x i el : SX) : elsT t ((SX.f3 (130 + t) x i el).den S ρ) = (elsT t (x.den S ρ)).set (i.den S ρ).toInt.toNat (nelT t (el.den S ρ)) := by
  rcases three h with rfl | rfl | rfl
  · simp only [elsT, SX.den, ap3, U.toInts_ints, nelT, List.map_set]
  · simp only [elsT, SX.den, ap3, U.toBytes_bytes, nelT, List.map_set]
  · simp only [elsT, SX.den, ap3, U.toRows_rows, nelT, List.map_set]
theorem elsT_len {t : Nat} (h : t ≤ 2) (x : SX) : (SX.mkLen (30 + t) x).den S ρ = .int ((elsT t (x.den S ρ)).length : Nat) := by
  rcases three h with rfl | rfl | rfl
  · rw [SX.mkLen30_den]; simp [SX.den, ap1, elsT]
  · rw [SX.mkLen31_den]; simp [SX.den, ap1, elsT]
  · rw [SX.mkLen32_den]; simp [SX.den, ap1, elsT]
theorem elsT_byt (l : List UInt8) : elsT 1 ((SX.byt l).den S ρ) = l.map fun b => U.int (b.toNat : Nat) := rfl
theorem len_of {t : Nat} (h : t ≤ 2) {x : SX} {n : Nat} (hl : SX.mkLen (30 + t) x = .int (.ofNat n)) : (elsT t (x.den S ρ)).length = n := by
  have := elsT_len S ρ h x
  rw [hl] at this
  simp only [SX.den, U.int.injEq] at this
  exact (Int.ofNat.inj this).symm
theorem SX.appT_els {t : Nat} (h : t ≤ 2) : ∀ (a b : SX), elsT t ((SX.appT t a b).den S ρ) = elsT t (a.den S ρ) ++ elsT t (b.den S ρ) := by
  intro a
  induction a with
  | byt l =>
    intro b; unfold SX.appT
    cases h1 : Nat.beq t 1
    · exact elsT_app S ρ h _ _
    · rw [Nat.eq_of_beq_eq_true h1] at h ⊢
      simp only [cond_true]
      split
      · simp only [elsT_byt, List.map_append]
      · exact elsT_app S ρ (t := 1) h _ _
  | f1 g z =>
    intro b; unfold SX.appT
    cases h1 : Nat.beq g (152 + t)
    · exact elsT_app S ρ h _ _
    · rw [Nat.eq_of_beq_eq_true h1, elsT_nil S ρ h]; rfl
  | f2 g x l _ ih =>
    intro b; unfold SX.appT
    cases h1 : Nat.beq g (122 + t)
    · cases h2 : Nat.beq g (119 + t)
      · exact elsT_app S ρ h _ _
      · have := Nat.eq_of_beq_eq_true h2; subst this
        simp only [cond_true, cond_false]
        rw [elsT_app S ρ h, elsT_app S ρ h, ih, List.append_assoc]
    · have := Nat.eq_of_beq_eq_true h1; subst this
      simp only [cond_true]
      rw [elsT_cons S ρ h, elsT_cons S ρ h, ih]; rfl
  | _ => intro b; exact elsT_app S ρ h _ _
theorem SX.consT_els {t : Nat} (h : t ≤ 2) (a b : SX) : elsT t ((SX.consT t a b).den S ρ) = nelT t (a.den S ρ) :: elsT t (b.den S ρ) := by
  unfold SX.consT
  split
  · cases h1 : Nat.beq t 1
    · exact elsT_cons S ρ h _ _
    · rw [Nat.eq_of_beq_eq_true h1]; rfl
  · rename_i n g z
    cases h1 : Nat.beq t 1
    · exact elsT_cons S ρ h _ _
    · have := Nat.eq_of_beq_eq_true h1; subst this
      cases h2 : Nat.beq g (152 + 1)
      · exact elsT_cons S ρ h _ _
      · rw [Nat.eq_of_beq_eq_true h2]; rfl
  · exact elsT_cons S ρ h _ _
theorem SX.takeT_els {t : Nat} (h : t ≤ 2) : ∀ (a : SX) (k : Nat), elsT t ((SX.takeT t a k).den S ρ) = (elsT t (a.den S ρ)).take k := by
  intro a
  induction a with
  | byt l =>
    intro k; unfold SX.takeT
    cases h1 : Nat.beq t 1
    · exact elsT_take S ρ h _ _
    · rw [Nat.eq_of_beq_eq_true h1]; simp only [cond_true, elsT_byt, List.map_take]
  | f1 g z =>
    intro k; unfold SX.takeT
    cases h1 : Nat.beq g (152 + t)
    · exact elsT_take S ρ h _ _
    · rw [Nat.eq_of_beq_eq_true h1]; simp only [cond_true]; rw [elsT_nil S ρ h]; simp
  | f2 g x l ihx ih =>
    intro k; unfold SX.takeT
    cases h1 : Nat.beq g (122 + t)
    · cases h2 : Nat.beq g (119 + t)
      · exact elsT_take S ρ h _ _
      · have := Nat.eq_of_beq_eq_true h2; subst this
        simp only [cond_true, cond_false]
        split
        · rename_i n hl
          have hn := len_of S ρ h hl
          cases h3 : Nat.ble k n
          · have : ¬ k ≤ n := fun hh => by rw [Nat.ble_eq_true_of_le hh] at h3; cases h3
            simp only [cond_false]
            rw [elsT_app S ρ h, elsT_app S ρ h, ih, List.take_append, hn, List.take_of_length_le (l := elsT t (SX.den S ρ x)) (by omega)]
          · have := Nat.le_of_ble_eq_true h3
            simp only [cond_true]
            rw [ihx, elsT_app S ρ h, List.take_append_of_le_length (by omega)]
        · exact elsT_take S ρ h _ _
    · have := Nat.eq_of_beq_eq_true h1; subst this
      simp only [cond_true]
      cases k with
      | zero => simp only [nilT]; rw [elsT_nil S ρ h]; simp
      | succ k => simp only []; rw [elsT_cons S ρ h, elsT_cons S ρ h, ih]; rfl
  | _ => intro k; exact elsT_take S ρ h _ _
theorem SX.dropT_els {t : Nat} (h : t ≤ 2) : ∀ (a : SX) (k : Nat), elsT t ((SX.dropT t a k).den S ρ) = (elsT t (a.den S ρ)).drop k := by
  intro a
  induction a with
  | byt l =>
    intro k; unfold SX.dropT
    cases h1 : Nat.beq t 1
    · exact elsT_drop S ρ h _ _
    · rw [Nat.eq_of_beq_eq_true h1]; simp only [cond_true, elsT_byt, List.map_drop]
  | f1 g z =>
    intro k; unfold SX.dropT
    cases h1 : Nat.beq g (152 + t)
    · exact elsT_drop S ρ h _ _
    · rw [Nat.eq_of_beq_eq_true h1]; simp only [cond_true]; rw [elsT_nil S ρ h]; simp
  | f2 g x l ihx ih =>
    intro k; unfold SX.dropT
    cases h1 : Nat.beq g (122 + t)
    · cases h2 : Nat.beq g (119 + t)
      · exact elsT_drop S ρ h _ _
      · have := Nat.eq_of_beq_eq_true h2; subst this
        simp only [cond_true, cond_false]
        split
        · rename_i n hl
          have hn := len_of S ρ h hl
          cases h3 : Nat.ble n k
          · have : ¬ n ≤ k := fun hh => by rw [Nat.ble_eq_true_of_le hh] at h3; cases h3
            simp only [cond_false]
            rw [elsT_app S ρ h, elsT_app S ρ h, ihx, List.drop_append_of_le_length (by omega)]
          · have := Nat.le_of_ble_eq_true h3
            simp only [cond_true]
            rw [ih, elsT_app S ρ h, List.drop_append, hn, List.drop_of_length_le (l := elsT t (SX.den S ρ x)) (by omega), List.nil_append]
        · exact elsT_drop S ρ h _ _
    · have := Nat.eq_of_beq_eq_true h1; subst this
      simp only [cond_true]
      cases k with
      | zero => rfl
      | succ k => simp only []; rw [elsT_cons S ρ h, ih]; rfl
  | _ => intro k; exact elsT_drop S ρ h _ _
theorem SX.setT_els {t : Nat} (h : t ≤ 2) (el : SX) : ∀ (a : SX) (k : Nat), elsT t ((SX.setT t el a k).den S ρ) = (elsT t (a.den S ρ)).set k (nelT t (el.den S ρ)) := by
  intro a
  induction a with
  | byt l =>
    intro k; unfold SX.setT
    cases h1 : Nat.beq t 1
    · exact elsT_set S ρ h _ _ _
    · rw [Nat.eq_of_beq_eq_true h1]
      simp only [cond_true]
      split
      · simp only [elsT_byt, List.map_set]; rfl
      · cases h2 : Nat.blt k l.length
        · have : l.length ≤ k := by
            apply Nat.le_of_not_lt; intro hh
            have : Nat.blt k l.length = true := by rw [Nat.blt_eq]; exact hh
            rw [h2] at this; cases this
          simp only [cond_false]
          rw [List.set_eq_of_length_le]
          rw [elsT_byt, List.length_map]; exact this
        · rw [Nat.blt_eq] at h2
          simp only [cond_true]
          have e1 := elsT_app S ρ (t := 1) (by omega) (.byt (l.take k)) (.f2 123 el (.byt (l.drop (k + 1))))
          have e2 := elsT_cons S ρ (t := 1) (by omega) el (.byt (l.drop (k + 1)))
          rw [e1, e2, elsT_byt, elsT_byt, elsT_byt, List.set_eq_take_append_cons_drop, if_pos (by rw [List.length_map]; exact h2), List.map_take, List.map_drop]
  | f1 g z =>
    intro k; unfold SX.setT
    cases h1 : Nat.beq g (152 + t)
    · exact elsT_set S ρ h _ _ _
    · rw [Nat.eq_of_beq_eq_true h1]; simp only [cond_true]; rw [elsT_nil S ρ h]; rfl
  | f2 g x l ihx ih =>
    intro k; unfold SX.setT
    cases h1 : Nat.beq g (122 + t)
    · cases h2 : Nat.beq g (119 + t)
      · exact elsT_set S ρ h _ _ _
      · have := Nat.eq_of_beq_eq_true h2; subst this
        simp only [cond_true, cond_false]
        split
        · rename_i n hl
          have hn := len_of S ρ h hl
          cases h3 : Nat.ble n k
          · have : ¬ n ≤ k := fun hh => by rw [Nat.ble_eq_true_of_le hh] at h3; cases h3
            simp only [cond_false]
            rw [elsT_app S ρ h, elsT_app S ρ h, ihx, List.set_append_left _ _ (by omega)]
          · have := Nat.le_of_ble_eq_true h3
            simp only [cond_true]
            rw [elsT_app S ρ h, elsT_app S ρ h, ih, List.set_append_right _ _ (by omega), hn]
        · exact elsT_set S ρ h _ _ _
    · have := Nat.eq_of_beq_eq_true h1; subst this
      simp only [cond_true]
      cases k with
      | zero => simp only []; rw [elsT_cons S ρ h, elsT_cons S ρ h]; rfl
      | succ k => simp only []; rw [elsT_cons S ρ h, elsT_cons S ρ h, ih]; rfl
  | _ => intro k; exact elsT_set S ρ h _ _ _
theorem SX.consN_els {t : Nat} (h : t ≤ 2) (el : SX) : ∀ n, elsT t ((SX.consN t el n).den S ρ) = List.replicate n (nelT t (el.den S ρ))
  | 0 => elsT_nil S ρ h _
  | n + 1 => by simp only [SX.consN]; rw [elsT_cons S ρ h, SX.consN_els h el n]; rfl
theorem SX.repT_els {t : Nat} (h : t ≤ 2) (n el : SX) : elsT t ((SX.repT t n el).den S ρ) = List.replicate (n.den S ρ).toInt.toNat (nelT t (el.den S ρ)) := by
  unfold SX.repT
  split
  · rename_i k
    cases h1 : Nat.beq t 1
    · simp only [cond_false]
      cases h2 : Nat.ble k 5000
      · exact elsT_rep S ρ h _ _
      · exact SX.consN_els S ρ h el k
    · rw [Nat.eq_of_beq_eq_true h1]
      simp only [cond_true]
      split
      · simp only [elsT_byt, List.map_replicate]; rfl
      · exact elsT_rep S ρ (t := 1) (by omega) _ _
  · exact elsT_rep S ρ h _ _
theorem SX.consN_lt {m t : Nat} {el : SX} (h : el.lt m = true) : ∀ n, (SX.consN t el n).lt m = true
  | 0 => rfl
  | n + 1 => by simp only [SX.consN, SX.lt]; rw [h, SX.consN_lt h n]; rfl
theorem SX.repT_lt {m t : Nat} {n el : SX} (hn : n.lt m = true) (h : el.lt m = true) : (SX.repT t n el).lt m = true := by
  have raw : (SX.f2 (125 + t) n el).lt m = true := by simp only [SX.lt]; rw [hn, h]; rfl
  unfold SX.repT
  split
  · rename_i k
    cases Nat.beq t 1
    · simp only [cond_false]
      cases Nat.ble k 5000
      · exact raw
      · exact SX.consN_lt h k
    · simp only [cond_true]
      split
      · rfl
      · exact raw
  · exact raw
theorem len0_of {x : SX} {n : Nat} (hl : SX.mkLen 30 x = .int (.ofNat n)) : (x.den S ρ).toInts.length = n := by
  have := len_of S ρ (t := 0) (by omega) hl
  simpa [elsT] using this
theorem len1_of {x : SX} {n : Nat} (hl : SX.mkLen 31 x = .int (.ofNat n)) : (x.den S ρ).toBytes.length = n := by
  have := len_of S ρ (t := 1) (by omega) hl
  simpa [elsT] using this
theorem len2_of {x : SX} {n : Nat} (hl : SX.mkLen 32 x = .int (.ofNat n)) : (x.den S ρ).toRows.length = n := by
  have := len_of S ρ (t := 2) (by omega) hl
  simpa [elsT] using this
theorem getD_app {α : Type} (a b : List α) (k : Nat) (d : α) : (a ++ b).getD k d = if a.length ≤ k then b.getD (k - a.length) d else a.getD k d := by
  simp only [List.getD_eq_getElem?_getD]
  split
  · rw [List.getElem?_append_right (by omega)]
  · rw [List.getElem?_append_left (by omega)]
theorem nthIk_den : ∀ (x : SX) (k : Nat), (nthIk x k).den S ρ = .int ((x.den S ρ).toInts.getD k 0) := by
  intro x
  induction x with
  | f2 g x l ihx ih =>
    intro k; unfold nthIk
    cases h1 : Nat.beq g 122
    · cases h2 : Nat.beq g 119
      · rfl
      · have := Nat.eq_of_beq_eq_true h2; subst this
        simp only [cond_true, cond_false]
        have e : ((SX.f2 119 x l).den S ρ).toInts = (x.den S ρ).toInts ++ (l.den S ρ).toInts := rfl
        split
        · rename_i n hl
          have hn := len0_of S ρ hl
          rw [e, getD_app, hn]
          cases h3 : Nat.ble n k
          · have : ¬ n ≤ k := fun hh => by rw [Nat.ble_eq_true_of_le hh] at h3; cases h3
            rw [if_neg this]; exact ihx k
          · rw [if_pos (Nat.le_of_ble_eq_true h3)]; exact ih _
        · rfl
    · have := Nat.eq_of_beq_eq_true h1; subst this
      simp only [cond_true]
      cases k with
      | zero =>
        simp only []
        cases hx : x.isI
        · rfl
        · simp only [cond_true]; rw [← SX.isI_toInt S ρ hx]; rfl
      | succ k => simp only []; rw [ih]; rfl
  | _ => intro k; rfl
theorem nthI_den (x i : SX) : (nthI x i).den S ρ = .int ((x.den S ρ).toInts.getD (i.den S ρ).toInt.toNat 0) := by
  unfold nthI
  split
  · rw [nthIk_den]; rfl
  · rfl
theorem wrap_u8 (n : Int) : 0 ≤ IntKind.u8.wrap n ∧ IntKind.u8.wrap n < 256 := by
  have : IntKind.u8.wrap n = n % 256 := by
    unfold IntKind.wrap
    simp [IntKind.bits, IntKind.signed]
    try omega
  omega
theorem asByte_den {x y : SX} (h : asByte x = some y) : y.den S ρ = .int ((UInt8.ofNat (x.den S ρ).toInt.toNat).toNat : Nat) := by
  unfold asByte at h
  split at h
  · rename_i n
    cases hn : Nat.ble n 255
    · rw [hn] at h; cases h
    · rw [hn] at h; cases h
      have := Nat.le_of_ble_eq_true hn
      simp only [SX.den, U.toInt]
      congr 1
      simp only [Int.ofNat_eq_natCast, Int.toNat_natCast, UInt8.toNat_ofNat']
      omega
  · cases h
    simp only [SX.den]
    show U.int _ = U.int _
    congr 1
    simp only [U.toInt_int, UInt8.toNat_ofNat', ap1]
    simp
    have := wrap_u8 ((SX.den S ρ ‹_›).toInt)
    simp only [kc]
    omega
  · cases h
    simp only [SX.den, ap2, U.toInt_int, Int.toNat_natCast]
    congr 1
    simp
  · cases h
theorem nthBk_den : ∀ (x : SX) (k : Nat), (nthBk x k).den S ρ = .int (((x.den S ρ).toBytes.getD k 0).toNat : Nat) := by
  intro x
  induction x with
  | byt l => intro k; rfl
  | f2 g x l ihx ih =>
    intro k; unfold nthBk
    cases h1 : Nat.beq g 123
    · cases h2 : Nat.beq g 120
      · rfl
      · have := Nat.eq_of_beq_eq_true h2; subst this
        simp only [cond_true, cond_false]
        have e : ((SX.f2 120 x l).den S ρ).toBytes = (x.den S ρ).toBytes ++ (l.den S ρ).toBytes := rfl
        split
        · rename_i n hl
          have hn := len1_of S ρ hl
          rw [e, getD_app, hn]
          cases h3 : Nat.ble n k
          · have : ¬ n ≤ k := fun hh => by rw [Nat.ble_eq_true_of_le hh] at h3; cases h3
            rw [if_neg this]; exact ihx k
          · rw [if_pos (Nat.le_of_ble_eq_true h3)]; exact ih _
        · rfl
    · have := Nat.eq_of_beq_eq_true h1; subst this
      simp only [cond_true]
      cases k with
      | zero =>
        simp only []
        split
        · rename_i y hy; rw [asByte_den S ρ hy]; rfl
        · rfl
      | succ k => simp only []; rw [ih]; rfl
  | _ => intro k; rfl
theorem nthB_den (x i : SX) : (nthB x i).den S ρ = (SX.f2 111 x i).den S ρ := by
  unfold nthB
  split
  · rw [nthBk_den]; rfl
  · rfl
theorem nthRk_den (p : SX) : ∀ (x : SX) (k : Nat), (nthRk p x k).den S ρ = .int (((x.den S ρ).toRows.getD k []).getD (p.den S ρ).toInt.toNat 0) := by
  intro x
  induction x with
  | f2 g x l ihx ih =>
    intro k; unfold nthRk
    cases h1 : Nat.beq g 124
    · cases h2 : Nat.beq g 121
      · rfl
      · have := Nat.eq_of_beq_eq_true h2; subst this
        simp only [cond_true, cond_false]
        have e : ((SX.f2 121 x l).den S ρ).toRows = (x.den S ρ).toRows ++ (l.den S ρ).toRows := rfl
        split
        · rename_i n hl
          have hn := len2_of S ρ hl
          rw [e, getD_app, hn]
          cases h3 : Nat.ble n k
          · have : ¬ n ≤ k := fun hh => by rw [Nat.ble_eq_true_of_le hh] at h3; cases h3
            rw [if_neg this]; exact ihx k
          · rw [if_pos (Nat.le_of_ble_eq_true h3)]; exact ih _
        · rfl
    · have := Nat.eq_of_beq_eq_true h1; subst this
      simp only [cond_true]
      cases k with
      | zero =>
        simp only []
        split
        · rw [nthIk_den]; rfl
        · rfl
      | succ k => simp only []; rw [ih]; rfl
  | _ => intro k; rfl
theorem nthR_den (x i p : SX) : (nthR x i p).den S ρ = .int (((x.den S ρ).toRows.getD (i.den S ρ).toInt.toNat []).getD (p.den S ρ).toInt.toNat 0) := by
  unfold nthR
  split
  · rw [nthRk_den]; rfl
  · rfl

/-! ### Exactly -/
def coT (t : Nat) (u : U G) : U G :=
  match t with
  | 0 => .ints u.toInts
  | 1 => .bytes u.toBytes
  | _ => .rows u.toRows
theorem coT_inj {t : Nat} (h : t ≤ 2) {u v : U G} (hu : coT t u = u) (hv : coT t v = v) (he : elsT t u = elsT t v) : u = v := by
  rw [← hu, ← hv]
  rcases three h with rfl | rfl | rfl
  · simp only [elsT] at he
    simp only [coT]
    rw [List.map_inj_right (fun a b h => by injection h)] at he
    rw [he]
  · simp only [elsT] at he
    simp only [coT]
    rw [List.map_inj_right (fun a b h => by injection h with h; exact UInt8.toNat_inj.1 (Int.ofNat.inj h))] at he
    rw [he]
  · simp only [elsT] at he
    simp only [coT]
    rw [List.map_inj_right (fun a b h => by injection h)] at he
    rw [he]
theorem coT_f2 {t : Nat} (h : t ≤ 2) (g : Nat) (hg : g = 119 + t ∨ g = 122 + t ∨ g = 113 + t ∨ g = 116 + t ∨ g = 125 + t) (a b : SX) : coT t ((SX.f2 g a b).den S ρ) = (SX.f2 g a b).den S ρ := by
  rcases three h with rfl | rfl | rfl <;> rcases hg with rfl | rfl | rfl | rfl | rfl <;> rfl
theorem coT_f1 {t : Nat} (h : t ≤ 2) (a : SX) : coT t ((SX.f1 (152 + t) a).den S ρ) = (SX.f1 (152 + t) a).den S ρ := by
  rcases three h with rfl | rfl | rfl <;> rfl
theorem coT_f3 {t : Nat} (h : t ≤ 2) (a b c : SX) : coT t ((SX.f3 (130 + t) a b c).den S ρ) = (SX.f3 (130 + t) a b c).den S ρ := by
  rcases three h with rfl | rfl | rfl <;> rfl
theorem coT_byt (l : List UInt8) : coT 1 ((SX.byt l).den S ρ) = (SX.byt l).den S ρ := rfl
theorem SX.takeT_co {t : Nat} (h : t ≤ 2) : ∀ (a : SX) (k : Nat), coT t ((SX.takeT t a k).den S ρ) = (SX.takeT t a k).den S ρ := by
  intro a
  induction a with
  | byt l =>
    intro k; unfold SX.takeT
    cases h1 : Nat.beq t 1
    · exact coT_f2 S ρ h _ (by simp) _ _
    · rw [Nat.eq_of_beq_eq_true h1]; rfl
  | f1 g z =>
    intro k; unfold SX.takeT
    cases h1 : Nat.beq g (152 + t)
    · exact coT_f2 S ρ h _ (by simp) _ _
    · rw [Nat.eq_of_beq_eq_true h1]; exact coT_f1 S ρ h _
  | f2 g x l ihx ih =>
    intro k; unfold SX.takeT
    cases h1 : Nat.beq g (122 + t)
    · cases h2 : Nat.beq g (119 + t)
      · exact coT_f2 S ρ h _ (by simp) _ _
      · have := Nat.eq_of_beq_eq_true h2; subst this
        simp only [cond_true, cond_false]
        split
        · rename_i n _
          cases Nat.ble k n
          · exact coT_f2 S ρ h _ (by simp) _ _
          · exact ihx k
        · exact coT_f2 S ρ h _ (by simp) _ _
    · have := Nat.eq_of_beq_eq_true h1; subst this
      simp only [cond_true]
      cases k with
      | zero => exact coT_f1 S ρ h _
      | succ k => exact coT_f2 S ρ h _ (by simp) _ _
  | _ => intro k; exact coT_f2 S ρ h _ (by simp) _ _
theorem SX.dropT_co {t : Nat} (h : t ≤ 2) : ∀ (a : SX) (k : Nat), coT t ((SX.dropT t a k).den S ρ) = (SX.dropT t a k).den S ρ := by
  intro a
  induction a with
  | byt l =>
    intro k; unfold SX.dropT
    cases h1 : Nat.beq t 1
    · exact coT_f2 S ρ h _ (by simp) _ _
    · rw [Nat.eq_of_beq_eq_true h1]; rfl
  | f1 g z =>
    intro k; unfold SX.dropT
    cases h1 : Nat.beq g (152 + t)
    · exact coT_f2 S ρ h _ (by simp) _ _
    · rw [Nat.eq_of_beq_eq_true h1]; exact coT_f1 S ρ h _
  | f2 g x l ihx ih =>
    intro k; unfold SX.dropT
    cases h1 : Nat.beq g (122 + t)
    · cases h2 : Nat.beq g (119 + t)
      · exact coT_f2 S ρ h _ (by simp) _ _
      · have := Nat.eq_of_beq_eq_true h2; subst this
        simp only [cond_true, cond_false]
        split
        · rename_i n _
          cases Nat.ble n k
          · exact coT_f2 S ρ h _ (by simp) _ _
          · exact ih _
        · exact coT_f2 S ρ h _ (by simp) _ _
    · have := Nat.eq_of_beq_eq_true h1; subst this
      simp only [cond_true]
      cases k with
      | zero => exact coT_f2 S ρ h _ (by simp) _ _
      | succ k => exact ih k
  | _ => intro k; exact coT_f2 S ρ h _ (by simp) _ _
theorem SX.takeT_den {t : Nat} (h : t ≤ 2) (a : SX) (k : Nat) : (SX.takeT t a k).den S ρ = (SX.f2 (113 + t) a (.int (.ofNat k))).den S ρ :=
  coT_inj h (SX.takeT_co S ρ h a k) (coT_f2 S ρ h _ (by simp) _ _) (by rw [SX.takeT_els S ρ h, elsT_take S ρ h]; rfl)
theorem SX.dropT_den {t : Nat} (h : t ≤ 2) (a : SX) (k : Nat) : (SX.dropT t a k).den S ρ = (SX.f2 (116 + t) a (.int (.ofNat k))).den S ρ :=
  coT_inj h (SX.dropT_co S ρ h a k) (coT_f2 S ρ h _ (by simp) _ _) (by rw [SX.dropT_els S ρ h, elsT_drop S ρ h]; rfl)
/-- With what stands written out carried out, too. -/
def SX.mkS2 (f : Nat) (a b : SX) : SX :=
  match f with
  | 110 => nthI a b
  | 111 => nthB a b
  | 113 => (match b with | .int (.ofNat k) => SX.takeT 0 a k | b => .f2 113 a b)
  | 114 => (match b with | .int (.ofNat k) => SX.takeT 1 a k | b => .f2 114 a b)
  | 115 => (match b with | .int (.ofNat k) => SX.takeT 2 a k | b => .f2 115 a b)
  | 116 => (match b with | .int (.ofNat k) => SX.dropT 0 a k | b => .f2 116 a b)
  | 117 => (match b with | .int (.ofNat k) => SX.dropT 1 a k | b => .f2 117 a b)
  | 118 => (match b with | .int (.ofNat k) => SX.dropT 2 a k | b => .f2 118 a b)
  | f => SX.mk2 f a b
theorem SX.mkS2_den (f : Nat) (a b : SX) : (SX.mkS2 f a b).den S ρ = (SX.f2 f a b).den S ρ := by
  unfold SX.mkS2
  split
  · exact nthI_den S ρ a b
  · exact nthB_den S ρ a b
  · split
    · exact SX.takeT_den S ρ (t := 0) (by omega) _ _
    · rfl
  · split
    · exact SX.takeT_den S ρ (t := 1) (by omega) _ _
    · rfl
  · split
    · exact SX.takeT_den S ρ (t := 2) (by omega) _ _
    · rfl
  · split
    · exact SX.dropT_den S ρ (t := 0) (by omega) _ _
    · rfl
  · split
    · exact SX.dropT_den S ρ (t := 1) (by omega) _ _
    · rfl
  · split
    · exact SX.dropT_den S ρ (t := 2) (by omega) _ _
    · rfl
  · exact SX.mk2_den S ρ f a b
def SX.mkS3 (f : Nat) (a b c : SX) : SX :=
  match f with
  | 112 => nthR a b c
  | f => SX.mk3 f a b c
theorem SX.mkS3_den (f : Nat) (a b c : SX) : (SX.mkS3 f a b c).den S ρ = (SX.f3 f a b c).den S ρ := by
  unfold SX.mkS3
  split
  · exact nthR_den S ρ a b c
  · exact SX.mk3_den S ρ f a b c
end
end Go.Eng
