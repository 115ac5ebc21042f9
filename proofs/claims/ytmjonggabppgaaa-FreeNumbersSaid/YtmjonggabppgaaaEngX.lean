/- What each of the library's functions means, one equation each. -/
import Derived.Test.YtmjonggabppgaaaEngW
set_option linter.unusedSimpArgs false
set_option linter.unusedVariables false
namespace Go.Eng
section
variable {G : Type}
theorem ap1_1 (a : U G) : ap1 1 a = .int (-a.toInt) := rfl
theorem ap1_2 (a : U G) : ap1 2 a = .bool (!a.toBool) := rfl
theorem ap1_3 (a : U G) : ap1 3 a = .int (if a.toBool then 1 else 0) := rfl
theorem ap1_4 (a : U G) : ap1 4 a = .int a.toInt := rfl
theorem ap1_10 (a : U G) : ap1 10 a = .int (IntKind.wrap .i8 a.toInt) := rfl
theorem ap1_11 (a : U G) : ap1 11 a = .int (IntKind.wrap .i16 a.toInt) := rfl
theorem ap1_12 (a : U G) : ap1 12 a = .int (IntKind.wrap .i32 a.toInt) := rfl
theorem ap1_13 (a : U G) : ap1 13 a = .int (IntKind.wrap .i64 a.toInt) := rfl
theorem ap1_14 (a : U G) : ap1 14 a = .int (IntKind.wrap .u8 a.toInt) := rfl
theorem ap1_15 (a : U G) : ap1 15 a = .int (IntKind.wrap .u16 a.toInt) := rfl
theorem ap1_16 (a : U G) : ap1 16 a = .int (IntKind.wrap .u32 a.toInt) := rfl
theorem ap1_17 (a : U G) : ap1 17 a = .int (IntKind.wrap .u64 a.toInt) := rfl
theorem ap1_20 (a : U G) : ap1 20 a = .bool (decide (IntKind.min .i8 ≤ a.toInt) && decide (a.toInt ≤ IntKind.max .i8)) := rfl
theorem ap1_21 (a : U G) : ap1 21 a = .bool (decide (IntKind.min .i16 ≤ a.toInt) && decide (a.toInt ≤ IntKind.max .i16)) := rfl
theorem ap1_22 (a : U G) : ap1 22 a = .bool (decide (IntKind.min .i32 ≤ a.toInt) && decide (a.toInt ≤ IntKind.max .i32)) := rfl
theorem ap1_23 (a : U G) : ap1 23 a = .bool (decide (IntKind.min .i64 ≤ a.toInt) && decide (a.toInt ≤ IntKind.max .i64)) := rfl
theorem ap1_24 (a : U G) : ap1 24 a = .bool (decide (IntKind.min .u8 ≤ a.toInt) && decide (a.toInt ≤ IntKind.max .u8)) := rfl
theorem ap1_25 (a : U G) : ap1 25 a = .bool (decide (IntKind.min .u16 ≤ a.toInt) && decide (a.toInt ≤ IntKind.max .u16)) := rfl
theorem ap1_26 (a : U G) : ap1 26 a = .bool (decide (IntKind.min .u32 ≤ a.toInt) && decide (a.toInt ≤ IntKind.max .u32)) := rfl
theorem ap1_27 (a : U G) : ap1 27 a = .bool (decide (IntKind.min .u64 ≤ a.toInt) && decide (a.toInt ≤ IntKind.max .u64)) := rfl
theorem ap1_30 (a : U G) : ap1 30 a = .int a.toInts.length := rfl
theorem ap1_31 (a : U G) : ap1 31 a = .int a.toBytes.length := rfl
theorem ap1_32 (a : U G) : ap1 32 a = .int a.toRows.length := rfl
theorem ap1_33 (a : U G) : ap1 33 a = .int a.toMap.length := rfl
theorem ap1_152 (a : U G) : ap1 152 a = .ints [] := rfl
theorem ap1_153 (a : U G) : ap1 153 a = .bytes [] := rfl
theorem ap1_154 (a : U G) : ap1 154 a = .rows [] := rfl
theorem ap1_155 (a : U G) : ap1 155 a = .amap [] := rfl
theorem ap1_160 (a : U G) : ap1 160 a = .int (crcRun 4294967295 a.toBytes : Nat) := rfl
theorem ap2_40 (a b : U G) : ap2 40 a b = .int (a.toInt + b.toInt) := rfl
theorem ap2_41 (a b : U G) : ap2 41 a b = .int (a.toInt - b.toInt) := rfl
theorem ap2_42 (a b : U G) : ap2 42 a b = .int (a.toInt * b.toInt) := rfl
theorem ap2_43 (a b : U G) : ap2 43 a b = .int (a.toInt.tdiv b.toInt) := rfl
theorem ap2_44 (a b : U G) : ap2 44 a b = .int (a.toInt.tmod b.toInt) := rfl
theorem ap2_45 (a b : U G) : ap2 45 a b = .bool (a.toInt == b.toInt) := rfl
theorem ap2_46 (a b : U G) : ap2 46 a b = .bool (decide (a.toInt < b.toInt)) := rfl
theorem ap2_47 (a b : U G) : ap2 47 a b = .bool (decide (a.toInt ≤ b.toInt)) := rfl
theorem ap2_48 (a b : U G) : ap2 48 a b = .bool (a.toBool == b.toBool) := rfl
theorem ap2_49 (a b : U G) : ap2 49 a b = .bool (a.toBool && b.toBool) := rfl
theorem ap2_50 (a b : U G) : ap2 50 a b = .bool (a.toBool || b.toBool) := rfl
theorem ap2_51 (a b : U G) : ap2 51 a b = .int (if b.toInt < a.toInt then b.toInt else a.toInt) := rfl
theorem ap2_52 (a b : U G) : ap2 52 a b = .int (if b.toInt > a.toInt then b.toInt else a.toInt) := rfl
theorem ap2_60 (a b : U G) : ap2 60 a b = .int (bitsV .and .i8 a.toInt b.toInt) := rfl
theorem ap2_61 (a b : U G) : ap2 61 a b = .int (bitsV .and .i16 a.toInt b.toInt) := rfl
theorem ap2_62 (a b : U G) : ap2 62 a b = .int (bitsV .and .i32 a.toInt b.toInt) := rfl
theorem ap2_63 (a b : U G) : ap2 63 a b = .int (bitsV .and .i64 a.toInt b.toInt) := rfl
theorem ap2_64 (a b : U G) : ap2 64 a b = .int (bitsV .and .u8 a.toInt b.toInt) := rfl
theorem ap2_65 (a b : U G) : ap2 65 a b = .int (bitsV .and .u16 a.toInt b.toInt) := rfl
theorem ap2_66 (a b : U G) : ap2 66 a b = .int (bitsV .and .u32 a.toInt b.toInt) := rfl
theorem ap2_67 (a b : U G) : ap2 67 a b = .int (bitsV .and .u64 a.toInt b.toInt) := rfl
theorem ap2_68 (a b : U G) : ap2 68 a b = .int (bitsV .or .i8 a.toInt b.toInt) := rfl
theorem ap2_69 (a b : U G) : ap2 69 a b = .int (bitsV .or .i16 a.toInt b.toInt) := rfl
theorem ap2_70 (a b : U G) : ap2 70 a b = .int (bitsV .or .i32 a.toInt b.toInt) := rfl
theorem ap2_71 (a b : U G) : ap2 71 a b = .int (bitsV .or .i64 a.toInt b.toInt) := rfl
theorem ap2_72 (a b : U G) : ap2 72 a b = .int (bitsV .or .u8 a.toInt b.toInt) := rfl
theorem ap2_73 (a b : U G) : ap2 73 a b = .int (bitsV .or .u16 a.toInt b.toInt) := rfl
theorem ap2_74 (a b : U G) : ap2 74 a b = .int (bitsV .or .u32 a.toInt b.toInt) := rfl
theorem ap2_75 (a b : U G) : ap2 75 a b = .int (bitsV .or .u64 a.toInt b.toInt) := rfl
theorem ap2_76 (a b : U G) : ap2 76 a b = .int (bitsV .xor .i8 a.toInt b.toInt) := rfl
theorem ap2_77 (a b : U G) : ap2 77 a b = .int (bitsV .xor .i16 a.toInt b.toInt) := rfl
theorem ap2_78 (a b : U G) : ap2 78 a b = .int (bitsV .xor .i32 a.toInt b.toInt) := rfl
theorem ap2_79 (a b : U G) : ap2 79 a b = .int (bitsV .xor .i64 a.toInt b.toInt) := rfl
theorem ap2_80 (a b : U G) : ap2 80 a b = .int (bitsV .xor .u8 a.toInt b.toInt) := rfl
theorem ap2_81 (a b : U G) : ap2 81 a b = .int (bitsV .xor .u16 a.toInt b.toInt) := rfl
theorem ap2_82 (a b : U G) : ap2 82 a b = .int (bitsV .xor .u32 a.toInt b.toInt) := rfl
theorem ap2_83 (a b : U G) : ap2 83 a b = .int (bitsV .xor .u64 a.toInt b.toInt) := rfl
theorem ap2_84 (a b : U G) : ap2 84 a b = .int (bitsV .andNot .i8 a.toInt b.toInt) := rfl
theorem ap2_85 (a b : U G) : ap2 85 a b = .int (bitsV .andNot .i16 a.toInt b.toInt) := rfl
theorem ap2_86 (a b : U G) : ap2 86 a b = .int (bitsV .andNot .i32 a.toInt b.toInt) := rfl
theorem ap2_87 (a b : U G) : ap2 87 a b = .int (bitsV .andNot .i64 a.toInt b.toInt) := rfl
theorem ap2_88 (a b : U G) : ap2 88 a b = .int (bitsV .andNot .u8 a.toInt b.toInt) := rfl
theorem ap2_89 (a b : U G) : ap2 89 a b = .int (bitsV .andNot .u16 a.toInt b.toInt) := rfl
theorem ap2_90 (a b : U G) : ap2 90 a b = .int (bitsV .andNot .u32 a.toInt b.toInt) := rfl
theorem ap2_91 (a b : U G) : ap2 91 a b = .int (bitsV .andNot .u64 a.toInt b.toInt) := rfl
theorem ap2_92 (a b : U G) : ap2 92 a b = .int (IntKind.wrap .i8 (a.toInt * 2 ^ (min b.toInt.toNat (IntKind.bits .i8)))) := rfl
theorem ap2_93 (a b : U G) : ap2 93 a b = .int (IntKind.wrap .i16 (a.toInt * 2 ^ (min b.toInt.toNat (IntKind.bits .i16)))) := rfl
theorem ap2_94 (a b : U G) : ap2 94 a b = .int (IntKind.wrap .i32 (a.toInt * 2 ^ (min b.toInt.toNat (IntKind.bits .i32)))) := rfl
theorem ap2_95 (a b : U G) : ap2 95 a b = .int (IntKind.wrap .i64 (a.toInt * 2 ^ (min b.toInt.toNat (IntKind.bits .i64)))) := rfl
theorem ap2_96 (a b : U G) : ap2 96 a b = .int (IntKind.wrap .u8 (a.toInt * 2 ^ (min b.toInt.toNat (IntKind.bits .u8)))) := rfl
theorem ap2_97 (a b : U G) : ap2 97 a b = .int (IntKind.wrap .u16 (a.toInt * 2 ^ (min b.toInt.toNat (IntKind.bits .u16)))) := rfl
theorem ap2_98 (a b : U G) : ap2 98 a b = .int (IntKind.wrap .u32 (a.toInt * 2 ^ (min b.toInt.toNat (IntKind.bits .u32)))) := rfl
theorem ap2_99 (a b : U G) : ap2 99 a b = .int (IntKind.wrap .u64 (a.toInt * 2 ^ (min b.toInt.toNat (IntKind.bits .u64)))) := rfl
theorem ap2_100 (a b : U G) : ap2 100 a b = .int (a.toInt.fdiv (2 ^ (min b.toInt.toNat (IntKind.bits .i8)))) := rfl
theorem ap2_101 (a b : U G) : ap2 101 a b = .int (a.toInt.fdiv (2 ^ (min b.toInt.toNat (IntKind.bits .i16)))) := rfl
theorem ap2_102 (a b : U G) : ap2 102 a b = .int (a.toInt.fdiv (2 ^ (min b.toInt.toNat (IntKind.bits .i32)))) := rfl
theorem ap2_103 (a b : U G) : ap2 103 a b = .int (a.toInt.fdiv (2 ^ (min b.toInt.toNat (IntKind.bits .i64)))) := rfl
theorem ap2_104 (a b : U G) : ap2 104 a b = .int (a.toInt.fdiv (2 ^ (min b.toInt.toNat (IntKind.bits .u8)))) := rfl
theorem ap2_105 (a b : U G) : ap2 105 a b = .int (a.toInt.fdiv (2 ^ (min b.toInt.toNat (IntKind.bits .u16)))) := rfl
theorem ap2_106 (a b : U G) : ap2 106 a b = .int (a.toInt.fdiv (2 ^ (min b.toInt.toNat (IntKind.bits .u32)))) := rfl
theorem ap2_107 (a b : U G) : ap2 107 a b = .int (a.toInt.fdiv (2 ^ (min b.toInt.toNat (IntKind.bits .u64)))) := rfl
theorem ap2_110 (a b : U G) : ap2 110 a b = .int (a.toInts.getD b.toInt.toNat 0) := rfl
theorem ap2_111 (a b : U G) : ap2 111 a b = .int ((a.toBytes.getD b.toInt.toNat 0).toNat : Nat) := rfl
theorem ap2_113 (a b : U G) : ap2 113 a b = .ints (a.toInts.take b.toInt.toNat) := rfl
theorem ap2_114 (a b : U G) : ap2 114 a b = .bytes (a.toBytes.take b.toInt.toNat) := rfl
theorem ap2_115 (a b : U G) : ap2 115 a b = .rows (a.toRows.take b.toInt.toNat) := rfl
theorem ap2_116 (a b : U G) : ap2 116 a b = .ints (a.toInts.drop b.toInt.toNat) := rfl
theorem ap2_117 (a b : U G) : ap2 117 a b = .bytes (a.toBytes.drop b.toInt.toNat) := rfl
theorem ap2_118 (a b : U G) : ap2 118 a b = .rows (a.toRows.drop b.toInt.toNat) := rfl
theorem ap2_119 (a b : U G) : ap2 119 a b = .ints (a.toInts ++ b.toInts) := rfl
theorem ap2_120 (a b : U G) : ap2 120 a b = .bytes (a.toBytes ++ b.toBytes) := rfl
theorem ap2_121 (a b : U G) : ap2 121 a b = .rows (a.toRows ++ b.toRows) := rfl
theorem ap2_122 (a b : U G) : ap2 122 a b = .ints (a.toInt :: b.toInts) := rfl
theorem ap2_123 (a b : U G) : ap2 123 a b = .bytes (UInt8.ofNat a.toInt.toNat :: b.toBytes) := rfl
theorem ap2_124 (a b : U G) : ap2 124 a b = .rows (a.toInts :: b.toRows) := rfl
theorem ap2_125 (a b : U G) : ap2 125 a b = .ints (List.replicate a.toInt.toNat b.toInt) := rfl
theorem ap2_126 (a b : U G) : ap2 126 a b = .bytes (List.replicate a.toInt.toNat (UInt8.ofNat b.toInt.toNat)) := rfl
theorem ap2_127 (a b : U G) : ap2 127 a b = .rows (List.replicate a.toInt.toNat b.toInts) := rfl
theorem ap2_141 (a b : U G) : ap2 141 a b = .bool (mhas a.toMap b.toInt) := rfl
theorem ap2_143 (a b : U G) : ap2 143 a b = .amap (mdel a.toMap b.toInt) := rfl
theorem ap2_150 (a b : U G) : ap2 150 a b = .bool (a.toBytes == b.toBytes) := rfl
theorem ap2_151 (a b : U G) : ap2 151 a b = .bool (Op.bytesLess a.toBytes b.toBytes) := rfl
theorem ap3_112 (a b c : U G) : ap3 112 a b c = .int ((a.toRows.getD b.toInt.toNat []).getD c.toInt.toNat 0) := rfl
theorem ap3_130 (a b c : U G) : ap3 130 a b c = .ints (a.toInts.set b.toInt.toNat c.toInt) := rfl
theorem ap3_131 (a b c : U G) : ap3 131 a b c = .bytes (a.toBytes.set b.toInt.toNat (UInt8.ofNat c.toInt.toNat)) := rfl
theorem ap3_132 (a b c : U G) : ap3 132 a b c = .rows (a.toRows.set b.toInt.toNat c.toInts) := rfl
theorem ap3_133 (a b c : U G) : ap3 133 a b c = .int (if a.toBool then b.toInt else c.toInt) := rfl
theorem ap3_134 (a b c : U G) : ap3 134 a b c = .bool (if a.toBool then b.toBool else c.toBool) := rfl
theorem ap3_140 (a b c : U G) : ap3 140 a b c = .int (mget a.toInt b.toMap c.toInt) := rfl
theorem ap3_142 (a b c : U G) : ap3 142 a b c = .amap (mset a.toMap b.toInt c.toInt) := rfl

theorem dec_true {p : Prop} {i : Decidable p} : (@decide p i = true) = p := propext ⟨fun h => of_decide_eq_true h, fun h => decide_eq_true h⟩
theorem p45 {G : Type} (a b : U G) : (ap2 45 a b).toProp = (a.toInt = b.toInt) := by simp [ap2_45]
theorem p46 {G : Type} (a b : U G) : (ap2 46 a b).toProp = (a.toInt < b.toInt) := dec_true
theorem p47 {G : Type} (a b : U G) : (ap2 47 a b).toProp = (a.toInt ≤ b.toInt) := dec_true
theorem p2_45 {G : Type} (a b : U G) : (ap1 2 (ap2 45 a b)).toProp = ¬ (a.toInt = b.toInt) := by simp [ap1_2, ap2_45]
theorem p2_46 {G : Type} (a b : U G) : (ap1 2 (ap2 46 a b)).toProp = ¬ (a.toInt < b.toInt) := by
  rw [ap1_2, ap2_46]; simp only [U.toProp_bool, U.toBool_bool]; by_cases h : a.toInt < b.toInt <;> simp [h]
theorem p2_47 {G : Type} (a b : U G) : (ap1 2 (ap2 47 a b)).toProp = ¬ (a.toInt ≤ b.toInt) := by
  rw [ap1_2, ap2_47]; simp only [U.toProp_bool, U.toBool_bool]; by_cases h : a.toInt ≤ b.toInt <;> simp [h]
theorem p49 {G : Type} (a b : U G) : (ap2 49 a b).toProp = (a.toBool = true ∧ b.toBool = true) := by simp [ap2_49]
theorem p50 {G : Type} (a b : U G) : (ap2 50 a b).toProp = (a.toBool = true ∨ b.toBool = true) := by simp [ap2_50]
theorem b45 {G : Type} (a b : U G) : ((ap2 45 a b).toBool = true) = (a.toInt = b.toInt) := p45 a b
theorem b46 {G : Type} (a b : U G) : ((ap2 46 a b).toBool = true) = (a.toInt < b.toInt) := p46 a b
theorem b47 {G : Type} (a b : U G) : ((ap2 47 a b).toBool = true) = (a.toInt ≤ b.toInt) := p47 a b
theorem p20 {G : Type} (a : U G) : (ap1 20 a).toProp = (IntKind.min .i8 ≤ a.toInt ∧ a.toInt ≤ IntKind.max .i8) := by
  rw [ap1_20, U.toProp_bool, Bool.and_eq_true, dec_true, dec_true]
theorem p21 {G : Type} (a : U G) : (ap1 21 a).toProp = (IntKind.min .i16 ≤ a.toInt ∧ a.toInt ≤ IntKind.max .i16) := by
  rw [ap1_21, U.toProp_bool, Bool.and_eq_true, dec_true, dec_true]
theorem p22 {G : Type} (a : U G) : (ap1 22 a).toProp = (IntKind.min .i32 ≤ a.toInt ∧ a.toInt ≤ IntKind.max .i32) := by
  rw [ap1_22, U.toProp_bool, Bool.and_eq_true, dec_true, dec_true]
theorem p23 {G : Type} (a : U G) : (ap1 23 a).toProp = (IntKind.min .i64 ≤ a.toInt ∧ a.toInt ≤ IntKind.max .i64) := by
  rw [ap1_23, U.toProp_bool, Bool.and_eq_true, dec_true, dec_true]
theorem p24 {G : Type} (a : U G) : (ap1 24 a).toProp = (IntKind.min .u8 ≤ a.toInt ∧ a.toInt ≤ IntKind.max .u8) := by
  rw [ap1_24, U.toProp_bool, Bool.and_eq_true, dec_true, dec_true]
theorem p25 {G : Type} (a : U G) : (ap1 25 a).toProp = (IntKind.min .u16 ≤ a.toInt ∧ a.toInt ≤ IntKind.max .u16) := by
  rw [ap1_25, U.toProp_bool, Bool.and_eq_true, dec_true, dec_true]
theorem p26 {G : Type} (a : U G) : (ap1 26 a).toProp = (IntKind.min .u32 ≤ a.toInt ∧ a.toInt ≤ IntKind.max .u32) := by
  rw [ap1_26, U.toProp_bool, Bool.and_eq_true, dec_true, dec_true]
theorem p27 {G : Type} (a : U G) : (ap1 27 a).toProp = (IntKind.min .u64 ≤ a.toInt ∧ a.toInt ≤ IntKind.max .u64) := by
  rw [ap1_27, U.toProp_bool, Bool.and_eq_true, dec_true, dec_true]
theorem upd_self (ρ : Env G) (n : Nat) (u : U G) : ρ.upd n u n = u := by simp [Env.upd]
theorem upd_ne (ρ : Env G) {n m : Nat} (u : U G) (h : m ≠ n) : ρ.upd n u m = ρ m := by simp [Env.upd, h]
end

/-! ### Bits of words without sign, and the check sum -/
theorem ofInt_nat (n m : Nat) : BitVec.ofInt n (m : Int) = BitVec.ofNat n m := by
  rw [BitVec.ofInt_natCast]
theorem bitsV_u32_xor (a b : Nat) (ha : a < 4294967296) (hb : b < 4294967296) : bitsV .xor .u32 a b = ((a ^^^ b : Nat) : Int) := by
  have e0 : bitsV .xor .u32 a b = IntKind.u32.wrap ((BitVec.ofInt 32 (a : Int) ^^^ BitVec.ofInt 32 (b : Int)).toNat : Nat) := rfl
  rw [e0, ofInt_nat, ofInt_nat]
  have h1 : (BitVec.ofNat 32 a ^^^ BitVec.ofNat 32 b).toNat = a ^^^ b := by
    rw [BitVec.toNat_xor, BitVec.toNat_ofNat, BitVec.toNat_ofNat, Nat.mod_eq_of_lt ha, Nat.mod_eq_of_lt hb]
  rw [h1]
  have h2 : a ^^^ b < 2 ^ 32 := Nat.xor_lt_two_pow ha hb
  unfold IntKind.wrap
  simp only [IntKind.signed, IntKind.bits]
  simp
  omega
theorem bitsV_u32_and15 (a : Nat) (ha : a < 4294967296) : bitsV .and .u32 a 15 = ((a &&& 15 : Nat) : Int) := by
  have e0 : bitsV .and .u32 a 15 = IntKind.u32.wrap ((BitVec.ofInt 32 (a : Int) &&& BitVec.ofInt 32 ((15 : Nat) : Int)).toNat : Nat) := rfl
  rw [e0, ofInt_nat, ofInt_nat]
  have h1 : (BitVec.ofNat 32 a &&& BitVec.ofNat 32 15).toNat = a &&& 15 := by
    rw [BitVec.toNat_and, BitVec.toNat_ofNat, BitVec.toNat_ofNat, Nat.mod_eq_of_lt ha, Nat.mod_eq_of_lt (by omega)]
  rw [h1]
  have h2 : a &&& 15 ≤ 15 := Nat.and_le_right
  unfold IntKind.wrap
  simp only [IntKind.signed, IntKind.bits]
  simp
  omega
theorem crcTab_lt (n : Nat) : crcTab.getD n 0 < 4294967296 := by
  match n with
  | 0 | 1 | 2 | 3 | 4 | 5 | 6 | 7 | 8 | 9 | 10 | 11 | 12 | 13 | 14 | 15 => decide
  | n + 16 => simp [crcTab]
theorem crcHalf_lt {r : Nat} (h : r < 4294967296) : crcHalf r < 4294967296 := Nat.xor_lt_two_pow (n := 32) (crcTab_lt _) (by omega)
theorem crcByte_lt {r x : Nat} (h : r < 4294967296) (hx : x < 256) : crcByte r x < 4294967296 :=
  crcHalf_lt (crcHalf_lt (Nat.xor_lt_two_pow (n := 32) h (by omega)))
theorem crcRun_lt : ∀ (l : List UInt8) {r : Nat}, r < 4294967296 → crcRun r l < 4294967296
  | [], _, h => h
  | x :: l, _, h => crcRun_lt l (crcByte_lt h (by have := x.toNat_lt; omega))
theorem crcRun_append : ∀ (l m : List UInt8) (r : Nat), crcRun r (l ++ m) = crcRun (crcRun r l) m
  | [], _, _ => rfl
  | x :: l, m, r => by simp only [List.cons_append, crcRun]; exact crcRun_append l m _
theorem crcRun_take (l : List UInt8) (i : Nat) (h : i < l.length) (r : Nat) : crcRun r (l.take (i + 1)) = crcByte (crcRun r (l.take i)) (l.getD i 0).toNat := by
  rw [List.take_add_one, crcRun_append, List.getD_eq_getElem?_getD, List.getElem?_eq_getElem h]
  rfl
def tabI : List Int := [0, 274646895, 549293790, 820201905, 1098587580, 1361435347, 1640403810, 1905808397, 2197175160, 2460548119, 2722870694, 2987750089, 3280807620, 3553878443, 3811616794, 4084100981]
theorem tabI_get (n : Nat) : tabI.getD n 0 = ((crcTab.getD n 0 : Nat) : Int) := by
  match n with
  | 0 | 1 | 2 | 3 | 4 | 5 | 6 | 7 | 8 | 9 | 10 | 11 | 12 | 13 | 14 | 15 => rfl
  | n + 16 => simp [tabI, crcTab]
/-- The half step as the code takes it. -/
theorem half_step (r : Nat) (h : r < 4294967296) : bitsV .xor .u32 (tabI.getD (bitsV .and .u32 r 15).toNat 0) ((r : Int).fdiv (2 ^ (min (Int.toNat 4) (IntKind.bits .u32)))) = (crcHalf r : Nat) := by
  rw [bitsV_u32_and15 r h, tabI_get]
  have e : ((r : Int).fdiv (2 ^ (min (Int.toNat 4) (IntKind.bits .u32)))) = ((r / 16 : Nat) : Int) := by
    have : (2 : Int) ^ (min (Int.toNat 4) (IntKind.bits .u32)) = 16 := by decide
    rw [this, Int.fdiv_eq_ediv_of_nonneg _ (by omega)]
    omega
  rw [e, bitsV_u32_xor _ _ (crcTab_lt _) (by omega)]
  rfl
end Go.Eng
