/- ink.Sum of one part is the check sum of its bytes. -/
import Derived.Test.YtmjonggabppgaaaEngX
import Derived.Test.YtmjonggabppgaaaProg
import Derived.KernelRfl
set_option linter.unusedSimpArgs false
set_option linter.unusedVariables false
namespace Go.Proofs.Ytmjonggabppgaaa
open Go.Eng
def ai (n : Nat) : SX := .at .int n
def di (n : Nat) : SX := .at .int (1000000 + n)
def sumParts : Ch := .arr (.rows [.slice 1]) (ai 0) (.f2 124 (.f2 122 (ai 1) (.f2 122 (ai 2) (.f2 122 (ai 5) (.f1 152 (.int 0))))) (.f1 154 (.int 0))) (.int 1)
def sumBs : Ch := .arr .bytes (ai 1) (.at .bytes 3) (ai 4)
def sumCtr : Ctr := ⟨[.int, .int, .int, .bytes, .int, .int], [.one (.slice (ai 0) (.int 0) (.int 0) (.int 0) (.int 1) (.int 1) 1)], [sumParts, sumBs], [eLe (.int 0) (ai 2), eLe (ai 2) (.f1 31 (.at .bytes 3)), eLe (ai 2) (ai 5), eLe (ai 2) (.int 140737488355328)], [],
  .one (.int .u32 (.f2 82 (.int 4294967295) (.f1 160 (.f2 114 (.at .bytes 3) (ai 2))))), [sumParts, sumBs], []⟩
def sumInv : Inv := ⟨[.int, .int], [(3, .one (.int .u32 (di 0))), (16, .one (.int .i64 (di 1)))], [], [eLe (.int 0) (di 1), eLe (di 1) (ai 2), eEq (di 0) (.f1 160 (.f2 114 (.at .bytes 3) (di 1)))], .f2 41 (ai 2) (di 1)⟩
def sumCx : Cx := { specs := [], anns := [(43, [(6, .inv sumInv)])] }
def sumVc : VC := .imp (.f2 47 (.int 0) (.at .int 2)) (.imp (.f2 47 (.at .int 2) (.f1 31 (.at .bytes 3))) (.imp (.f2 47 (.at .int 2) (.at .int 5)) (.imp (.f2 47 (.at 
    .int 2) (.int 140737488355328)) (.need (.f2 45 (.int 4294967295) (.f1 160 (.f2 114 (.at .bytes 3) (.int 0)))) (.all 6 .int (.all 7 .int (.imp (.f2 47 
    (.int 0) (.at .int 7)) (.imp (.f2 47 (.at .int 7) (.at .int 2)) (.imp (.f2 45 (.at .int 6) (.f1 160 (.f2 114 (.at .bytes 3) (.at .int 7)))) (.and 
    (.imp (.f2 46 (.at .int 7) (.at .int 2)) (.need (.f2 46 (.at .int 7) (.f1 31 (.at .bytes 3))) (.all 8 .int (.imp (.f2 47 (.int 0) (.at .int 8)) (.need 
    (.f2 47 (.int 0) (.f2 66 (.f2 82 (.at .int 6) (.f2 111 (.at .bytes 3) (.at .int 7))) (.int 15))) (.need (.f2 46 (.f2 66 (.f2 82 (.at .int 6) (.f2 111 
    (.at .bytes 3) (.at .int 7))) (.int 15)) (.int 16)) (.all 9 .int (.imp (.f2 47 (.int 0) (.at .int 9)) (.need (.f2 47 (.int 0) (.f2 66 (.f2 82 (.f2 110 
    (.f2 122 (.int 0) (.f2 122 (.int 274646895) (.f2 122 (.int 549293790) (.f2 122 (.int 820201905) (.f2 122 (.int 1098587580) (.f2 122 (.int 1361435347) 
    (.f2 122 (.int 1640403810) (.f2 122 (.int 1905808397) (.f2 122 (.int 2197175160) (.f2 122 (.int 2460548119) (.f2 122 (.int 2722870694) (.f2 122 (.int 
    2987750089) (.f2 122 (.int 3280807620) (.f2 122 (.int 3553878443) (.f2 122 (.int 3811616794) (.f2 122 (.int 4084100981) (.f1 152 (.int 
    0)))))))))))))))))) (.f2 66 (.f2 82 (.at .int 6) (.f2 111 (.at .bytes 3) (.at .int 7))) (.int 15))) (.f2 106 (.f2 82 (.at .int 6) (.f2 111 (.at .bytes 
    3) (.at .int 7))) (.int 4))) (.int 15))) (.need (.f2 46 (.f2 66 (.f2 82 (.f2 110 (.f2 122 (.int 0) (.f2 122 (.int 274646895) (.f2 122 (.int 549293790) 
    (.f2 122 (.int 820201905) (.f2 122 (.int 1098587580) (.f2 122 (.int 1361435347) (.f2 122 (.int 1640403810) (.f2 122 (.int 1905808397) (.f2 122 (.int 
    2197175160) (.f2 122 (.int 2460548119) (.f2 122 (.int 2722870694) (.f2 122 (.int 2987750089) (.f2 122 (.int 3280807620) (.f2 122 (.int 3553878443) 
    (.f2 122 (.int 3811616794) (.f2 122 (.int 4084100981) (.f1 152 (.int 0)))))))))))))))))) (.f2 66 (.f2 82 (.at .int 6) (.f2 111 (.at .bytes 3) (.at 
    .int 7))) (.int 15))) (.f2 106 (.f2 82 (.at .int 6) (.f2 111 (.at .bytes 3) (.at .int 7))) (.int 4))) (.int 15)) (.int 16)) (.need (.f1 23 (.f2 40 
    (.at .int 7) (.int 1))) (.need (.f2 47 (.int 0) (.f2 41 (.at .int 2) (.f2 40 (.at .int 7) (.int 1)))) (.need (.f2 46 (.f2 41 (.at .int 2) (.f2 40 (.at 
    .int 7) (.int 1))) (.f2 41 (.at .int 2) (.at .int 7))) (.need (.f2 47 (.int 0) (.f2 40 (.at .int 7) (.int 1))) (.need (.f2 47 (.f2 40 (.at .int 7) 
    (.int 1)) (.at .int 2)) (.need (.f2 45 (.f2 82 (.f2 110 (.f2 122 (.int 0) (.f2 122 (.int 274646895) (.f2 122 (.int 549293790) (.f2 122 (.int 
    820201905) (.f2 122 (.int 1098587580) (.f2 122 (.int 1361435347) (.f2 122 (.int 1640403810) (.f2 122 (.int 1905808397) (.f2 122 (.int 2197175160) (.f2 
    122 (.int 2460548119) (.f2 122 (.int 2722870694) (.f2 122 (.int 2987750089) (.f2 122 (.int 3280807620) (.f2 122 (.int 3553878443) (.f2 122 (.int 
    3811616794) (.f2 122 (.int 4084100981) (.f1 152 (.int 0)))))))))))))))))) (.f2 66 (.f2 82 (.f2 110 (.f2 122 (.int 0) (.f2 122 (.int 274646895) (.f2 
    122 (.int 549293790) (.f2 122 (.int 820201905) (.f2 122 (.int 1098587580) (.f2 122 (.int 1361435347) (.f2 122 (.int 1640403810) (.f2 122 (.int 
    1905808397) (.f2 122 (.int 2197175160) (.f2 122 (.int 2460548119) (.f2 122 (.int 2722870694) (.f2 122 (.int 2987750089) (.f2 122 (.int 3280807620) 
    (.f2 122 (.int 3553878443) (.f2 122 (.int 3811616794) (.f2 122 (.int 4084100981) (.f1 152 (.int 0)))))))))))))))))) (.f2 66 (.f2 82 (.at .int 6) (.f2 
    111 (.at .bytes 3) (.at .int 7))) (.int 15))) (.f2 106 (.f2 82 (.at .int 6) (.f2 111 (.at .bytes 3) (.at .int 7))) (.int 4))) (.int 15))) (.f2 106 
    (.f2 82 (.f2 110 (.f2 122 (.int 0) (.f2 122 (.int 274646895) (.f2 122 (.int 549293790) (.f2 122 (.int 820201905) (.f2 122 (.int 1098587580) (.f2 122 
    (.int 1361435347) (.f2 122 (.int 1640403810) (.f2 122 (.int 1905808397) (.f2 122 (.int 2197175160) (.f2 122 (.int 2460548119) (.f2 122 (.int 
    2722870694) (.f2 122 (.int 2987750089) (.f2 122 (.int 3280807620) (.f2 122 (.int 3553878443) (.f2 122 (.int 3811616794) (.f2 122 (.int 4084100981) 
    (.f1 152 (.int 0)))))))))))))))))) (.f2 66 (.f2 82 (.at .int 6) (.f2 111 (.at .bytes 3) (.at .int 7))) (.int 15))) (.f2 106 (.f2 82 (.at .int 6) (.f2 
    111 (.at .bytes 3) (.at .int 7))) (.int 4))) (.int 4))) (.f1 160 (.f2 114 (.at .bytes 3) (.f2 40 (.at .int 7) (.int 1))))) (.tt))))))))))))))))) (.imp 
    (.f2 47 (.at .int 2) (.at .int 7)) (.need (.f2 45 (.f2 82 (.int 4294967295) (.f1 160 (.f2 114 (.at .bytes 3) (.at .int 2)))) (.f2 82 (.int 4294967295) 
    (.at .int 6))) (.tt)))))))))))))
theorem sum_vc : vcOf Try.prog sumCx 10 43 sumCtr = sumVc := by kernel_rfl
theorem bits_loop (r x : Nat) (h : r < 4294967296) (hx : x < 256) :
    bitsV .xor .u32 (tabI.getD (bitsV .and .u32 (bitsV .xor .u32 (tabI.getD (bitsV .and .u32 (bitsV .xor .u32 r x) 15).toNat 0) ((bitsV .xor .u32 r x).fdiv (2 ^ (min (Int.toNat 4) (IntKind.bits .u32))))) 15).toNat 0)
      ((bitsV .xor .u32 (tabI.getD (bitsV .and .u32 (bitsV .xor .u32 r x) 15).toNat 0) ((bitsV .xor .u32 r x).fdiv (2 ^ (min (Int.toNat 4) (IntKind.bits .u32))))).fdiv (2 ^ (min (Int.toNat 4) (IntKind.bits .u32)))) = (crcByte r x : Nat) := by
  have h1 : r ^^^ x < 4294967296 := Nat.xor_lt_two_pow (n := 32) h (by omega)
  rw [bitsV_u32_xor r x h (by omega), half_step _ h1, half_step _ (crcHalf_lt h1)]
  rfl
theorem and15_range (a : Int) : 0 ≤ bitsV .and .u32 a 15 ∧ bitsV .and .u32 a 15 < 16 := by
  have e0 : bitsV .and .u32 a 15 = IntKind.u32.wrap ((BitVec.ofInt 32 a &&& BitVec.ofInt 32 ((15 : Nat) : Int)).toNat : Nat) := rfl
  rw [e0, ofInt_nat, BitVec.toNat_and]
  have h2 : (BitVec.ofInt 32 a).toNat &&& (BitVec.ofNat 32 15).toNat ≤ 15 := by
    have := Nat.and_le_right (n := (BitVec.ofInt 32 a).toNat) (m := (BitVec.ofNat 32 15).toNat)
    have e : (BitVec.ofNat 32 15).toNat = 15 := by decide
    omega
  generalize (BitVec.ofInt 32 a).toNat &&& (BitVec.ofNat 32 15).toNat = q at *
  unfold IntKind.wrap
  simp only [IntKind.signed, IntKind.bits]
  simp
  omega
theorem sum_ok {G : Type} (S : Sig G) : CtrOk S Try.prog 43 sumCtr := by
  refine vcOf_sound S (C := sumCx) (fuel := 10) ⟨fun f sps h => by simp [sumCx, assoc] at h, fun f l h i sp args hm => ?_, fun f sps h => by simp [sumCx, assoc] at h⟩ fun ρ => ?_
  · simp only [sumCx, assoc] at h
    cases hb : Nat.beq 43 f
    · rw [hb] at h; cases h
    · rw [hb] at h; cases h
      simp at hm
  · rw [sum_vc]
    simp only [sumVc, VC.den, SX.den, U.co, Env.upd, ap1_160, p23, p45, p46, p47, ap1_31, ap2_40, ap2_41, ap2_66, ap2_82, ap2_106, ap2_110, ap2_111, ap2_114, ap2_122, ap1_152, U.toInt_int, U.toBytes_bytes, U.toInts_ints, 
      if_true, if_false, Nat.reduceEqDiff, reduceIte]
    have key : ∀ (i : Int) (r : Int), 0 ≤ i → i ≤ (ρ 2).toInt → r = ↑(crcRun 4294967295 (List.take i.toNat (ρ 3).toBytes)) → ∃ q : Nat, r = q ∧ q < 4294967296 := fun i r _ _ h => ⟨_, h, crcRun_lt _ (by decide)⟩
    intro a1 a2 a3 a4
    refine ⟨by simp [crcRun], fun r i h1 h2 h3 => ⟨fun h4 => ?_, fun h4 => ?_⟩⟩
    · have hlt : i.toNat < (ρ 3).toBytes.length := by omega
      have hx := ((ρ 3).toBytes.getD i.toNat 0).toNat_lt
      have hstep : bitsV .xor .u32 (tabI.getD (bitsV .and .u32 (bitsV .xor .u32 (tabI.getD (bitsV .and .u32 (bitsV .xor .u32 r ((ρ 3).toBytes.getD i.toNat 0).toNat) 15).toNat 0) ((bitsV .xor .u32 r ((ρ 3).toBytes.getD i.toNat 0).toNat).fdiv (2 ^ (min (Int.toNat 4) (IntKind.bits .u32))))) 15).toNat 0)
          ((bitsV .xor .u32 (tabI.getD (bitsV .and .u32 (bitsV .xor .u32 r ((ρ 3).toBytes.getD i.toNat 0).toNat) 15).toNat 0) ((bitsV .xor .u32 r ((ρ 3).toBytes.getD i.toNat 0).toNat).fdiv (2 ^ (min (Int.toNat 4) (IntKind.bits .u32))))).fdiv (2 ^ (min (Int.toNat 4) (IntKind.bits .u32)))) =
            ↑(crcRun 4294967295 (List.take (i + 1).toNat (ρ 3).toBytes)) := by
        have e : (i + 1).toNat = i.toNat + 1 := by omega
        rw [e, crcRun_take _ _ hlt, h3]
        exact bits_loop _ _ (crcRun_lt _ (by decide)) (by omega)
      refine ⟨by omega, fun _ _ => ⟨(and15_range _).1, (and15_range _).2, fun _ _ => ⟨(and15_range _).1, (and15_range _).2, ⟨?_, ?_⟩, by omega, by omega, by omega, by omega, hstep, trivial⟩⟩⟩
      · show (-(2 ^ 63) : Int) ≤ _; omega
      · show _ ≤ (2 ^ 63 - 1 : Int); omega
    · have : i = (ρ 2).toInt := by omega
      refine ⟨?_, trivial⟩
      rw [h3, this]
end Go.Proofs.Ytmjonggabppgaaa
