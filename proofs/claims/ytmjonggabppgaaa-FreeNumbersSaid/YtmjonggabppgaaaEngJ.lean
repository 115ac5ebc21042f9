/- The quiet operations: that what they answer symbolically is what the model does. Part 6: all in one. -/
import Derived.Test.YtmjonggabppgaaaEngI
set_option linter.unusedSimpArgs false
set_option linter.unusedVariables false
namespace Go.Eng
open Go.RowKit (Below)

section
variable {G : Type} (S : Sig G) (ρ : Env G) (w0 : World) {P : Program}

theorem lenSX31 (e : SX) : ((SX.mk1 31 e).den S ρ) = .int (e.den S ρ).toBytes.length := by rw [SX.mk1_den]; rfl

theorem extract_bytes (l : List UInt8) (a b : Nat) : (⟨l.toArray⟩ : ByteArray).extract a b = ⟨((l.drop a).take (b - a)).toArray⟩ := by
  apply ByteArray.ext
  rw [ByteArray.data_extract]
  simp [List.extract_eq_take_drop]

theorem isByte_den {e : SX} (h : isByte e = true) : 0 ≤ (e.den S ρ).toInt ∧ (e.den S ρ).toInt ≤ 255 := by
  unfold isByte at h
  split at h
  · rename_i a b
    simp only [SX.den, ap2, U.toInt_int]
    have := UInt8.toNat_lt ((SX.den S ρ a).toBytes.getD (SX.den S ρ b).toInt.toNat 0)
    omega
  · rename_i n
    have := Nat.le_of_ble_eq_true h
    show 0 ≤ (Int.ofNat n) ∧ (Int.ofNat n) ≤ 255
    simp; omega
  · cases h

set_option maxHeartbeats 1000000 in
theorem qev_sound {F : HProp} {w : World} {hp : List Ch} {asm : List SX} (ha : ∀ x ∈ asm, (x.den S ρ).toProp) (hs : Sat w0 (star (hpDen S ρ w0 hp) F) w)
    {L : Operand → SV} {ev : Operand → Value} (hL : ∀ x, (L x).R S ρ (ev x)) {o : Oper} {ns : List SX} {sv : SV}
    (h : qev P hp asm L o.op = some (ns, sv)) (hns : ∀ e ∈ ns, (e.den S ρ).toProp) :
    ∃ v, (execOp ev o).run P w = .ok (.value v) w ∧ sv.R S ρ v := by
  unfold execOp
  generalize ho : o.op = op at h
  unfold qev at h
  split at h
  · -- move
    rename_i x; cases h
    exact ⟨_, rfl, hL x⟩
  · rename_i x; cases h
    exact ⟨_, rfl, hL x⟩
  · -- pick
    rename_i c a b
    split at h
    · rename_i hc; cases h
      have := R_one S ρ (hc ▸ hL c)
      refine ⟨ev a, ?_, hL a⟩
      simp [this, SC.den, SX.den, asBool]
    · rename_i hc; cases h
      have := R_one S ρ (hc ▸ hL c)
      refine ⟨ev b, ?_, hL b⟩
      simp [this, SC.den, SX.den, asBool]
    · rename_i e _ _ hc
      split at h
      · rename_i x y hx hy; cases h
        have h1 := R_one S ρ (hc ▸ hL c)
        have h2 := R_one S ρ (hx ▸ hL a)
        have h3 := R_one S ρ (hy ▸ hL b)
        refine ⟨_, ?_, R_mk S ρ _⟩
        simp only [h1, h2, h3, SC.den, asBool, SV.den, SX.mk3_den, SX.den, ap3, U.toBool_bool]
        cases (e.den S ρ).toBool <;> simp
      · cases h
    · cases h
  · -- nilCheck
    rename_i x
    split at h
    · rename_i b o' hx; cases h
      have h1 := R_one S ρ (hx ▸ hL x)
      obtain ⟨h0, _⟩ := needPos_sound S ρ w0 ha hs hns
      refine ⟨_, ?_, R_mk S ρ _⟩
      simp only [h1, SC.den, SV.den]
      rw [if_neg (by omega)]; rfl
    · rename_i b o' i s j hx; cases h
      have h1 := R_one S ρ (hx ▸ hL x)
      refine ⟨_, ?_, R_mk S ρ _⟩
      simp only [h1, SC.den, SV.den]; rfl
    · rename_i f hx; cases h
      have h1 := R_one S ρ (hx ▸ hL x)
      refine ⟨_, ?_, R_mk S ρ _⟩
      simp only [h1, SC.den, SV.den]; rfl
    · rename_i b o' k z l c s hx; cases h
      have h1 := R_one S ρ (hx ▸ hL x)
      refine ⟨_, ?_, R_mk S ρ _⟩
      simp only [h1, SC.den, SV.den]; rfl
    · rename_i b hx; cases h
      have h1 := R_one S ρ (hx ▸ hL x)
      refine ⟨_, ?_, R_mk S ρ _⟩
      simp only [h1, SC.den, SV.den]; rfl
    · cases h
  · -- binOp
    rename_i op' t x y yt
    refine ⟨_, run_v (binOpX_sound S ρ ha (hL x) (hL y) h hns x y w), R_mk S ρ _⟩
  · -- unOp
    rename_i op' t x
    split at h
    · rename_i e hx; cases h
      have h1 := R_one S ρ (hx ▸ hL x)
      refine ⟨_, run_v (v := SV.den S ρ (.one (.bool (eNot e)))) ?_, R_mk S ρ _⟩
      rw [h1]; simp only [SC.den, Op.unary, SV.den, eNot_toBool]; rfl
    · rename_i k e hx
      have h1 := R_one S ρ (hx ▸ hL x)
      rw [← Prod.eta (wrapped asm k _)] at h; cases h
      refine ⟨_, run_v (v := _) ?_, R_mk S ρ _⟩
      rw [h1, wrapped_sound S ρ ha (toInt_ap2_41 S ρ (.int 0) e) hns]
      simp only [SC.den, Op.unary, Op.intArith, SX.den, U.toInt_int]; rfl
    · rename_i k e hx
      cases h
      have h1 := R_one S ρ (hx ▸ hL x)
      refine ⟨_, run_v (v := _) ?_, R_mk S ρ _⟩
      rw [h1]
      simp only [SV.den, SC.den]
      rw [SX.mk2_den, bits_den S ρ 76 .xor k _ e (by intro x y; cases k <;> rfl)]
      rfl
    · cases h
  · -- convert
    rename_i src dst x
    split at h
    · rename_i d k k' e hsrc hdst hx
      have h1 := R_one S ρ (hx ▸ hL x)
      have hrun : ∀ n, (convert src dst (.int k' n)).run P w = .ok (.int k (k.wrap n)) w := fun n => by
        simp [convert, run_underlying hsrc, run_underlying hdst, Conv.intToInt]
      cases hb : isByte e
      · rw [hb] at h
        simp only [cond_false, Option.some.injEq] at h
        rw [← Prod.eta (wrapped asm k e)] at h; cases h
        refine ⟨_, run_v (v := _) ?_, R_mk S ρ _⟩
        rw [h1, wrapped_sound S ρ ha rfl hns]
        exact hrun _
      · rw [hb] at h; cases h
        refine ⟨_, run_v (v := _) ?_, R_mk S ρ _⟩
        rw [h1]
        simp only [SC.den, hrun, SV.den]
        have hrange := isByte_den S ρ hb
        have hw : ∀ k : IntKind, kn k ≠ 0 → k.wrap (e.den S ρ).toInt = (e.den S ρ).toInt := fun k hk => by
          refine wrap_fits ?_
          cases k <;> simp only [IntKind.min, IntKind.max, IntKind.bits, IntKind.signed] <;> first | (exact absurd rfl hk) | (simp; omega)
        cases hk0 : Nat.beq (kn k) 0
        · rw [hw k (fun h => by rw [h] at hk0; cases hk0)]; rfl
        · have : k = .i8 := kn_inj (Nat.eq_of_beq_eq_true hk0)
          subst this
          simp only [cond_true]
          rw [SX.mk1_den]; rfl
    · rename_i d e hsrc hdst hx; cases h
      have h1 := R_one S ρ (hx ▸ hL x)
      refine ⟨_, run_v (v := _) ?_, R_mk S ρ _⟩
      rw [h1]; simp [convert, run_underlying hsrc, run_underlying hdst, SC.den, SV.den]
    · rename_i t v hsrc hdst _
      split at h
      · rename_i hu
        exact ⟨_, run_v (textOf_sound S ρ w0 ha hs hsrc hu hdst (hL x) h hns), R_mk S ρ _⟩
      · cases h
    · cases h
  · -- fieldAddr
    rename_i t x f
    split at h
    · rename_i fs c hu hx
      split at h
      · rename_i fd hfd
        split at h
        · rename_i n hn
          have h1 := R_one S ρ (hx ▸ hL x)
          split at h
          · rename_i b o'; cases h
            obtain ⟨h0, _⟩ := needPos_sound S ρ w0 ha hs hns
            refine ⟨_, run_v (v := _) ?_, R_mk S ρ _⟩
            rw [h1]
            simp only [SC.den, SV.den]
            rw [if_neg (by omega), if_neg (by omega)]
            exact fieldAt_run hu hfd hn _ _ w
          · rename_i b o' i s j; cases h
            refine ⟨_, run_v (v := _) ?_, R_mk S ρ _⟩
            rw [h1]
            simp only [SC.den, SV.den]
            rw [fieldAt_run hu hfd hn _ _ w, Nat.add_assoc]
          · cases h
        · cases h
      · cases h
    · cases h
  · -- field
    rename_i t x f
    split at h
    · rename_i fs cs hu hx
      split at h
      · rename_i fd hfd
        split at h
        · rename_i n d hn hd
          cases hle : Nat.ble (fd.offset + n) cs.length
          · rw [hle] at h; cases h
          rw [hle] at h
          simp only [cond_true] at h
          obtain ⟨hden, h1⟩ := sv_part S ρ h
          have hx1 := R_agg S ρ (hx ▸ hL x)
          refine ⟨_, run_v (v := sv.den S ρ) ?_, R_mk S ρ _⟩
          rw [hx1, hden]
          have := part_run hd hn (cs.map (SC.den S ρ)) fd.offset (by simpa using Nat.le_of_ble_eq_true hle) (by simpa using h1) w
          simp [Instr.field, run_underlying hu, hfd, asAgg, this]
        · cases h
      · cases h
    · cases h
  · -- indexAddr
    rename_i t x ix
    split at h
    · rename_i e b o' k z l c s i hu hx hi
      split at h
      · rename_i n en xs hn hfa
        cases hn1 : Nat.ble 1 n
        · rw [hn1] at h; cases h
        cases hns1 : Nat.beq n s
        · rw [hn1, hns1] at h; cases h
        rw [hn1, hns1] at h; cases h
        have hs0 := Nat.le_of_ble_eq_true hn1
        have := Nat.eq_of_beq_eq_true hns1
        subst this
        obtain ⟨hi0, hns⟩ := need_sound S ρ ha hns
        obtain ⟨hil, hns⟩ := need_sound S ρ ha hns
        obtain ⟨hk0, hns⟩ := need_sound S ρ ha hns
        obtain ⟨hkl, hns⟩ := need_sound S ρ ha hns
        rw [eLe_den] at hi0 hk0
        rw [eLt_den] at hil hkl
        rw [En.lenX_den, toInt_ap2_40] at hkl
        simp only [SX.den, U.toInt_int] at hi0 hk0 hkl
        obtain ⟨hst, hpos, _⟩ := arr_cells S ρ w0 hfa hs
        obtain ⟨kk, hix⟩ := intOfSV_den S ρ hi (hL ix)
        have hx1 := R_one S ρ (hx ▸ hL x)
        have hkz : (if (c.den S ρ).toInt = 0 then (z.den S ρ).toInt else (k.den S ρ).toInt) = (k.den S ρ).toInt := by
          cases hzk : SX.bq z k
          · rw [hzk] at hns
            obtain ⟨hc0, _⟩ := need_sound S ρ ha hns
            rw [eLt_den] at hc0
            simp only [SX.den, U.toInt_int] at hc0
            rw [if_neg (by omega)]
          · rw [SX.bq_eq hzk]; simp
        refine ⟨_, run_v (v := _) ?_, R_mk S ρ _⟩
        rw [hx1, hix]
        simp only [SC.den, SV.den]
        rw [hkz]
        have hb0 : 0 ≤ (b.den S ρ).toInt := hpos (by
          intro he
          have h2 := En.vals_length en (xs.den S ρ)
          rw [he, hst] at h2
          simp only [List.length_nil] at h2
          have : 0 < en.len (xs.den S ρ) := by omega
          have := Nat.mul_pos this hs0
          omega)
        rw [if_neg (by omega)]
        have hlt : (i.den S ρ).toInt < max (l.den S ρ).toInt 0 := by omega
        simp [Instr.indexAt, asIntOf, run_underlying hu, hi0, run_sizeOfE hn, Addr.add_eq, hlt]
        rw [toInt_ap2_40]
        rw [show ((k.den S ρ).toInt + (i.den S ρ).toInt).toNat = (k.den S ρ).toInt.toNat + (i.den S ρ).toInt.toNat by omega, Nat.add_mul]
        omega
      · cases h
    · rename_i n e b o' i hu hx hi
      split at h
      · rename_i s hn
        cases hlt : Nat.blt i n
        · rw [hlt] at h; cases h
        rw [hlt] at h; cases h
        obtain ⟨h0, _⟩ := needPos_sound S ρ w0 ha hs hns
        obtain ⟨kk, hix⟩ := intOfSV_den S ρ hi (hL ix)
        have hx1 := R_one S ρ (hx ▸ hL x)
        refine ⟨_, run_v (v := _) ?_, R_mk S ρ _⟩
        rw [hx1, hix]
        simp only [SC.den, SV.den]
        rw [if_neg (by omega), if_neg (by omega)]
        have h1 : (SX.den S ρ (.int (.ofNat i))).toInt = (i : Int) := rfl
        have h2 : i < n := by simpa [Nat.blt_eq] using hlt
        rw [h1]
        simp [Instr.indexAt, asIntOf, run_underlying hu, run_sizeOfE hn, Addr.add_eq, Instr.sureAddr, h2]
      · cases h
    · rename_i n e b o' i _ hu hx hi
      split at h
      · rename_i s hn
        cases h
        obtain ⟨h0, hns⟩ := needPos_sound S ρ w0 ha hs hns
        obtain ⟨hi0, hns⟩ := need_sound S ρ ha hns
        obtain ⟨hil, _⟩ := need_sound S ρ ha hns
        rw [eLe_den] at hi0
        rw [eLt_den] at hil
        simp only [SX.den, U.toInt_int] at hi0 hil
        obtain ⟨kk, hix⟩ := intOfSV_den S ρ hi (hL ix)
        have hx1 := R_one S ρ (hx ▸ hL x)
        refine ⟨_, run_v (v := _) ?_, R_mk S ρ _⟩
        rw [hx1, hix]
        simp only [SC.den, SV.den]
        rw [if_neg (by omega)]
        have hlt : (i.den S ρ).toInt < (n : Int) := hil
        have hlt2 : (i.den S ρ).toInt.toNat < n := by omega
        have ho : ((SX.int (.ofNat o')).den S ρ).toInt.toNat = o' := rfl
        rw [ho]
        simp [Instr.indexAt, asIntOf, run_underlying hu, run_sizeOfE hn, Addr.add_eq, Instr.sureAddr, hlt, hlt2, hi0]
      · cases h
    · cases h
  · -- index
    rename_i t x ix
    split at h
    · rename_i e i hu hx hi
      cases h
      obtain ⟨hi0, hns⟩ := need_sound S ρ ha hns
      obtain ⟨hil, _⟩ := need_sound S ρ ha hns
      rw [eLe_den] at hi0
      rw [eLt_den, lenSX31] at hil
      simp only [SX.den, U.toInt_int] at hi0 hil
      obtain ⟨kk, hix⟩ := intOfSV_den S ρ hi (hL ix)
      have hx1 := R_one S ρ (hx ▸ hL x)
      have hlt : (i.den S ρ).toInt.toNat < (e.den S ρ).toBytes.length := by omega
      refine ⟨_, run_v (v := _) ?_, R_mk S ρ _⟩
      rw [hx1, hix]
      simp only [SC.den, SV.den, byteGet, nthB_den, SX.den, ap2, U.toInt_int]
      have hg : (⟨(e.den S ρ).toBytes.toArray⟩ : ByteArray)[(i.den S ρ).toInt.toNat]? = some ((e.den S ρ).toBytes.getD (i.den S ρ).toInt.toNat 0) := by
        have hlt' : (i.den S ρ).toInt.toNat < (⟨(e.den S ρ).toBytes.toArray⟩ : ByteArray).size := by simpa [ByteArray.size] using hlt
        rw [getElem?_pos (⟨(e.den S ρ).toBytes.toArray⟩ : ByteArray) (i.den S ρ).toInt.toNat hlt', List.getD_eq_getElem?_getD, List.getElem?_eq_getElem hlt]
        rfl
      simp [Instr.index, asIntOf, run_underlying hu, hi0, hg]
    · rename_i n e cs i hu hx hi
      split at h
      · rename_i s d hn hd
        cases hlt : Nat.blt i n
        · rw [hlt] at h; cases h
        cases hle : Nat.ble (i * s + s) cs.length
        · rw [hlt, hle] at h; cases h
        rw [hlt, hle] at h
        simp only [cond_true] at h
        obtain ⟨hden, h1⟩ := sv_part S ρ h
        have hx1 := R_agg S ρ (hx ▸ hL x)
        obtain ⟨kk, hix⟩ := intOfSV_den S ρ hi (hL ix)
        have h2 : (SX.den S ρ (.int (.ofNat i))).toInt = (i : Int) := rfl
        rw [h2] at hix
        have h3 : i < n := by simpa [Nat.blt_eq] using hlt
        refine ⟨_, run_v (v := sv.den S ρ) ?_, R_mk S ρ _⟩
        rw [hx1, hix, hden]
        have := part_run hd hn (cs.map (SC.den S ρ)) (i * s) (by simpa using Nat.le_of_ble_eq_true hle) (by simpa using h1) w
        simp [Instr.index, asIntOf, run_underlying hu, h3, run_sizeOfE hn, this]
      · cases h
    · cases h
  · -- slice
    rename_i t x lo hi mx
    split at h
    · rename_i e b o' k z l c s lo' hi' mx' hu hx hlo hhi hmx
      split at h
      · rename_i n hn hok
        cases hns1 : Nat.beq n s
        · rw [hns1] at h; cases h
        rw [hns1] at h
        simp only [cond_true, Option.some.injEq] at h
        have := Nat.eq_of_beq_eq_true hns1
        subst this
        rw [← Prod.eta (sliceX asm b o' k z l c n lo' hi' mx')] at h
        cases h
        have hx1 := R_one S ρ (hx ▸ hL x)
        refine ⟨_, run_v (v := _) ?_, R_mk S ρ _⟩
        rw [hx1]
        refine sliceX_sound S ρ ha hL hu hn hlo hhi hmx ?_ hns w
        intro hm
        cases mx' with
        | none => cases hm
        | some m => cases hi' with
          | none => cases hok
          | some h => rfl
      · cases h
    · rename_i e lo' hi' hu hx hlo hhi hmx
      have hx1 := R_one S ρ (hx ▸ hL x)
      have hmxn : mx.map ev = none := by
        rcases optInt_den S ρ hL hmx with ⟨_, _, h3⟩ | ⟨_, _, _, _, h2, _⟩
        · exact h3
        · cases h2
      cases h
      obtain ⟨hblo, hns⟩ := bnd_sound S ρ ha hns
      obtain ⟨hbhi, _⟩ := bnd_sound S ρ ha hns
      rw [lenSX31] at hbhi
      simp only [U.toInt_int] at hbhi
      have hH : ∃ k2 x2, ((hi.map ev = none ∧ (none : Option Value) = none ∧ ((orE hi' (SX.mk1 31 e)).den S ρ).toInt.toNat = (e.den S ρ).toBytes.length) ∨ (hi.map ev = some (.int k2 x2) ∧ 0 ≤ x2 ∧ x2 ≤ ((e.den S ρ).toBytes.length : Nat) ∧ ((orE hi' (SX.mk1 31 e)).den S ρ).toInt.toNat = x2.toNat)) ∧ 0 ≤ ((orE hi' (SX.mk1 31 e)).den S ρ).toInt := by
        rcases optInt_den S ρ hL hhi with ⟨_, rfl, h3⟩ | ⟨q, x2, k2, _, rfl, h3⟩
        · refine ⟨.i64, 0, .inl ⟨h3, rfl, ?_⟩, ?_⟩ <;> simp only [orE, lenSX31, U.toInt_int] <;> omega
        · rcases hbhi with hc | ⟨q', hq, h4, h5⟩
          · cases hc
          · cases hq
            exact ⟨k2, _, .inr ⟨h3, h4, h5, rfl⟩, h4⟩
      obtain ⟨k2, x2, hh, hH0⟩ := hH
      have hLo : ∃ k1 x1, ((lo.map ev = none ∧ ((orE lo' (.int 0)).den S ρ).toInt.toNat = 0) ∨ (lo.map ev = some (.int k1 x1) ∧ 0 ≤ x1 ∧ x1 ≤ (((orE hi' (SX.mk1 31 e)).den S ρ).toInt.toNat : Nat) ∧ ((orE lo' (.int 0)).den S ρ).toInt.toNat = x1.toNat)) ∧ 0 ≤ ((orE lo' (.int 0)).den S ρ).toInt := by
        rcases optInt_den S ρ hL hlo with ⟨_, rfl, h3⟩ | ⟨q, x1, k1, _, rfl, h3⟩
        · exact ⟨.i64, 0, .inl ⟨h3, rfl⟩, Int.le_refl _⟩
        · rcases hblo with hc | ⟨q', hq, h4, h5⟩
          · cases hc
          · cases hq
            exact ⟨k1, _, .inr ⟨h3, h4, by omega, rfl⟩, h4⟩
      obtain ⟨k1, x1, hl, hl0⟩ := hLo
      have hb := sliceBounds_run (P := P) (b := false) (len := (e.den S ρ).toBytes.length) (cap := (e.den S ρ).toBytes.length) (mx := none) (lo := lo.map ev) (hi := hi.map ev) (k3 := .i64) (x3 := 0) (.inl ⟨rfl, rfl⟩) hh hl w
      have hsz : (⟨(e.den S ρ).toBytes.toArray⟩ : ByteArray).size = (e.den S ρ).toBytes.length := by simp [ByteArray.size]
      have e1 : (Instr.sliceAt t (.string ⟨(e.den S ρ).toBytes.toArray⟩) (lo.map ev) (hi.map ev) (mx.map ev)).run P w = (Instr.slice t (.string ⟨(e.den S ρ).toBytes.toArray⟩) (lo.map ev) (hi.map ev) (mx.map ev)).run P w := by
        unfold Instr.sliceAt; simp [run_underlying hu]
      refine ⟨_, run_v (v := _) ?_, R_mk S ρ _⟩
      rw [hx1]
      simp only [SC.den, SV.den, SX.mkS2_den, SX.den, ap2, U.toBytes_bytes]
      rw [e1, hmxn, toInt_ap2_41]
      have hdrop : ((dropE lo' e).den S ρ).toBytes = (e.den S ρ).toBytes.drop ((orE lo' (.int 0)).den S ρ).toInt.toNat := by
        cases lo' <;> simp [dropE, orE, SX.mkS2_den, SX.den, ap2]
      rw [hdrop, show (((orE hi' (SX.mk1 31 e)).den S ρ).toInt - ((orE lo' (.int 0)).den S ρ).toInt).toNat = ((orE hi' (SX.mk1 31 e)).den S ρ).toInt.toNat - ((orE lo' (.int 0)).den S ρ).toInt.toNat by omega, ← extract_bytes]
      simp [Instr.slice, run_underlying hu, hsz, hb]
    · cases h
  · -- lookup
    rename_i t x ix ok
    split at h
    · rename_i kt et b i hu hx hi
      split at h
      · rename_i kk v m kk' z hfm hk hz
        cases hkk : Nat.beq (kn kk) (kn kk')
        · rw [hkk] at h; cases h
        rw [hkk] at h
        simp only [cond_true] at h
        split at h
        · rename_i k2 e2 hix
          cases hk2 : Nat.beq (kn k2) (kn kk)
          · rw [hk2] at h; cases h
          rw [hk2] at h
          simp only [cond_true] at h
          have hkeq := kn_inj (Nat.eq_of_beq_eq_true hk2)
          subst hkeq
          rw [hix] at hi
          simp only [intOfSV, Option.some.injEq] at hi
          subst hi
          have hx1 := R_one S ρ (hx ▸ hL x)
          have hix1 := R_one S ρ (hix ▸ hL ix)
          obtain ⟨hb0, es, clock, hmo, hobj⟩ := map_obj S ρ w0 (findMap_mem hfm) hs
          obtain ⟨iz, hiz, hzz⟩ : ∃ iz, P.info? et = some iz ∧ iz.zero = some z := by
            split at hz
            · rename_i iz hiz; exact ⟨iz, hiz, hz⟩
            · cases hz
          have hrun := fun d => lookup_run (P := P) hu hk hiz hzz hobj d (n := (e2.den S ρ).toInt) hmo.1 ok
          split at h
          · rename_i c hc
            have hval : ∃ d, c.den S ρ = (if mhas (m.den S ρ).toMap (e2.den S ρ).toInt then v.val [mget d (m.den S ρ).toMap (e2.den S ρ).toInt] else z) := by
              split at hc
              · rename_i k k' n
                cases hkq : Nat.beq (kn k) (kn k')
                · rw [hkq] at hc; cases hc
                · rw [hkq] at hc; cases hc
                  have := kn_inj (Nat.eq_of_beq_eq_true hkq)
                  subst this
                  refine ⟨n, ?_⟩
                  simp only [SC.den, SX.den, ap3, U.toInt_int, Fd.val]
                  cases hh : mhas (m.den S ρ).toMap (e2.den S ρ).toInt
                  · rw [mget_none hh]; simp
                  · simp
              · cases hc
                refine ⟨0, ?_⟩
                simp only [SC.den]
                rw [SX.mk1_den]
                simp only [SX.den, ap1]
                rw [SX.mk2_den]
                simp only [SX.den, ap2, ap3, U.toInt_int, U.toBool_bool, Fd.val]
                cases hh : mhas (m.den S ρ).toMap (e2.den S ρ).toInt
                · rw [mget_none hh]; simp
                · simp [bne]
              · cases hc
                refine ⟨-1, ?_⟩
                simp only [SC.den, SX.den, ap3, U.toInt_int, Fd.val]
                cases hh : mhas (m.den S ρ).toMap (e2.den S ρ).toInt
                · rw [mget_none hh]; simp
                · simp
              · cases hc
                refine ⟨-1, ?_⟩
                simp only [SC.den, SX.den, ap3, U.toInt_int, Fd.val]
                cases hh : mhas (m.den S ρ).toMap (e2.den S ρ).toInt
                · rw [mget_none hh]; simp
                · simp
              · cases hc
            obtain ⟨d, hval⟩ := hval
            cases h
            refine ⟨_, run_v (v := _) ?_, R_mk S ρ _⟩
            rw [hx1, hix1]
            simp only [SC.den]
            rw [if_neg (by omega), hrun d, ← hval]
            cases ok
            · simp [SV.den]
            · simp [SV.den, tupV, SC.den, SX.den, ap2]
          · cases h
        · cases h
      · cases h
    · cases h
  · -- load
    rename_i t a
    split at h
    · rename_i d n c hd hn hx
      have hx1 := R_one S ρ (hx ▸ hL a)
      refine ⟨_, run_v (v := sv.den S ρ) ?_, R_mk S ρ _⟩
      rw [hx1]
      exact loadAt_sound S ρ w0 ha hs hd hn h hns
    · cases h
  · -- extract
    rename_i t ix
    split at h
    · rename_i vs hx
      have hx1 : ev t = (SV.tup vs).den S ρ := by
        rcases hx ▸ hL t with hj | he
        · cases hj
        · exact he
      split at h
      · rename_i c hv; cases h
        refine ⟨_, run_v (v := c.den S ρ) ?_, R_mk S ρ (.one c)⟩
        rw [hx1]; simp [SV.den, tupV, Instr.extract, hv]
      · rename_i cs hv; cases h
        refine ⟨_, run_v (v := (SV.agg cs).den S ρ) ?_, R_mk S ρ (.agg cs)⟩
        rw [hx1]; simp [SV.den, tupV, Instr.extract, hv]
      · cases h
    · cases h
  · -- makeInterface
    rename_i t x
    split at h
    · cases h
    · rename_i d c hni hu hx; cases h
      have hx1 := R_one S ρ (hx ▸ hL x)
      refine ⟨_, run_v (v := _) ?_, R_mk S ρ _⟩
      rw [hx1]
      cases d <;> first | (exact absurd rfl (hni _)) | simp [Instr.makeInterface, run_underlying hu, SV.den, SC.den]
    · cases h
  · -- makeFunc
    rename_i f first captured
    cases hf : Nat.beq first.size 0
    · rw [hf] at h; cases h
    rw [hf] at h
    simp only [cond_true] at h
    split at h
    · rename_i g hg; cases h
      have := fold_fn S ρ hL (f := f) captured.toList (.fn f) #[] rfl hg
      have h0 : first = #[] := by simpa using Nat.eq_of_beq_eq_true hf
      refine ⟨_, run_v (v := _) ?_, R_mk S ρ (.one g)⟩
      simp only [SV.den]
      rw [this, h0]
      simp only [Instr.makeFunc, Array.map_empty, Array.empty_append]
      rw [show captured.map ev = (captured.toList.map ev).toArray from by apply Array.ext'; simp]; simp
    · cases h
  · -- build
    rename_i t parts
    split at h
    · rename_i v hv; cases h
      exact ⟨_, run_v (buildX_sound S ρ hL hv w), R_mk S ρ _⟩
    · cases h
  · -- call
    rename_i c
    have hres : ∀ b, c.callee = .builtin b → (do let d ← resolve ev c o.type; invoke d.target d.args : Sem Next) = builtin b c.argTypes o.type (c.args.map fun | .const _ => true | _ => false) (c.args.map ev) := fun b hb => by
      unfold resolve; rw [hb]; rfl
    split at h
    · rename_i x t ts hcal hargs hts
      have hr := hres _ hcal
      have ha1 : c.args = #[x] := by apply Array.ext'; simpa using hargs
      have ht0 : c.argTypes[0]? = some t := by rw [← Array.getElem?_toList, hts]; rfl
      split at h
      · rename_i e b o' k z l c' s hu hx; cases h
        have hx1 := R_one S ρ (hx ▸ hL x)
        obtain ⟨hl0, _⟩ := need_sound S ρ ha hns
        rw [eLe_den] at hl0
        simp only [SX.den, U.toInt_int] at hl0
        refine ⟨_, ?_, R_mk S ρ _⟩
        simp only [hr, ha1]
        simp [builtin, Builtin.len_, ht0, run_underlying hu, hx1, SC.den, SV.den, goInt]; omega
      · rename_i e hu hx; cases h
        have hx1 := R_one S ρ (hx ▸ hL x)
        refine ⟨_, ?_, R_mk S ρ _⟩
        simp only [hr, ha1]
        have hsz : (⟨(e.den S ρ).toBytes.toArray⟩ : ByteArray).size = (e.den S ρ).toBytes.length := by simp [ByteArray.size]
        simp [builtin, Builtin.len_, ht0, run_underlying hu, hx1, SC.den, SV.den, goInt, lenSX31, hsz]
      · rename_i k1 k2 b hu hx
        split at h
        · rename_i kk v m hfm; cases h
          have hx1 := R_one S ρ (hx ▸ hL x)
          obtain ⟨hb0, es, clock, hmo, hobj⟩ := map_obj S ρ w0 (findMap_mem hfm) hs
          have hlen : es.size = (m.den S ρ).toMap.length := by
            have := congrArg List.length hmo.1
            simpa using this
          have hg : (getObj (b.den S ρ).toInt.toNat).run P w = .ok (.map es clock) w := by simp [getObj, Sem.run, hobj]
          refine ⟨_, ?_, R_mk S ρ _⟩
          simp only [hr, ha1]
          rw [show (#[x] : Array Operand).map ev = #[.map (some (b.den S ρ).toInt.toNat)] from by simp [hx1, SC.den, show ¬ (b.den S ρ).toInt < 0 by omega]]
          simp [builtin, Builtin.len_, ht0, run_underlying hu, hg, SV.den, SC.den, SX.den, ap1, goInt, hlen]
        · cases h
      · cases h
    · rename_i x t ts hcal hargs hts
      have hr := hres _ hcal
      have ha1 : c.args = #[x] := by apply Array.ext'; simpa using hargs
      have ht0 : c.argTypes[0]? = some t := by rw [← Array.getElem?_toList, hts]; rfl
      split at h
      · rename_i e b o' k z l c' s hu hx; cases h
        have hx1 := R_one S ρ (hx ▸ hL x)
        obtain ⟨hl0, _⟩ := need_sound S ρ ha hns
        rw [eLe_den] at hl0
        simp only [SX.den, U.toInt_int] at hl0
        refine ⟨_, ?_, R_mk S ρ _⟩
        simp only [hr, ha1]
        simp [builtin, Builtin.cap_, ht0, run_underlying hu, hx1, SC.den, SV.den, goInt]; omega
      · cases h
    · rename_i x y hcal hargs
      have hr := hres _ hcal
      have ha1 : c.args = #[x, y] := by apply Array.ext'; simpa using hargs
      split at h
      · rename_i k a k' b hx hy
        cases hk : Nat.beq (kn k) (kn k')
        · rw [hk] at h; cases h
        rw [hk] at h; cases h
        have hx1 := R_one S ρ (hx ▸ hL x)
        have hy1 := R_one S ρ (hy ▸ hL y)
        refine ⟨_, ?_, R_mk S ρ _⟩
        simp only [hr, ha1]
        simp [builtin, Builtin.max_, Builtin.max2, hx1, hy1, SC.den, SV.den, SX.den, ap2]
      · cases h
    · rename_i x y hcal hargs
      have hr := hres _ hcal
      have ha1 : c.args = #[x, y] := by apply Array.ext'; simpa using hargs
      split at h
      · rename_i k a k' b hx hy
        cases hk : Nat.beq (kn k) (kn k')
        · rw [hk] at h; cases h
        rw [hk] at h; cases h
        have hx1 := R_one S ρ (hx ▸ hL x)
        have hy1 := R_one S ρ (hy ▸ hL y)
        refine ⟨_, ?_, R_mk S ρ _⟩
        simp only [hr, ha1]
        simp [builtin, Builtin.min_, Builtin.min2, hx1, hy1, SC.den, SV.den, SX.den, ap2]
      · cases h
    · cases h
  · cases h
end
end Go.Eng
