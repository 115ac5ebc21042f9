/- A run with written-out values: the quiet operations' soundness (third part). -/
import Derived.Test.YtmjckbfjaecjjaaGreatDoorCxG
set_option linter.unusedVariables false
set_option linter.unusedSimpArgs false
set_option linter.unnecessarySimpa false
namespace Go.Cx
open Go.RowKit (Below)
section
variable {P : Program}
theorem fieldAt_run {s : TypeId} {fs : Array Field} {f : Nat} {fd : Field} {n : Nat} (hs : P.underlying s = some (.struct fs)) (hf : fs[f]? = some fd) (hn : tySz P fd.type = some (n + 1)) (b o : Nat) (w : World) :
    (Instr.fieldAt s (.pointer (some ⟨b, o, none⟩)) f).run P w = .ok (.pointer (some ⟨b, o + fd.offset, none⟩)) w := by
  obtain ⟨i, hi, hsz⟩ := tySz_info hn
  simp [Instr.fieldAt, run_underlying hs, hf, Instr.sureAddr, fieldPlace, sizeOf, typeInfo, hi, hsz, add_eq]
theorem sliceBound_run {k : IntKind} {n : Int} {y : Nat} {code : BoundsCode} (h0 : 0 ≤ n) (h1 : n ≤ y) (w : World) : (Instr.sliceBound (.int k n) y code).run P w = .ok n.toNat w := by
  simp [Instr.sliceBound, asIntOf, h0, h1]
theorem sliceBounds_run {lo hi mx : Option Value} {l h m : Nat} {len cap : Nat} {b : Bool} {k1 k2 k3 : IntKind} {x1 x2 x3 : Int}
    (hm : (mx = none ∧ m = cap) ∨ (mx = some (.int k3 x3) ∧ 0 ≤ x3 ∧ x3 ≤ cap ∧ m = x3.toNat))
    (hh : (hi = none ∧ mx = none ∧ h = len) ∨ (hi = some (.int k2 x2) ∧ 0 ≤ x2 ∧ x2 ≤ m ∧ h = x2.toNat))
    (hl : (lo = none ∧ l = 0) ∨ (lo = some (.int k1 x1) ∧ 0 ≤ x1 ∧ x1 ≤ h ∧ l = x1.toNat)) (w : World) :
    (Instr.sliceBounds b len cap lo hi mx).run P w = .ok (l, h, m) w := by
  unfold Instr.sliceBounds
  rcases hm with ⟨rfl, rfl⟩ | ⟨rfl, m1, m2, rfl⟩
  · rcases hh with ⟨rfl, _, rfl⟩ | ⟨rfl, h1, h2, rfl⟩
    · rcases hl with ⟨rfl, rfl⟩ | ⟨rfl, l1, l2, rfl⟩
      · rfl
      · simp [sliceBound_run l1 l2]
    · rcases hl with ⟨rfl, rfl⟩ | ⟨rfl, l1, l2, rfl⟩
      · simp [sliceBound_run h1 h2]
      · simp [sliceBound_run h1 h2, sliceBound_run l1 l2]
  · rcases hh with ⟨rfl, hc, rfl⟩ | ⟨rfl, h1, h2, rfl⟩
    · cases hc
    · rcases hl with ⟨rfl, rfl⟩ | ⟨rfl, l1, l2, rfl⟩
      · simp [sliceBound_run m1 m2, sliceBound_run h1 h2]
      · simp [sliceBound_run m1 m2, sliceBound_run h1 h2, sliceBound_run l1 l2]


theorem zeroValue_run {t : TypeId} {i : TypeInfo} {z : Value} (hi : P.info? t = some i) (hz : i.zero = some z) (w : World) : (zeroValue t).run P w = .ok z w := by
  simp [zeroValue, typeInfo, hi, hz]
variable {w0 : World} {σ : Sg} {hp : H} {n : Nat} {w : World} {fr : F} {ev : Operand → Value} {k : CV → Res} {φ : Out → Prop}
theorem part_sound {t off : Nat} {cs : List CV} {vs : List Value} (hv : VRs σ cs vs) (h : Good (Go.Cx.part P t cs off k) φ) : QR P σ w (Go.part t vs.toArray off) k φ := by
  unfold Go.Cx.part at h
  have e : Go.part t vs.toArray off = (isAgg t).bind (fun x => if x then ((sizeOf t).bind fun k => Sem.pure (Value.agg (vs.toArray.extract off (off + k)))) else match vs.toArray[off]? with | some v => Sem.pure v | none => stuck "part: no such cell") := by
    unfold Go.part; rfl
  split at h
  · rename_i m hA
    obtain ⟨d, h1, h2, h3⟩ := tyA_spec hA
    split at h
    · rename_i r hr
      obtain ⟨g1, g2, g3⟩ := (hv.drop (n := off)).take hr
      refine ⟨_, .agg ((vs.drop off).take m).toArray, ?_, by simp only [VR]; exact ⟨_, g1, rfl⟩, h⟩
      rw [e, Sem.run_bind', run_isAg h1, h2]
      simp only [Result.andThen, if_true]
      rw [Sem.run_bind', run_size h3]
      simp [Result.andThen, Sem.run, List.extract_eq_take_drop]
    · exact h.no.elim
  · rename_i m hA
    obtain ⟨d, h1, h2, h3⟩ := tyA_spec hA
    split at h
    · rename_i c hc
      obtain ⟨y, g1, g2⟩ := hv.get hc
      refine ⟨_, y, ?_, g2, h⟩
      rw [e, Sem.run_bind', run_isAg h1, h2]
      simp [Result.andThen, Sem.run, g1]
    · exact h.no.elim
  · exact h.no.elim
theorem q_fieldA (hL : ∀ x, VR σ (lk fr x) (ev x)) {s f : Nat} {x : Operand} (h : Good (qFieldA P fr s x f k) φ) : QR P σ w (Instr.fieldAt s (ev x) f) k φ := by
  unfold qFieldA at h
  have hx := hL x
  split at h
  · rename_i b o he
    rw [he] at hx; simp only [VR] at hx
    obtain ⟨p, t, hs, hv⟩ := hx
    split at h
    · rename_i fs hd
      split at h
      · rename_i fd hf
        rw [nthL_eq, Array.getElem?_toList] at hf
        split at h
        · rename_i m hm
          exact ⟨_, _, by rw [hv]; exact fieldAt_run (tyD_und hd) hf hm p o w, by simp only [VR]; exact ⟨p, t, hs, rfl⟩, h⟩
        · exact h.no.elim
      · exact h.no.elim
    · exact h.no.elim
  · exact h.no.elim
theorem q_field (hL : ∀ x, VR σ (lk fr x) (ev x)) {t f : Nat} {x : Operand} (h : Good (qField P fr t x f k) φ) : QR P σ w (Instr.field t (ev x) f) k φ := by
  unfold qField at h
  have hx := hL x
  split at h
  · rename_i cs he
    rw [he] at hx; simp only [VR] at hx
    obtain ⟨vs, hvs, hv⟩ := hx
    split at h
    · rename_i fs hd
      split at h
      · rename_i fd hf
        rw [nthL_eq, Array.getElem?_toList] at hf
        obtain ⟨c, v, h1, h2, h3⟩ := part_sound (P := P) (w := w) hvs h
        exact ⟨c, v, by rw [hv]; simp [Instr.field, run_underlying (tyD_und hd), hf, asAgg, h1], h2, h3⟩
      · exact h.no.elim
    · exact h.no.elim
  · exact h.no.elim
theorem int_of (hL : ∀ x, VR σ (lk fr x) (ev x)) {x : Operand} {kd : Nat} {i : Int} (h : lk fr x = .int kd i) : ev x = .int (kc kd) i := by
  have := hL x; rw [h] at this; simpa only [VR] using this
theorem q_indexA (hL : ∀ x, VR σ (lk fr x) (ev x)) {t : Nat} {x ix : Operand} (h : Good (qIndexA P fr t x ix k) φ) : QR P σ w (Instr.indexAt t (ev x) (ev ix)) k φ := by
  unfold qIndexA at h
  split at h
  · rename_i kd i hi
    have hiv := int_of hL hi
    have hx := hL x
    split at h
    · rename_i b o s l kk ex he
      rw [he] at hx; simp only [VR] at hx
      obtain ⟨p, u, o', c, hs, hv, hlk, hkc, hex, ho, hle, heq⟩ := hx
      split at h
      · rename_i e hd
        obtain ⟨hil, h⟩ := h.bif
        have hil : i < l := by simpa [Nat.blt_eq] using hil
        split at h
        · rename_i m hm
          obtain ⟨hsm, h⟩ := h.bif
          have hsm := Nat.eq_of_beq_eq_true hsm
          have ho' : o' = o := ho (.inl (by omega))
          subst ho'
          refine ⟨_, .pointer (some ⟨p, o' + i * s, none⟩), ?_, by simp only [VR]; exact ⟨p, u, hs, rfl⟩, h⟩
          rw [hv, hiv]
          simp [Instr.indexAt, asIntOf, run_underlying (tyD_und hd), run_size hm, add_eq, hil, hsm]
        · exact h.no.elim
      · exact h.no.elim
    · rename_i b o he
      rw [he] at hx; simp only [VR] at hx
      obtain ⟨p, u, hs, hv⟩ := hx
      split at h
      · rename_i m e hd
        obtain ⟨hil, h⟩ := h.bif
        have hil : i < m := by simpa [Nat.blt_eq] using hil
        split at h
        · rename_i z hz
          refine ⟨_, .pointer (some ⟨p, o + i * (z + 1), none⟩), ?_, by simp only [VR]; exact ⟨p, u, hs, rfl⟩, h⟩
          rw [hv, hiv]
          simp [Instr.indexAt, asIntOf, run_underlying (tyD_und hd), run_size hz, add_eq, Instr.sureAddr, hil]
        · exact h.no.elim
      · exact h.no.elim
    · exact h.no.elim
  · exact h.no.elim
theorem bval_bnth (l n i : Nat) (h : i < l) : (⟨(bys l n).toArray⟩ : ByteArray)[i]? = some (UInt8.ofNat (bnth n i)) := by
  have hlt' : i < (⟨(bys l n).toArray⟩ : ByteArray).size := by simpa [ByteArray.size, bys_len] using h
  rw [getElem?_pos (⟨(bys l n).toArray⟩ : ByteArray) i hlt']
  have := bys_get l n i h
  rw [List.getElem?_eq_getElem (by rw [bys_len]; exact h)] at this
  exact this
theorem u8_nat (x : Nat) (h : x < 256) : (UInt8.ofNat x).toNat = x := by simp; omega
theorem q_index (hL : ∀ x, VR σ (lk fr x) (ev x)) {t : Nat} {x ix : Operand} (h : Good (qIndex P fr t x ix k) φ) : QR P σ w (Instr.index t (ev x) (ev ix)) k φ := by
  unfold qIndex at h
  split at h
  · rename_i kd i hi
    have hiv := int_of hL hi
    have hx := hL x
    split at h
    · rename_i l m he
      rw [he] at hx; simp only [VR] at hx
      split at h
      · rename_i hd
        obtain ⟨hil, h⟩ := h.bif
        have hil : i < l := by simpa [Nat.blt_eq] using hil
        refine ⟨_, .int .u8 (bnth m i : Nat), ?_, by simp only [VR]; rfl, h⟩
        rw [hx, hiv]
        have hg := bval_bnth l m i hil
        simp [Instr.index, asIntOf, run_underlying (tyD_und hd), hg, u8_nat _ (bnth_lt m i)]
      · exact h.no.elim
    · rename_i cs he
      rw [he] at hx; simp only [VR] at hx
      obtain ⟨vs, hvs, hv⟩ := hx
      split at h
      · rename_i m e hd
        obtain ⟨hil, h⟩ := h.bif
        have hil : i < m := by simpa [Nat.blt_eq] using hil
        split at h
        · rename_i s hs
          obtain ⟨c, v, h1, h2, h3⟩ := part_sound (P := P) (w := w) hvs h
          exact ⟨c, v, by rw [hv, hiv]; simp [Instr.index, asIntOf, run_underlying (tyD_und hd), hil, run_size hs, h1], h2, h3⟩
        · exact h.no.elim
      · exact h.no.elim
    · exact h.no.elim
  · exact h.no.elim
/-! ### Slices of slices -/
theorem optN_spec (hL : ∀ x, VR σ (lk fr x) (ev x)) {o : Option Operand} {r : Option Nat} (h : optN fr o = some r) : (r = none ∧ o.map ev = none) ∨ ∃ kd m, r = some m ∧ o.map ev = some (.int (kc kd) (m : Int)) := by
  unfold optN at h
  split at h
  · cases h; exact .inl ⟨rfl, rfl⟩
  · rename_i x
    split at h
    · rename_i kd m he
      cases h
      exact .inr ⟨kd, m, rfl, by simp [int_of hL he]⟩
    · cases h
theorem extract_bys (l n a b : Nat) (h : b ≤ l) (h2 : a ≤ b) : (⟨(bys l n).toArray⟩ : ByteArray).extract a b = ⟨(bys (b - a) (bsub n a (b - a))).toArray⟩ := by
  apply ByteArray.ext
  rw [ByteArray.data_extract, ← bys_sub l n a (b - a) (by omega)]
  simp [List.extract_eq_take_drop]
theorem sliceB (hL : ∀ x, VR σ (lk fr x) (ev x)) {lo hi mx : Option Operand} {rl rh rm : Option Nat} (h1 : optN fr lo = some rl) (h2 : optN fr hi = some rh) (h3 : optN fr mx = some rm) (b : Bool) {len cap : Nat}
    (hm : orN cap rm ≤ cap) (hh : orN len rh ≤ orN cap rm) (hl : orN 0 rl ≤ orN len rh) (hmh : rm = none ∨ rh ≠ none) (w : World) :
    (Instr.sliceBounds b len cap (lo.map ev) (hi.map ev) (mx.map ev)).run P w = .ok (orN 0 rl, orN len rh, orN cap rm) w := by
  have k3 := optN_spec hL h3
  have k2 := optN_spec hL h2
  have k1 := optN_spec hL h1
  obtain ⟨kd3, x3, H3⟩ : ∃ (kd3 : IntKind) (x3 : Int), (mx.map ev = none ∧ orN cap rm = cap) ∨ (mx.map ev = some (.int kd3 x3) ∧ 0 ≤ x3 ∧ x3 ≤ cap ∧ orN cap rm = x3.toNat) := by
    rcases k3 with ⟨rfl, e⟩ | ⟨kd, m, rfl, e⟩
    · exact ⟨.i64, 0, .inl ⟨e, rfl⟩⟩
    · exact ⟨_, _, .inr ⟨e, by omega, by simp only [orN] at hm; omega, by simp [orN]⟩⟩
  obtain ⟨kd2, x2, H2⟩ : ∃ (kd2 : IntKind) (x2 : Int), (hi.map ev = none ∧ mx.map ev = none ∧ orN len rh = len) ∨ (hi.map ev = some (.int kd2 x2) ∧ 0 ≤ x2 ∧ x2 ≤ ((orN cap rm : Nat) : Int) ∧ orN len rh = x2.toNat) := by
    rcases k2 with ⟨rfl, e⟩ | ⟨kd, m, rfl, e⟩
    · refine ⟨.i64, 0, .inl ⟨e, ?_, rfl⟩⟩
      rcases hmh with rfl | hc
      · rcases k3 with ⟨_, e3⟩ | ⟨_, _, hc, _⟩
        · exact e3
        · cases hc
      · exact absurd rfl hc
    · exact ⟨_, _, .inr ⟨e, by omega, by simp only [orN] at hh ⊢; omega, by simp [orN]⟩⟩
  obtain ⟨kd1, x1, H1⟩ : ∃ (kd1 : IntKind) (x1 : Int), (lo.map ev = none ∧ orN 0 rl = 0) ∨ (lo.map ev = some (.int kd1 x1) ∧ 0 ≤ x1 ∧ x1 ≤ ((orN len rh : Nat) : Int) ∧ orN 0 rl = x1.toNat) := by
    rcases k1 with ⟨rfl, e⟩ | ⟨kd, m, rfl, e⟩
    · exact ⟨.i64, 0, .inl ⟨e, rfl⟩⟩
    · exact ⟨_, _, .inr ⟨e, by omega, by simp only [orN] at hl ⊢; omega, by simp [orN]⟩⟩
  exact sliceBounds_run H3 H2 H1 w
theorem q_slice (hR : Rel w0 σ hp n w) (hL : ∀ x, VR σ (lk fr x) (ev x)) {t : Nat} {x : Operand} {lo hi mx : Option Operand} (h : Good (qSlice P fr hp t x lo hi mx k) φ) : QR P σ w (Instr.sliceAt t (ev x) (lo.map ev) (hi.map ev) (mx.map ev)) k φ := by
  unfold qSlice at h
  split at h
  · exact h.no.elim
  rename_i rl e1
  split at h
  · exact h.no.elim
  rename_i rh e2
  split at h
  · exact h.no.elim
  rename_i rm e3
  have hx := hL x
  split at h
  · -- text
    rename_i l m he
    rw [he] at hx; simp only [VR] at hx
    split at h
    · rename_i hd
      split at h
      · obtain ⟨g1, h⟩ := h.bif
        obtain ⟨g2, h⟩ := h.bif
        have g1 := Nat.le_of_ble_eq_true g1
        have g2 := Nat.le_of_ble_eq_true g2
        refine ⟨_, .string ⟨(bys (orN l rh - orN 0 rl) (bsub m (orN 0 rl) (orN l rh - orN 0 rl))).toArray⟩, ?_, by simp only [VR], h⟩
        have hmx : mx.map ev = none := by
          rcases optN_spec hL e3 with ⟨_, e⟩ | ⟨_, _, hc, _⟩
          · exact e
          · cases hc
        have hb := sliceB (P := P) hL e1 e2 e3 false (len := l) (cap := l) (by simp [orN]) (by simpa [orN] using g1) g2 (.inl rfl) w
        rw [hmx] at hb ⊢
        have hsz : (⟨(bys l m).toArray⟩ : ByteArray).size = l := by simp [ByteArray.size, bys_len]
        rw [hx]
        have ea : (Instr.sliceAt t (.string ⟨(bys l m).toArray⟩) (lo.map ev) (hi.map ev) none).run P w = (Instr.slice t (.string ⟨(bys l m).toArray⟩) (lo.map ev) (hi.map ev) none).run P w := by
          unfold Instr.sliceAt; simp [run_underlying (tyD_und hd)]
        rw [ea]
        simp [Instr.slice, run_underlying (tyD_und hd), hsz, hb, extract_bys l m _ _ g1 g2]
      · exact h.no.elim
    · exact h.no.elim
  · -- nil
    rename_i he
    rw [he] at hx; simp only [VR] at hx
    split at h
    · rename_i e hd
      split at h
      · rename_i sz hsz
        split at h
        · exact h.no.elim
        · obtain ⟨g1, h⟩ := h.bif
          obtain ⟨g3, h⟩ := h.bif
          have g1 := Nat.eq_of_beq_eq_true g1
          have g3 := Nat.eq_of_beq_eq_true g3
          rw [hx]
          have ea : (Instr.sliceAt t (.slice none 0 0) (lo.map ev) (hi.map ev) (mx.map ev)).run P w = (Instr.slice t (.slice none 0 0) (lo.map ev) (hi.map ev) (mx.map ev)).run P w := by
            unfold Instr.sliceAt; simp [run_underlying (tyD_und hd)]
          have hb := sliceB (P := P) hL e1 e2 e3 true (len := 0) (cap := 0) (by simp [orN]) (by rw [g1]; simp [orN]) (by omega) (.inl rfl) w
          refine ⟨_, .slice none 0 0, ?_, by simp only [VR], h⟩
          rw [ea]
          rw [g1, g3] at hb
          simp only [orN] at hb
          simp [Instr.slice, run_underlying (tyD_und hd), hb, run_size hsz]
      · exact h.no.elim
    · exact h.no.elim
  · -- a pointer to an array
    rename_i b o he
    rw [he] at hx; simp only [VR] at hx
    obtain ⟨p, u, hs, hv⟩ := hx
    split at h
    · rename_i m e hd
      split at h
      · rename_i sz hsz
        split at h
        · exact h.no.elim
        · obtain ⟨g1, h⟩ := h.bif
          obtain ⟨g2, h⟩ := h.bif
          have g1 := Nat.le_of_ble_eq_true g1
          have g2 := Nat.le_of_ble_eq_true g2
          split at h
          · rename_i cs hc
            obtain ⟨g3, h⟩ := h.bif
            have g3 := Nat.le_of_ble_eq_true g3
            obtain ⟨vs, hvs, hrow⟩ := hR.at hs hc (by simp)
            have hfit : cs.length ≤ u := by
              obtain ⟨arr, ty, lo', hi', _, q2, ⟨sp, q3⟩, _⟩ := hrow
              have := congrArg List.length q3
              have h1 := hvs.len
              simp at this; omega
            have hmx : mx.map ev = none := by
              rcases optN_spec hL e3 with ⟨_, e⟩ | ⟨_, _, hc, _⟩
              · exact e
              · cases hc
            have hb := sliceB (P := P) hL e1 e2 e3 false (len := m) (cap := m) (by simp [orN]) (by simpa [orN] using g1) g2 (.inl rfl) w
            simp only [show orN m none = m from rfl] at hb
            have run : (Instr.sliceAt t (ev x) (lo.map ev) (hi.map ev) (mx.map ev)).run P w = .ok (.slice (some ⟨p, if m = orN 0 rl then o else o + orN 0 rl * sz, none⟩) (orN m rh - orN 0 rl) (m - orN 0 rl)) w := by
              rw [hv]
              unfold Instr.sliceAt
              simp [run_underlying (tyD_und hd), Instr.sureAddr, hb, run_size hsz, add_eq]
              split <;> rfl
            refine ⟨_, _, run, ?_, h⟩
            simp only [VR]
            refine ⟨p, u, _, _, hs, rfl, by omega, Nat.le_refl _, fun _ => rfl, fun _ => ?_, ?_, fun e => (by cases e)⟩
            · by_cases hc : m = orN 0 rl
              · rw [if_pos hc, show Nat.beq (orN 0 rl) m = true by rw [Nat.beq_eq]; omega]; rfl
              · rw [if_neg hc, show Nat.beq (orN 0 rl) m = false by cases hq : Nat.beq (orN 0 rl) m; rfl; exact absurd (Nat.eq_of_beq_eq_true hq).symm hc]; rfl
            · by_cases hc : m = orN 0 rl
              · rw [if_pos hc, hc]; simp; omega
              · rw [if_neg hc, Nat.sub_mul]
                have : orN 0 rl * sz ≤ m * sz := Nat.mul_le_mul_right _ (by omega)
                omega
          · exact h.no.elim
      · exact h.no.elim
    · exact h.no.elim
  · -- slice
    rename_i b o s l c ex he
    rw [he] at hx; simp only [VR] at hx
    obtain ⟨p, u, o', cc, hs, hv, hlk, hkc, hex, ho, hle, heq⟩ := hx
    split at h
    · rename_i e hd
      split at h
      · rename_i sz hsz
        obtain ⟨gs, h⟩ := h.bif
        have gs := Nat.eq_of_beq_eq_true gs
        subst gs
        have ea : (Instr.sliceAt t (.slice (some ⟨p, o', none⟩) l cc) (lo.map ev) (hi.map ev) (mx.map ev)).run P w = (Instr.slice t (.slice (some ⟨p, o', none⟩) l cc) (lo.map ev) (hi.map ev) (mx.map ev)).run P w := by
          unfold Instr.sliceAt; simp [run_underlying (tyD_und hd)]
        have run : ∀ L Hh M, (Instr.sliceBounds true l cc (lo.map ev) (hi.map ev) (mx.map ev)).run P w = .ok (L, Hh, M) w →
            (Instr.sliceAt t (ev x) (lo.map ev) (hi.map ev) (mx.map ev)).run P w = .ok (.slice (some ⟨p, if M = L then o' else o' + L * sz, none⟩) (Hh - L) (M - L)) w := by
          intro L Hh M hb
          rw [hv, ea]
          simp [Instr.slice, run_underlying (tyD_und hd), hb, run_size hsz, add_eq]
          split <;> rfl
        split at h
        · obtain ⟨g1, h⟩ := h.bif
          obtain ⟨g2, h⟩ := h.bif
          have g1 := Nat.le_of_ble_eq_true g1
          have g2 := Nat.le_of_ble_eq_true g2
          have hb := sliceB (P := P) hL e1 e2 e3 true (len := l) (cap := cc) (by simp [orN]) (by simp only [orN] at g1 ⊢; omega) g2 (.inl rfl) w
          simp only [show orN cc none = cc from rfl] at hb
          refine ⟨_, _, run _ _ _ hb, ?_, h⟩
          simp only [VR]
          refine ⟨p, u, _, _, hs, rfl, by omega, by omega, fun e => by have := hex e; omega, fun hk => ?_, ?_, fun hex0 hk0 => ?_⟩
          · by_cases hc : cc = orN 0 rl
            · have hc2 : c = cc ∧ ex = true := by
                rcases hk with hk | hk
                · omega
                · exact ⟨(hex hk).symm, hk⟩
              rw [if_pos hc]
              have : Nat.beq (orN 0 rl) c = true := by rw [Nat.beq_eq]; omega
              rw [this]; exact ho (.inr hc2.2)
            · rw [if_neg hc]
              have : Nat.beq (orN 0 rl) c = false := by
                cases hq : Nat.beq (orN 0 rl) c
                · rfl
                · have := Nat.eq_of_beq_eq_true hq
                  rcases hk with hk | hk
                  · omega
                  · have := hex hk; omega
              rw [this]; simp only [cond_false]
              rw [ho (by rcases hk with hk | hk; · exact .inl (by omega)
                         · exact .inr hk)]
          · by_cases hc : cc = orN 0 rl
            · rw [if_pos hc, hc]; simp; have := Nat.zero_le (cc * sz); omega
            · rw [if_neg hc, Nat.sub_mul]
              have : orN 0 rl * sz ≤ cc * sz := Nat.mul_le_mul_right _ (by omega)
              omega
          · have h1 := heq hex0 (by omega)
            rw [if_neg (show ¬ cc = orN 0 rl by omega), Nat.sub_mul]
            have : orN 0 rl * sz ≤ cc * sz := Nat.mul_le_mul_right _ (by omega)
            omega
        · rename_i m hrm
          split at h
          · exact h.no.elim
          · rename_i hh
            obtain ⟨g0, h⟩ := h.bif
            obtain ⟨g1, h⟩ := h.bif
            obtain ⟨g2, h⟩ := h.bif
            obtain ⟨g3, h⟩ := h.bif
            have g1 := Nat.le_of_ble_eq_true g1
            have g2 := Nat.le_of_ble_eq_true g2
            have g3 := Nat.le_of_ble_eq_true g3
            have hoo : o' = o := ho (by
              cases hq : Nat.ble 1 c
              · rw [hq] at g0; exact .inr g0
              · exact .inl (Nat.le_of_ble_eq_true hq))
            subst hoo
            have hb := sliceB (P := P) hL e1 e2 e3 true (len := l) (cap := cc) (by simp only [orN]; omega) (by simp only [orN]; omega) (by simp only [orN] at g3 ⊢; omega) (.inr (by simp)) w
            simp only [show orN cc (some m) = m from rfl, show orN l (some hh) = hh from rfl] at hb
            refine ⟨_, _, run _ _ _ hb, ?_, h⟩
            simp only [VR]
            refine ⟨p, u, _, _, hs, rfl, by omega, Nat.le_refl _, fun _ => rfl, fun _ => ?_, ?_, fun e => (by cases e)⟩
            · by_cases hc : m = orN 0 rl
              · rw [if_pos hc, show Nat.beq (orN 0 rl) m = true by rw [Nat.beq_eq]; omega]; rfl
              · rw [if_neg hc, show Nat.beq (orN 0 rl) m = false by cases hq : Nat.beq (orN 0 rl) m; rfl; exact absurd (Nat.eq_of_beq_eq_true hq).symm hc]; rfl
            · have q1 : m * sz ≤ cc * sz := Nat.mul_le_mul_right _ (by omega)
              by_cases hc : m = orN 0 rl
              · rw [if_pos hc, hc]; simp; omega
              · rw [if_neg hc, Nat.sub_mul]
                have : orN 0 rl * sz ≤ m * sz := Nat.mul_le_mul_right _ (by omega)
                omega
      · exact h.no.elim
    · exact h.no.elim
  · exact h.no.elim
end
end Go.Cx
