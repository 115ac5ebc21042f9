/- A run with written-out values: the quiet operations' soundness (second part). -/
import Derived.Test.YtmjckbfjaecjjaaGreatDoorCxF
set_option linter.unusedVariables false
set_option linter.unusedSimpArgs false
set_option linter.unnecessarySimpa false
namespace Go.Cx
open Go.RowKit (Below)
section
variable {P : Program} {w0 : World} {σ : Sg} {hp : H} {n : Nat} {w : World} {fr : F} {ev : Operand → Value} {k : CV → Res} {φ : Out → Prop}
/-- The operation answers, the world stays, and the run goes on with the answer. -/
def QR (P : Program) (σ : Sg) (w : World) (s : Sem Value) (k : CV → Res) (φ : Out → Prop) : Prop := ∃ c v, s.run P w = .ok v w ∧ VR σ c v ∧ Good (k c) φ
theorem q_load (hR : Rel w0 σ hp n w) (hL : ∀ x, VR σ (lk fr x) (ev x)) {t : Nat} {a : Operand} (h : Good (qLoad P fr hp t a k) φ) : QR P σ w (Instr.loadAt t (ev a)) k φ := by
  unfold qLoad at h
  have ha := hL a
  split at h
  · rename_i b o he
    rw [he] at ha
    simp only [VR] at ha
    obtain ⟨p, u, hs, hv⟩ := ha
    have e : Instr.loadAt t (ev a) = loadVar t ⟨p, o, none⟩ := by rw [hv]; rfl
    split at h
    · rename_i m hA
      obtain ⟨d, h1, h2, h3⟩ := tyA_spec hA
      split at h
      · rename_i cs hc
        obtain ⟨vs, g1, g2, g3⟩ := rdN_sound hR hc hs
        exact ⟨_, _, by rw [e]; exact run_loadAgg h1 h2 h3 g1 g3, by simp only [VR]; exact ⟨vs, g2, rfl⟩, h⟩
      · exact h.no.elim
    · rename_i m hA
      obtain ⟨d, h1, h2, h3⟩ := tyA_spec hA
      split at h
      · rename_i c hc
        obtain ⟨v, g1, g2⟩ := rd1_sound hR hc hs
        exact ⟨_, _, by rw [e]; exact run_loadOne h1 h2 g1, g2, h⟩
      · exact h.no.elim
    · exact h.no.elim
  · exact h.no.elim
theorem q_pick (hL : ∀ x, VR σ (lk fr x) (ev x)) {c a b : Operand} (h : Good (qPick fr c a b k) φ) : ∃ cv v, (do pure (Next.value (if ← asBool (ev c) then ev a else ev b)) : Sem Next).run P w = .ok (.value v) w ∧ VR σ cv v ∧ Good (k cv) φ := by
  unfold qPick at h
  have hc := hL c
  split at h
  · rename_i he; rw [he] at hc; simp only [VR] at hc
    exact ⟨_, _, by rw [hc]; rfl, hL a, h⟩
  · rename_i he; rw [he] at hc; simp only [VR] at hc
    exact ⟨_, _, by rw [hc]; rfl, hL b, h⟩
  · exact h.no.elim

/-! ### Numbers -/
theorem kn_inj {a b : IntKind} (h : kn a = kn b) : a = b := by cases a <;> cases b <;> first | rfl | (simp [kn] at h)
theorem kc_kn (k : IntKind) : kc (kn k) = k := by cases k <;> rfl
theorem kc_lt (k : Nat) : ∃ j, j ≤ 7 ∧ kc k = kc j ∧ hiN k = hiN j ∧ loN k = loN j := by
  by_cases h : k ≤ 7
  · exact ⟨k, h, rfl, rfl, rfl⟩
  · refine ⟨7, Nat.le_refl _, ?_, ?_, ?_⟩ <;> (obtain ⟨m, rfl⟩ : ∃ m, k = m + 8 := ⟨k - 8, by omega⟩) <;> rfl
theorem wrapK_eq (k : Nat) (x : Int) : wrapK k x = (kc k).wrap x := by
  unfold wrapK
  cases hf : fits k x
  · rfl
  simp only [cond_true]
  obtain ⟨j, hj, e1, e2, e3⟩ := kc_lt k
  have hf' : fits j x = true := by unfold fits at *; rw [← e2, ← e3]; exact hf
  rw [e1]
  have hj' : j = 0 ∨ j = 1 ∨ j = 2 ∨ j = 3 ∨ j = 4 ∨ j = 5 ∨ j = 6 ∨ j = 7 := by omega
  have hb : -(loN j : Int) ≤ x ∧ x ≤ (hiN j : Int) := by
    unfold fits at hf'
    cases x with
    | ofNat m => have := Nat.le_of_ble_eq_true hf'; simp; omega
    | negSucc m => have : m < loN j := by simpa [Nat.blt_eq] using hf'
                   omega
  rcases hj' with rfl | rfl | rfl | rfl | rfl | rfl | rfl | rfl <;> simp only [loN, hiN, kc] at hb ⊢ <;> simp [IntKind.wrap, IntKind.bits, IntKind.signed] <;> omega
theorem ibq_iff {a b : Int} : ibq a b = (a == b) := by
  cases a with
  | ofNat a => cases b with
    | ofNat b =>
      simp only [ibq]
      by_cases h : a = b
      · subst h; simp
      · rw [show Nat.beq a b = false by cases hb : Nat.beq a b; rfl; exact absurd (Nat.eq_of_beq_eq_true hb) h]; symm; simp; omega
    | negSucc b => rfl
  | negSucc a => cases b with
    | ofNat b => rfl
    | negSucc b =>
      simp only [ibq]
      by_cases h : a = b
      · subst h; simp
      · rw [show Nat.beq a b = false by cases hb : Nat.beq a b; rfl; exact absurd (Nat.eq_of_beq_eq_true hb) h]; simp [h]
theorem binOp_int (op : BinOp) (t : TypeId) (k : IntKind) (a b : Int) (h1 : op ≠ .shl) (h2 : op ≠ .shr) : binOp op t (.int k a) (.int k b) =
    (match op with
    | .add | .sub | .mul => Op.intArith op k a b
    | .quo | .rem => Op.intDiv op k a b
    | .and | .or | .xor | .andNot => Op.intBits op k a b
    | _ => Op.intCmp op a b) := by
  cases op <;> first | exact absurd rfl h1 | exact absurd rfl h2 | simp [binOp]
def plainV : Value → Bool | .nilIface | .agg _ => false | _ => true
theorem eqGuard_plain (op : BinOp) (t : TypeId) (x y : Operand) (a b : Value) (h : plainV a = true) : eqGuard op t x y a b = pure () := by
  cases op <;> try rfl
  all_goals (cases a <;> first | rfl | (simp [plainV] at h))
theorem run_guard {op : BinOp} {t : TypeId} {x y : Operand} {a b v : Value} {w w' : World} (h : plainV a = true) (hr : (binOp op t a b).run P w = .ok v w') :
    (do eqGuard op t x y a b; binOp op t a b : Sem Value).run P w = .ok v w' := by
  rw [eqGuard_plain op t x y a b h]; exact hr
theorem q_int (t : TypeId) {op : BinOp} {kd : Nat} {a b : Int} (h1 : op ≠ .shl) (h2 : op ≠ .shr) (h : Good (intOp op kd a b k) φ) : QR P σ w (binOp op t (.int (kc kd) a) (.int (kc kd) b)) k φ := by
  have mk : ∀ (v : Int), Good (k (.int kd v)) φ → (binOp op t (.int (kc kd) a) (.int (kc kd) b)).run P w = .ok (.int (kc kd) v) w → QR P σ w (binOp op t (.int (kc kd) a) (.int (kc kd) b)) k φ :=
    fun v hk hr => ⟨_, _, hr, by simp only [VR], hk⟩
  have mkb : ∀ (v : Bool), Good (k (.bool v)) φ → (binOp op t (.int (kc kd) a) (.int (kc kd) b)).run P w = .ok (.bool v) w → QR P σ w (binOp op t (.int (kc kd) a) (.int (kc kd) b)) k φ :=
    fun v hk hr => ⟨_, _, hr, by simp only [VR], hk⟩
  rw [binOp_int op t _ a b h1 h2] at mk mkb ⊢
  cases op <;> simp only [intOp] at h <;> first | exact h.no.elim | skip
  case add => rw [wrapK_eq] at h; exact mk _ h rfl
  case sub => rw [wrapK_eq] at h; exact mk _ h rfl
  case mul => rw [wrapK_eq] at h; exact mk _ h rfl
  case quo =>
    cases hb : ibq b 0
    · rw [hb] at h; simp only [cond_false] at h
      rw [ibq_iff] at hb; have : b ≠ 0 := by simpa using hb
      rw [wrapK_eq] at h; exact mk _ h (by simp [Op.intDiv, this])
    · rw [hb] at h; exact h.no.elim
  case rem =>
    cases hb : ibq b 0
    · rw [hb] at h; simp only [cond_false] at h
      rw [ibq_iff] at hb; have : b ≠ 0 := by simpa using hb
      exact mk _ h (by simp [Op.intDiv, this])
    · rw [hb] at h; exact h.no.elim
  case and => exact mk _ h rfl
  case or => exact mk _ h rfl
  case xor => exact mk _ h rfl
  case andNot => exact mk _ h rfl
  case eql => rw [ibq_iff] at h; exact mkb _ h rfl
  case neq => rw [ibq_iff] at h; exact mkb _ h rfl
  case lss => exact mkb _ h rfl
  case leq => exact mkb _ h rfl
  case gtr => exact mkb _ h rfl
  case geq => exact mkb _ h rfl
theorem q_sh (t : TypeId) {op : BinOp} {kd kd' : Nat} {a b : Int} (ho : op = .shl ∨ op = .shr) (h : Good (shOp op kd a b k) φ) : QR P σ w (binOp op t (.int (kc kd) a) (.int (kc kd') b)) k φ := by
  unfold shOp at h
  split at h
  · exact h.no.elim
  · rename_i m
    have hneg : ¬ ((Int.ofNat m) < 0) := by simp
    rcases ho with rfl | rfl
    · simp only at h; rw [wrapK_eq] at h
      exact ⟨_, _, by simp only [binOp, Op.shift]; rw [if_neg hneg]; rfl, by simp only [VR]; rfl, h⟩
    · simp only at h
      exact ⟨_, _, by simp only [binOp, Op.shift]; rw [if_neg hneg]; rfl, by simp only [VR]; rfl, h⟩

/-! ### Texts -/
theorem ba_toList (a : List UInt8) : (⟨a.toArray⟩ : ByteArray).toList = a := by rw [ByteArray.toList_eq]
theorem bys_beq (l n l' n' : Nat) : (bif Nat.beq l l' then Nat.beq (n % pw l) (n' % pw l) else false) = (bys l n == bys l' n') := by
  cases hl : Nat.beq l l'
  · have : l ≠ l' := fun e => by rw [e, Nat.beq_refl] at hl; cases hl
    simp only [cond_false]
    have hne : bys l n ≠ bys l' n' := fun e => this (by have := congrArg List.length e; rwa [bys_len, bys_len] at this)
    simp [hne]
  · have := Nat.eq_of_beq_eq_true hl; subst this
    simp only [cond_true]
    by_cases h : n % pw l = n' % pw l
    · rw [h, (bys_eq_iff l n n').2 h]; simp
    · have hb : Nat.beq (n % pw l) (n' % pw l) = false := by cases hb : Nat.beq (n % pw l) (n' % pw l); rfl; exact absurd (Nat.eq_of_beq_eq_true hb) h
      have hne : bys l n ≠ bys l n' := fun e => h ((bys_eq_iff l n n').1 e)
      rw [hb]; simp [hne]
theorem ble_less : ∀ (l l' n n' : Nat), bleBytes l l' n n' = Op.bytesLess (bys l n) (bys l' n')
  | 0, 0, _, _ => by simp [bleBytes, bys, Op.bytesLess]
  | _ + 1, 0, _, _ => by simp [bleBytes, bys, Op.bytesLess]
  | 0, _ + 1, _, _ => by simp [bleBytes, bys, Op.bytesLess]
  | l + 1, l' + 1, n, n' => by
    simp only [bleBytes, bys, Op.bytesLess]
    have h1 : n % 256 < 256 := Nat.mod_lt _ (by decide)
    have h2 : n' % 256 < 256 := Nat.mod_lt _ (by decide)
    have e1 : (UInt8.ofNat (n % 256)).toNat = n % 256 := by simp
    have e2 : (UInt8.ofNat (n' % 256)).toNat = n' % 256 := by simp
    have elt : (decide (UInt8.ofNat (n % 256) < UInt8.ofNat (n' % 256))) = Nat.blt (n % 256) (n' % 256) := by
      rw [Bool.eq_iff_iff, decide_eq_true_iff, Nat.blt_eq, UInt8.lt_iff_toNat_lt, e1, e2]
    have eeq : (UInt8.ofNat (n % 256) == UInt8.ofNat (n' % 256)) = Nat.beq (n % 256) (n' % 256) := by
      rw [Bool.eq_iff_iff, beq_iff_eq, Nat.beq_eq, ← UInt8.toNat_inj, e1, e2]
    rw [elt, eeq, ← ble_less l l' (n / 256) (n' / 256)]
    cases Nat.blt (n % 256) (n' % 256) <;> cases Nat.beq (n % 256) (n' % 256) <;> rfl
theorem less_tri : ∀ (x y : List UInt8), (Op.bytesLess x y || (x == y)) = !Op.bytesLess y x
  | [], [] => rfl
  | [], _ :: _ => by simp [Op.bytesLess]
  | _ :: _, [] => by simp [Op.bytesLess]
  | a :: x, b :: y => by
    have ih := less_tri x y
    simp only [Op.bytesLess]
    rcases Nat.lt_trichotomy a.toNat b.toNat with h | h | h
    · have h1 : a < b := UInt8.lt_iff_toNat_lt.2 h
      have h2 : ¬ b < a := fun h' => by have := UInt8.lt_iff_toNat_lt.1 h'; omega
      have h3 : (b == a) = false := by simp; intro e; subst e; omega
      simp [h1, h2, h3]
    · have e : a = b := UInt8.toNat_inj.1 h
      subst e
      have h2 : ¬ a < a := fun h' => by have := UInt8.lt_iff_toNat_lt.1 h'; omega
      simp only [h2, decide_false, beq_self_eq_true, Bool.true_and, Bool.false_or]
      rw [← ih]; simp
    · have h1 : b < a := UInt8.lt_iff_toNat_lt.2 h
      have h2 : ¬ a < b := fun h' => by have := UInt8.lt_iff_toNat_lt.1 h'; omega
      have h3 : a ≠ b := fun e => by subst e; omega
      simp [h1, h2, h3]
theorem q_str (t : TypeId) {op : BinOp} {l m l' m' : Nat} (h : Good (strOp op l m l' m' k) φ) : QR P σ w (binOp op t (.string ⟨(bys l m).toArray⟩) (.string ⟨(bys l' m').toArray⟩)) k φ := by
  have mkb : ∀ (v : Bool), Good (k (.bool v)) φ → (binOp op t (.string ⟨(bys l m).toArray⟩) (.string ⟨(bys l' m').toArray⟩)).run P w = .ok (.bool v) w → QR P σ w (binOp op t (.string ⟨(bys l m).toArray⟩) (.string ⟨(bys l' m').toArray⟩)) k φ :=
    fun v hk hr => ⟨_, _, hr, by simp only [VR], hk⟩
  unfold strOp at h
  cases op <;> simp only at h <;> first | exact h.no.elim | skip
  case add =>
    obtain ⟨hz, h⟩ := h.bif
    refine ⟨_, .string ⟨(bys (l + l') (bcat l m m')).toArray⟩, ?_, by simp only [VR], h⟩
    simp only [binOp, Op.stringOp, ByteArray.size, List.size_toArray, bys_len]
    rw [if_neg (by have := Nat.le_of_ble_eq_true hz; simp [IntKind.max, IntKind.signed, IntKind.bits]; omega)]
    have : (⟨(bys l m).toArray⟩ : ByteArray) ++ ⟨(bys l' m').toArray⟩ = ⟨(bys (l + l') (bcat l m m')).toArray⟩ := by
      apply ByteArray.ext
      rw [ByteArray.data_append, ← bys_cat]; simp
    rw [this]; rfl
  case eql => rw [bys_beq] at h; exact mkb _ h (by simp only [binOp, Op.stringOp, ba_toList]; rfl)
  case neq => rw [bys_beq] at h; exact mkb _ h (by simp only [binOp, Op.stringOp, ba_toList]; rfl)
  case lss => rw [ble_less] at h; exact mkb _ h (by simp only [binOp, Op.stringOp, ba_toList]; rfl)
  case geq => rw [ble_less] at h; exact mkb _ h (by simp only [binOp, Op.stringOp, ba_toList]; rfl)
  case gtr => rw [ble_less] at h; refine mkb _ h ?_; simp only [binOp, Op.stringOp, ba_toList]; rw [less_tri, Bool.not_not]; rfl
  case leq => rw [ble_less] at h; refine mkb _ h ?_; simp only [binOp, Op.stringOp, ba_toList]; rw [less_tri]; rfl
end
end Go.Cx
