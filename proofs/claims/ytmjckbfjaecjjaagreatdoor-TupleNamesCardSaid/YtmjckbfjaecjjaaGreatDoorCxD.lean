/- A run with written-out values: what a state says of the model's world. -/
import Derived.Test.YtmjckbfjaecjjaaGreatDoorCxC
set_option linter.unusedVariables false
set_option linter.unusedSimpArgs false
set_option linter.unnecessarySimpa false
namespace Go.Cx
open Go.RowKit (Below)

/-- The block of each name, and how many cells it has. -/
abbrev Sg := Nat → Option (Nat × Nat)
def Le (σ τ : Sg) : Prop := ∀ i x, σ i = some x → τ i = some x
theorem Le.refl (σ : Sg) : Le σ σ := fun _ _ h => h
theorem Le.trans {σ τ υ : Sg} (h : Le σ τ) (k : Le τ υ) : Le σ υ := fun i x hx => k i x (h i x hx)

/-- The first l bytes of a number. -/
def bys : Nat → Nat → List UInt8
  | 0, _ => []
  | l + 1, n => UInt8.ofNat (n % 256) :: bys l (n / 256)

mutual
def VR (σ : Sg) : CV → Value → Prop
  | .int k n, v => v = .int (kc k) n
  | .bool b, v => v = .bool b
  | .str l n, v => v = .string ⟨(bys l n).toArray⟩
  | .ptr b o, v => ∃ p t, σ b = some (p, t) ∧ v = .pointer (some ⟨p, o, none⟩)
  | .nilp, v => v = .pointer none
  | .slice b o s l k ex, v => ∃ p t o' c, σ b = some (p, t) ∧ v = .slice (some ⟨p, o', none⟩) l c ∧ l ≤ k ∧ k ≤ c ∧ (ex = true → c = k) ∧ ((0 < k ∨ ex = true) → o' = o) ∧ o' + c * s ≤ t ∧ (ex = false → 0 < k → o' + c * s = t)
  | .nils, v => v = .slice none 0 0
  | .map b, v => ∃ p t, σ b = some (p, t) ∧ v = .map (some p)
  | .nilm, v => v = .map none
  | .fn f fs cs, v => ∃ us vs, VRs σ fs us ∧ VRs σ cs vs ∧ v = .func (.func f) us.toArray vs.toArray
  | .mth name c, v => ∃ x, VR σ c x ∧ v = .func (.method name) #[x] #[]
  | .yld l, v => ∃ p t, σ l = some (p, t) ∧ v = .func (.yield p) #[] #[]
  | .nilf, v => v = .nilFunc
  | .ifc t c, v => ∃ x, VR σ c x ∧ v = .iface t x
  | .nili, v => v = .nilIface
  | .agg cs, v => ∃ vs, VRs σ cs vs ∧ v = .agg vs.toArray
  | .tup cs, v => ∃ vs, VRs σ cs vs ∧ v = .tuple vs.toArray
  | .junk, _ => True
def VRs (σ : Sg) : List CV → List Value → Prop
  | [], vs => vs = []
  | c :: cs, vs => ∃ v ws, vs = v :: ws ∧ VR σ c v ∧ VRs σ cs ws
end
mutual
theorem VR.mono {σ τ : Sg} (h : Le σ τ) : ∀ {c : CV} {v : Value}, VR σ c v → VR τ c v
  | .int _ _, _, hv => by simpa only [VR] using hv
  | .bool _, _, hv => by simpa only [VR] using hv
  | .str _ _, _, hv => by simpa only [VR] using hv
  | .ptr _ _, _, hv => by simp only [VR] at hv ⊢; obtain ⟨p, t, h1, h2⟩ := hv; exact ⟨p, t, h _ _ h1, h2⟩
  | .nilp, _, hv => by simpa only [VR] using hv
  | .slice .., _, hv => by simp only [VR] at hv ⊢; obtain ⟨p, t, o', c, h1, h2⟩ := hv; exact ⟨p, t, o', c, h _ _ h1, h2⟩
  | .nils, _, hv => by simpa only [VR] using hv
  | .map _, _, hv => by simp only [VR] at hv ⊢; obtain ⟨p, t, h1, h2⟩ := hv; exact ⟨p, t, h _ _ h1, h2⟩
  | .nilm, _, hv => by simpa only [VR] using hv
  | .fn _ fs cs, _, hv => by simp only [VR] at hv ⊢; obtain ⟨us, vs, h0, h1, h2⟩ := hv; exact ⟨us, vs, VRs.mono h h0, VRs.mono h h1, h2⟩
  | .mth _ c, _, hv => by simp only [VR] at hv ⊢; obtain ⟨x, h1, h2⟩ := hv; exact ⟨x, VR.mono h h1, h2⟩
  | .yld _, _, hv => by simp only [VR] at hv ⊢; obtain ⟨p, t, h1, h2⟩ := hv; exact ⟨p, t, h _ _ h1, h2⟩
  | .nilf, _, hv => by simpa only [VR] using hv
  | .ifc _ c, _, hv => by simp only [VR] at hv ⊢; obtain ⟨x, h1, h2⟩ := hv; exact ⟨x, VR.mono h h1, h2⟩
  | .nili, _, hv => by simpa only [VR] using hv
  | .agg cs, _, hv => by simp only [VR] at hv ⊢; obtain ⟨vs, h1, h2⟩ := hv; exact ⟨vs, VRs.mono h h1, h2⟩
  | .tup cs, _, hv => by simp only [VR] at hv ⊢; obtain ⟨vs, h1, h2⟩ := hv; exact ⟨vs, VRs.mono h h1, h2⟩
  | .junk, _, hv => by simpa only [VR] using hv
theorem VRs.mono {σ τ : Sg} (h : Le σ τ) : ∀ {c : List CV} {v : List Value}, VRs σ c v → VRs τ c v
  | [], _, hv => by simpa only [VRs] using hv
  | c :: cs, _, hv => by simp only [VRs] at hv ⊢; obtain ⟨v, ws, h1, h2, h3⟩ := hv; exact ⟨v, ws, h1, VR.mono h h2, VRs.mono h h3⟩
end
theorem VRs.len {σ : Sg} : ∀ {c : List CV} {v : List Value}, VRs σ c v → c.length = v.length
  | [], _, h => by simp only [VRs] at h; subst h; rfl
  | c :: cs, _, h => by simp only [VRs] at h; obtain ⟨v, ws, rfl, _, h3⟩ := h; simp [VRs.len h3]
theorem VRs.app {σ : Sg} : ∀ {c d : List CV} {v w : List Value}, VRs σ c v → VRs σ d w → VRs σ (c ++ d) (v ++ w)
  | [], _, _, _, h, k => by simp only [VRs] at h; subst h; exact k
  | c :: cs, _, _, _, h, k => by
    simp only [VRs] at h; obtain ⟨v, ws, rfl, h2, h3⟩ := h
    simp only [List.cons_append, VRs]; exact ⟨v, _, rfl, h2, VRs.app h3 k⟩
theorem VRs.get {σ : Sg} : ∀ {c : List CV} {v : List Value} {i : Nat} {x : CV}, VRs σ c v → nthC c i = some x → ∃ y, v[i]? = some y ∧ VR σ x y
  | [], _, _, _, _, hx => by cases hx
  | c :: cs, _, i, x, h, hx => by
    simp only [VRs] at h; obtain ⟨v, ws, rfl, h2, h3⟩ := h
    cases i with
    | zero => simp only [nthC] at hx; cases hx; exact ⟨v, rfl, h2⟩
    | succ i => simp only [nthC] at hx; simpa using VRs.get h3 hx
theorem VRs.drop {σ : Sg} : ∀ {n : Nat} {c : List CV} {v : List Value}, VRs σ c v → VRs σ (dropC n c) (v.drop n)
  | 0, _, _, h => by simpa [dropC] using h
  | n + 1, [], _, h => by simp only [VRs] at h; subst h; simp [dropC, VRs]
  | n + 1, c :: cs, _, h => by
    simp only [VRs] at h; obtain ⟨v, ws, rfl, h2, h3⟩ := h
    simpa [dropC] using VRs.drop h3
theorem VRs.take {σ : Sg} : ∀ {n : Nat} {c r : List CV} {v : List Value}, VRs σ c v → takeC n c = some r → VRs σ r (v.take n) ∧ n ≤ v.length ∧ r.length = n
  | 0, _, r, _, h, hr => by simp only [takeC] at hr; cases hr; simp [VRs]
  | n + 1, [], _, _, h, hr => by simp only [takeC] at hr; cases hr
  | n + 1, c :: cs, r, _, h, hr => by
    simp only [VRs] at h; obtain ⟨v, ws, rfl, h2, h3⟩ := h
    simp only [takeC] at hr
    split at hr
    · rename_i q hq
      cases hr
      obtain ⟨a, b, d⟩ := VRs.take h3 hq
      refine ⟨?_, by simpa using b, by simp [d]⟩
      simp only [List.take_succ_cons, VRs]; exact ⟨v, _, rfl, h2, a⟩
    · cases hr
theorem VRs.over {σ : Sg} {d : List CV} {w : List Value} (hd : VRs σ d w) : ∀ {o : Nat} {c r : List CV} {v : List Value}, VRs σ c v → overC d o c = some r →
    VRs σ r (v.take o ++ w ++ v.drop (o + w.length)) ∧ o ≤ v.length
  | 0, c, r, v, h, hr => by
    simp only [overC] at hr; cases hr
    refine ⟨?_, Nat.zero_le _⟩
    have := VRs.app hd (VRs.drop (n := d.length) h)
    simpa [hd.len] using this
  | o + 1, [], r, v, h, hr => by simp only [overC] at hr; cases hr
  | o + 1, c :: cs, r, v, h, hr => by
    simp only [VRs] at h; obtain ⟨v, ws, rfl, h2, h3⟩ := h
    simp only [overC] at hr
    split at hr
    · rename_i q hq
      cases hr
      obtain ⟨a, b⟩ := VRs.over hd h3 hq
      refine ⟨?_, by simpa using b⟩
      have e : (v :: ws).drop (o + 1 + w.length) = ws.drop (o + w.length) := by rw [show o + 1 + w.length = (o + w.length) + 1 by omega]; rfl
      rw [e]
      simp only [List.take_succ_cons, List.cons_append, VRs]; exact ⟨v, _, rfl, h2, a⟩
    · cases hr
theorem VRs.put0 {σ : Sg} : ∀ {d c r : List CV} {w v : List Value}, VRs σ d w → VRs σ c v → putC0 d c = some r → VRs σ r (w ++ v.drop w.length) ∧ w.length ≤ v.length
  | [], c, r, w, v, hd, h, hr => by
    simp only [VRs] at hd; subst hd
    simp only [putC0] at hr; cases hr
    exact ⟨by simpa using h, Nat.zero_le _⟩
  | _ :: _, [], r, w, v, hd, h, hr => by simp only [putC0] at hr; cases hr
  | x :: d, y :: c, r, w, v, hd, h, hr => by
    simp only [VRs] at hd h
    obtain ⟨a, w', rfl, h1, h2⟩ := hd
    obtain ⟨b, v', rfl, h3, h4⟩ := h
    simp only [putC0] at hr
    split at hr
    · rename_i q hq
      cases hr
      obtain ⟨e1, e2⟩ := VRs.put0 h2 h4 hq
      refine ⟨?_, by simpa using e2⟩
      simp only [List.cons_append, List.length_cons, List.drop_succ_cons, VRs]
      exact ⟨a, _, rfl, h1, e1⟩
    · cases hr
theorem VRs.put {σ : Sg} {d : List CV} {w : List Value} (hd : VRs σ d w) : ∀ {o : Nat} {c r : List CV} {v : List Value}, VRs σ c v → putC d o c = some r →
    VRs σ r (v.take o ++ w ++ v.drop (o + w.length)) ∧ o + w.length ≤ v.length
  | 0, c, r, v, h, hr => by
    simp only [putC] at hr
    obtain ⟨a, b⟩ := VRs.put0 hd h hr
    exact ⟨by simpa using a, by omega⟩
  | o + 1, [], r, v, h, hr => by simp only [putC] at hr; cases hr
  | o + 1, c :: cs, r, v, h, hr => by
    simp only [VRs] at h; obtain ⟨v, ws, rfl, h2, h3⟩ := h
    simp only [putC] at hr
    split at hr
    · rename_i q hq
      cases hr
      obtain ⟨a, b⟩ := VRs.put hd h3 hq
      refine ⟨?_, by simp only [List.length_cons]; omega⟩
      have e : (v :: ws).drop (o + 1 + w.length) = ws.drop (o + w.length) := by rw [show o + 1 + w.length = (o + w.length) + 1 by omega]; rfl
      rw [e]
      simp only [List.take_succ_cons, List.cons_append, VRs]; exact ⟨v, _, rfl, h2, a⟩
    · cases hr
theorem VRs.rep {σ : Sg} {c : List CV} {v : List Value} (h : VRs σ c v) : ∀ (n : Nat), VRs σ (repC c n) (List.replicate n v).flatten
  | 0 => by simp [repC, VRs]
  | n + 1 => by simp only [repC, List.replicate_succ, List.flatten_cons]; exact h.app (h.rep n)

/-! ### Bytes -/
theorem bys_len : ∀ (l n : Nat), (bys l n).length = l
  | 0, _ => rfl
  | l + 1, n => by simp [bys, bys_len l]
theorem pw_succ (l : Nat) : pw (l + 1) = 256 * pw l := by unfold pw; rw [show 8 * (l + 1) = 8 * l + 8 by omega, Nat.pow_add, Nat.mul_comm]
theorem pw_pos (l : Nat) : 0 < pw l := Nat.two_pow_pos _
theorem pw_zero : pw 0 = 1 := rfl
theorem pw_add (a b : Nat) : pw (a + b) = pw a * pw b := by unfold pw; rw [← Nat.pow_add]; congr 1; omega
theorem bys_get : ∀ (l n i : Nat), i < l → (bys l n)[i]? = some (UInt8.ofNat (bnth n i))
  | 0, _, _, h => by omega
  | l + 1, n, 0, _ => by simp [bys, bnth, pw]
  | l + 1, n, i + 1, h => by
    simp only [bys, List.getElem?_cons_succ]
    rw [bys_get l (n / 256) i (by omega)]
    simp only [bnth]; rw [Nat.div_div_eq_div_mul, pw_succ]
theorem bys_mod : ∀ (l n : Nat), bys l (n % pw l) = bys l n
  | 0, _ => rfl
  | l + 1, n => by
    simp only [bys]
    congr 1
    · congr 1; rw [pw_succ, Nat.mod_mul_right_mod]
    · rw [pw_succ]
      have : n % (256 * pw l) / 256 = n / 256 % pw l := by rw [Nat.mod_mul_right_div_self]
      rw [this, bys_mod l]
theorem bnth_lt (n i : Nat) : bnth n i < 256 := Nat.mod_lt _ (by decide)
theorem bys_ext {l n m : Nat} (h : ∀ i, i < l → bnth n i = bnth m i) : bys l n = bys l m := by
  apply List.ext_getElem?
  intro i
  by_cases hi : i < l
  · rw [bys_get l n i hi, bys_get l m i hi, h i hi]
  · rw [List.getElem?_eq_none (by rw [bys_len]; omega), List.getElem?_eq_none (by rw [bys_len]; omega)]
theorem bnth_div (n lo i : Nat) : bnth (n / pw lo) i = bnth n (lo + i) := by
  simp only [bnth]; rw [Nat.div_div_eq_div_mul, pw_add]
theorem bys_drop (l n lo : Nat) : (bys l n).drop lo = bys (l - lo) (n / pw lo) := by
  apply List.ext_getElem?
  intro i
  rw [List.getElem?_drop]
  by_cases h : lo + i < l
  · rw [bys_get _ _ _ h, bys_get _ _ _ (by omega), bnth_div]
  · rw [List.getElem?_eq_none (by rw [bys_len]; omega), List.getElem?_eq_none (by rw [bys_len]; omega)]
theorem bys_take (l n k : Nat) (h : k ≤ l) : (bys l n).take k = bys k n := by
  apply List.ext_getElem?
  intro i
  by_cases hi : i < k
  · rw [List.getElem?_take_of_lt hi, bys_get _ _ _ (by omega), bys_get _ _ _ hi]
  · rw [List.getElem?_eq_none (by simp [bys_len]; omega), List.getElem?_eq_none (by rw [bys_len]; omega)]
theorem bys_sub (l n lo len : Nat) (h : lo + len ≤ l) : ((bys l n).drop lo).take len = bys len (bsub n lo len) := by
  rw [bys_drop, bys_take _ _ _ (by omega)]; unfold bsub; rw [bys_mod]
theorem bys_cat (l1 n1 l2 n2 : Nat) : bys l1 n1 ++ bys l2 n2 = bys (l1 + l2) (bcat l1 n1 n2) := by
  have e : bys (l1 + l2) (bcat l1 n1 n2) = (bys (l1 + l2) (bcat l1 n1 n2)).take l1 ++ (bys (l1 + l2) (bcat l1 n1 n2)).drop l1 := (List.take_append_drop _ _).symm
  rw [e, bys_take _ _ _ (by omega), bys_drop]
  have h1 : bcat l1 n1 n2 % pw l1 = n1 % pw l1 := by
    unfold bcat; rw [Nat.mul_comm, Nat.add_mul_mod_self_left, Nat.mod_mod]
  have h2 : bcat l1 n1 n2 / pw l1 = n2 := by
    unfold bcat; rw [Nat.mul_comm, Nat.add_mul_div_left _ _ (pw_pos l1), Nat.div_eq_of_lt (Nat.mod_lt _ (pw_pos l1)), Nat.zero_add]
  rw [h2, show l1 + l2 - l1 = l2 by omega]
  congr 1
  rw [← bys_mod l1 (bcat l1 n1 n2), h1, bys_mod]
theorem bys_put (l n lo len m : Nat) (h : lo + len ≤ l) : bys l (bput n lo len m l) = (bys l n).take lo ++ bys len m ++ (bys l n).drop (lo + len) := by
  have e : bput n lo len m l = bcat lo n (bcat len m ((n / pw (lo + len)) % pw (l - (lo + len)))) := by
    unfold bput bcat
    rw [pw_add, Nat.add_mul, Nat.add_assoc]
    congr 2
    rw [Nat.mul_assoc, Nat.mul_comm (pw lo) (pw len)]
  rw [e]
  have e2 : l = lo + (len + (l - (lo + len))) := by omega
  conv => lhs; rw [e2]
  have e3 : lo + (len + (l - (lo + len))) - (lo + len) = l - (lo + len) := by omega
  rw [e3, ← bys_cat, ← bys_cat, bys_mod, bys_take _ _ _ (by omega), bys_drop, List.append_assoc]
theorem bys_eq_iff (l n m : Nat) : bys l n = bys l m ↔ n % pw l = m % pw l := by
  constructor
  · intro h
    induction l generalizing n m with
    | zero => rw [pw_zero]; omega
    | succ l ih =>
      simp only [bys, List.cons.injEq] at h
      have h1 := congrArg UInt8.toNat h.1
      simp only [UInt8.toNat_ofNat'] at h1
      have h2 := ih _ _ h.2
      rw [pw_succ]
      rw [Nat.mod_mul, Nat.mod_mul, h2]
      omega
  · intro h; rw [← bys_mod l n, h, bys_mod]
theorem bys_ofBytes : ∀ (l : List UInt8), bys l.length (ofBytes l) = l
  | [] => rfl
  | x :: l => by
    simp only [List.length_cons, bys, ofBytes]
    have hx : x.toNat < 256 := x.toNat_lt
    congr 1
    · rw [show (x.toNat + 256 * ofBytes l) % 256 = x.toNat by omega]; simp
    · rw [show (x.toNat + 256 * ofBytes l) / 256 = ofBytes l by omega]; exact bys_ofBytes l
end Go.Cx
