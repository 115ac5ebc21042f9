/- Part of a proof. -/
import Derived.Test.YtlmkcakhhbckhaaGreatDoorPe5
import Derived.LaidEql
import Derived.WalkKit
import Derived.Laws.Tables
import Derived.Laws.IdiomStrings
import Derived.Laws.StructEq
import Derived.Laws.CopyRow
import Derived.Laws.RangeString
import Derived.Maps.RangeRun
set_option linter.unusedSimpArgs false
set_option linter.unusedVariables false
set_option maxRecDepth 20000
namespace Go.Cx
open Go.RowKit (Below)
abbrev Sg := Nat -> Option (Nat × Nat)
def Le (σ τ : Sg) : Prop := ∀ i x, σ i = some x -> τ i = some x
theorem Le.refl (σ : Sg) : Le σ σ := fun _ _ h => h
theorem Le.trans {σ τ υ : Sg} (h : Le σ τ) (k : Le τ υ) : Le σ υ := fun i x hx => k i x (h i x hx)
def bys : Nat -> Nat -> List UInt8
 | 0, _ => []
 | l + 1, n => UInt8.ofNat (n % 256) :: bys l (n / 256)
mutual
def VR (σ : Sg) : CV -> Value -> Prop
 | .int k n, v => v = .int (kc k) n
 | .bool b, v => v = .bool b
 | .str l n, v => v = .string ⟨(bys l n).toArray⟩
 | .ptr b o, v => ∃ p t, σ b = some (p, t) /\ v = .pointer (some ⟨p, o, none⟩)
 | .nilp, v => v = .pointer none
 | .slice b o s l k ex, v => ∃ p t o' c, σ b = some (p, t) /\ v = .slice (some ⟨p, o', none⟩) l c /\ l <= k /\ k <= c /\ (ex = true -> c = k) /\ ((0 < k \/ ex = true) -> o' = o) /\ o' + c * s <= t /\ (ex = false -> 0 < k -> o' + c * s = t)
 | .nils, v => v = .slice none 0 0
 | .map b, v => ∃ p t, σ b = some (p, t) /\ v = .map (some p)
 | .nilm, v => v = .map none
 | .fn f fs cs, v => ∃ us vs, VRs σ fs us /\ VRs σ cs vs /\ v = .func (.func f) us.toArray vs.toArray
 | .mth name c, v => ∃ x, VR σ c x /\ v = .func (.method name) #[x] #[]
 | .yld l, v => ∃ p t, σ l = some (p, t) /\ v = .func (.yield p) #[] #[]
 | .nilf, v => v = .nilFunc
 | .ifc t c, v => ∃ x, VR σ c x /\ v = .iface t x
 | .nili, v => v = .nilIface
 | .agg cs, v => ∃ vs, VRs σ cs vs /\ v = .agg vs.toArray
 | .tup cs, v => ∃ vs, VRs σ cs vs /\ v = .tuple vs.toArray
 | .junk, _ => True
def VRs (σ : Sg) : List CV -> List Value -> Prop
 | [], vs => vs = []
 | c :: cs, vs => ∃ v ws, vs = v :: ws /\ VR σ c v /\ VRs σ cs ws
end
mutual
theorem VR.mono {σ τ : Sg} (h : Le σ τ) : ∀ {c : CV} {v : Value}, VR σ c v -> VR τ c v
 | .int _ _, _, hv => by simpa only [VR] using hv
 | .bool _, _, hv => by simpa only [VR] using hv
 | .str _ _, _, hv => by simpa only [VR] using hv
 | .ptr _ _, _, hv => by simp only [VR] at hv ⊢; obtain ⟨p, t, h1, h2⟩ := hv; exact ⟨p, t, h _ _ h1, h2⟩
 | .nilp, _, hv => by simpa only [VR] using hv
 | .slice .., _, hv => by simp only [VR] at hv ⊢; obtain ⟨p, t, o', c, h1, h2⟩ := hv; exact ⟨p, t, o', c, h _ _ h1, h2⟩
 | .nils, _, hv => by simpa only [VR] using hv
 | .map _, _, hv => by simp only [VR] at hv ⊢; obtain ⟨p, t, h1, h2⟩ := hv; exact ⟨p, t, h _ _ h1, h2⟩
 | .nilm, _, hv => by simpa only [VR] using hv
 | .fn _ fs cs, _, hv => by simp only [VR] at hv ⊢; obtain ⟨us, vs, h0, h1, h2⟩ := hv; exact ⟨us, vs, VRs.mono h h0, VRs.mono h h1, h2⟩
 | .mth _ c, _, hv => by simp only [VR] at hv ⊢; obtain ⟨x, h1, h2⟩ := hv; exact ⟨x, VR.mono h h1, h2⟩
 | .yld _, _, hv => by simp only [VR] at hv ⊢; obtain ⟨p, t, h1, h2⟩ := hv; exact ⟨p, t, h _ _ h1, h2⟩
 | .nilf, _, hv => by simpa only [VR] using hv
 | .ifc _ c, _, hv => by simp only [VR] at hv ⊢; obtain ⟨x, h1, h2⟩ := hv; exact ⟨x, VR.mono h h1, h2⟩
 | .nili, _, hv => by simpa only [VR] using hv
 | .agg cs, _, hv => by simp only [VR] at hv ⊢; obtain ⟨vs, h1, h2⟩ := hv; exact ⟨vs, VRs.mono h h1, h2⟩
 | .tup cs, _, hv => by simp only [VR] at hv ⊢; obtain ⟨vs, h1, h2⟩ := hv; exact ⟨vs, VRs.mono h h1, h2⟩
 | .junk, _, _ => by simp only [VR]
theorem VRs.mono {σ τ : Sg} (h : Le σ τ) : ∀ {c : List CV} {v : List Value}, VRs σ c v -> VRs τ c v
 | [], _, hv => by simpa only [VRs] using hv
 | c :: cs, _, hv => by simp only [VRs] at hv ⊢; obtain ⟨v, ws, h1, h2, h3⟩ := hv; exact ⟨v, ws, h1, VR.mono h h2, VRs.mono h h3⟩
end
theorem VRs.len {σ : Sg} : ∀ {c : List CV} {v : List Value}, VRs σ c v -> c.length = v.length
 | [], _, h => by simp only [VRs] at h; subst h; rfl
 | c :: cs, _, h => by simp only [VRs] at h; obtain ⟨v, ws, rfl, _, h3⟩ := h; simp [VRs.len h3]
theorem VRs.app {σ : Sg} : ∀ {c d : List CV} {v w : List Value}, VRs σ c v -> VRs σ d w -> VRs σ (c ++ d) (v ++ w)
 | [], _, _, _, h, k => by simp only [VRs] at h; subst h; exact k
 | c :: cs, _, _, _, h, k => by
  simp only [VRs] at h; obtain ⟨v, ws, rfl, h2, h3⟩ := h
  simp only [List.cons_append, VRs]; exact ⟨v, _, rfl, h2, VRs.app h3 k⟩
theorem VRs.get {σ : Sg} : ∀ {c : List CV} {v : List Value} {i : Nat} {x : CV}, VRs σ c v -> Zqt c i = some x -> ∃ y, v[i]? = some y /\ VR σ x y
 | [], _, _, _, _, hx => by cases hx
 | c :: cs, _, i, x, h, hx => by
  simp only [VRs] at h; obtain ⟨v, ws, rfl, h2, h3⟩ := h
  cases i with
  | zero => simp only [Zqt] at hx; cases hx; exact ⟨v, rfl, h2⟩
  | succ i => simp only [Zqt] at hx; simpa using VRs.get h3 hx
theorem VRs.drop {σ : Sg} : ∀ {n : Nat} {c : List CV} {v : List Value}, VRs σ c v -> VRs σ (Zd7 n c) (v.drop n)
 | 0, _, _, h => by simpa [Zd7] using h
 | n + 1, [], _, h => by simp only [VRs] at h; subst h; simp [Zd7, VRs]
 | n + 1, c :: cs, _, h => by
  simp only [VRs] at h; obtain ⟨v, ws, rfl, h2, h3⟩ := h
  simpa [Zd7] using VRs.drop h3
theorem VRs.take {σ : Sg} : ∀ {n : Nat} {c r : List CV} {v : List Value}, VRs σ c v -> ZcP n c = some r -> VRs σ r (v.take n) /\ n <= v.length /\ r.length = n
 | 0, _, r, _, h, hr => by simp only [ZcP] at hr; cases hr; simp [VRs]
 | n + 1, [], _, _, h, hr => by simp only [ZcP] at hr; cases hr
 | n + 1, c :: cs, r, _, h, hr => by
  simp only [VRs] at h; obtain ⟨v, ws, rfl, h2, h3⟩ := h
  simp only [ZcP] at hr
  split at hr
  ·rename_i q hq
   cases hr
   obtain ⟨a, b, d⟩ := VRs.take h3 hq
   refine ⟨?_, by simpa using b, by simp [d]⟩
   simp only [List.take_succ_cons, VRs]; exact ⟨v, _, rfl, h2, a⟩
  ·cases hr
theorem VRs.over {σ : Sg} {d : List CV} {w : List Value} (hd : VRs σ d w) : ∀ {o : Nat} {c r : List CV} {v : List Value}, VRs σ c v -> Zrt d o c = some r →
  VRs σ r (v.take o ++ w ++ v.drop (o + w.length)) /\ o <= v.length
 | 0, c, r, v, h, hr => by
  simp only [Zrt] at hr; cases hr
  refine ⟨?_, Nat.zero_le _⟩
  have := VRs.app hd (VRs.drop (n := d.length) h)
  simpa [hd.len] using this
 | o + 1, [], r, v, h, hr => by simp only [Zrt] at hr; cases hr
 | o + 1, c :: cs, r, v, h, hr => by
  simp only [VRs] at h; obtain ⟨v, ws, rfl, h2, h3⟩ := h
  simp only [Zrt] at hr
  split at hr
  ·rename_i q hq
   cases hr
   obtain ⟨a, b⟩ := VRs.over hd h3 hq
   refine ⟨?_, by simpa using b⟩
   have e : (v :: ws).drop (o + 1 + w.length) = ws.drop (o + w.length) := by rw [show o + 1 + w.length = (o + w.length) + 1 by omega]; rfl
   rw [e]
   simp only [List.take_succ_cons, List.cons_append, VRs]; exact ⟨v, _, rfl, h2, a⟩
  ·cases hr
theorem VRs.put0 {σ : Sg} : ∀ {d c r : List CV} {w v : List Value}, VRs σ d w -> VRs σ c v -> Zfh d c = some r -> VRs σ r (w ++ v.drop w.length) /\ w.length <= v.length
 | [], c, r, w, v, hd, h, hr => by
  simp only [VRs] at hd; subst hd
  simp only [Zfh] at hr; cases hr
  exact ⟨by simpa using h, Nat.zero_le _⟩
 | _ :: _, [], r, w, v, hd, h, hr => by simp only [Zfh] at hr; cases hr
 | x :: d, y :: c, r, w, v, hd, h, hr => by
  simp only [VRs] at hd h
  obtain ⟨a, w', rfl, h1, h2⟩ := hd
  obtain ⟨b, v', rfl, h3, h4⟩ := h
  simp only [Zfh] at hr
  split at hr
  ·rename_i q hq
   cases hr
   obtain ⟨e1, e2⟩ := VRs.put0 h2 h4 hq
   refine ⟨?_, by simpa using e2⟩
   simp only [List.cons_append, ZJH, List.drop_succ_cons, VRs]
   exact ⟨a, _, rfl, h1, e1⟩
  ·cases hr
theorem VRs.put {σ : Sg} {d : List CV} {w : List Value} (hd : VRs σ d w) : ∀ {o : Nat} {c r : List CV} {v : List Value}, VRs σ c v -> Zja d o c = some r →
  VRs σ r (v.take o ++ w ++ v.drop (o + w.length)) /\ o + w.length <= v.length
 | 0, c, r, v, h, hr => by
  simp only [Zja] at hr
  obtain ⟨a, b⟩ := VRs.put0 hd h hr
  exact ⟨by simpa using a, by omega⟩
 | o + 1, [], r, v, h, hr => by simp only [Zja] at hr; cases hr
 | o + 1, c :: cs, r, v, h, hr => by
  simp only [VRs] at h; obtain ⟨v, ws, rfl, h2, h3⟩ := h
  simp only [Zja] at hr
  split at hr
  ·rename_i q hq
   cases hr
   obtain ⟨a, b⟩ := VRs.put hd h3 hq
   refine ⟨?_, by simp only [ZJH]; omega⟩
   have e : (v :: ws).drop (o + 1 + w.length) = ws.drop (o + w.length) := by rw [show o + 1 + w.length = (o + w.length) + 1 by omega]; rfl
   rw [e]
   simp only [List.take_succ_cons, List.cons_append, VRs]; exact ⟨v, _, rfl, h2, a⟩
  ·cases hr
theorem VRs.rep {σ : Sg} {c : List CV} {v : List Value} (h : VRs σ c v) : ∀ (n : Nat), VRs σ (ZAA c n) (List.replicate n v).flatten
 | 0 => by simp [ZAA, VRs]
 | n + 1 => by simp only [ZAA, List.replicate_succ, List.flatten_cons]; exact h.app (h.rep n)
/-! ### Bytes -/
theorem Zp : ∀ (l n : Nat), (bys l n).length = l
 | 0, _ => rfl
 | l + 1, n => by simp [bys, Zp l]
theorem ZiJ (l : Nat) : pw (l + 1) = 256 * pw l := by unfold pw; rw [show 8 * (l + 1) = 8 * l + 8 by omega, Nat.pow_add, Nat.mul_comm]
theorem ZBD (l : Nat) : 0 < pw l := Nat.two_pow_pos _
theorem Zsw : pw 0 = 1 := rfl
theorem ZA1 (a b : Nat) : pw (a + b) = pw a * pw b := by unfold pw; rw [<- Nat.pow_add]; congr 1; omega
theorem ZbO : ∀ (l n i : Nat), i < l -> (bys l n)[i]? = some (UInt8.ofNat (Zhd n i))
 | 0, _, _, h => by omega
 | l + 1, n, 0, _ => by simp [bys, Zhd, pw]
 | l + 1, n, i + 1, h => by
  simp only [bys, List.getElem?_cons_succ]
  rw [ZbO l (n / 256) i (by omega)]
  simp only [Zhd]; rw [Nat.div_div_eq_div_mul, ZiJ]
theorem ZbU : ∀ (l n : Nat), bys l (n % pw l) = bys l n
 | 0, _ => rfl
 | l + 1, n => by
  simp only [bys]
  congr 1
  ·congr 1; rw [ZiJ, Nat.mod_mul_right_mod]
  ·rw [ZiJ]
   have : n % (256 * pw l) / 256 = n / 256 % pw l := by rw [Nat.mod_mul_right_div_self]
   rw [this, ZbU l]
theorem Zjj (n i : Nat) : Zhd n i < 256 := Nat.mod_lt _ (by decide)
theorem ZpM (n lo i : Nat) : Zhd (n / pw lo) i = Zhd n (lo + i) := by
 simp only [Zhd]; rw [Nat.div_div_eq_div_mul, ZA1]
theorem ZjG (l n lo : Nat) : (bys l n).drop lo = bys (l - lo) (n / pw lo) := by
 apply List.ext_getElem?
 intro i
 rw [ZJM]
 by_cases h : lo + i < l
 ·rw [ZbO _ _ _ h, ZbO _ _ _ (by omega), ZpM]
 ·rw [List.getElem?_eq_none (by rw [Zp]; omega), List.getElem?_eq_none (by rw [Zp]; omega)]
theorem Zd1 (l n k : Nat) (h : k <= l) : (bys l n).take k = bys k n := by
 apply List.ext_getElem?
 intro i
 by_cases hi : i < k
 ·rw [List.getElem?_take_of_lt hi, ZbO _ _ _ (by omega), ZbO _ _ _ hi]
 ·rw [List.getElem?_eq_none (by simp [Zp]; omega), List.getElem?_eq_none (by rw [Zp]; omega)]
theorem ZmB (l n lo len : Nat) (h : lo + len <= l) : ((bys l n).drop lo).take len = bys len (Zng n lo len) := by
 rw [ZjG, Zd1 _ _ _ (by omega)]; unfold Zng; rw [ZbU]
theorem ZeH (l1 n1 l2 n2 : Nat) : bys l1 n1 ++ bys l2 n2 = bys (l1 + l2) (ZjM l1 n1 n2) := by
 have e : bys (l1 + l2) (ZjM l1 n1 n2) = (bys (l1 + l2) (ZjM l1 n1 n2)).take l1 ++ (bys (l1 + l2) (ZjM l1 n1 n2)).drop l1 := (List.take_append_drop _ _).symm
 rw [e, Zd1 _ _ _ (by omega), ZjG]
 have h1 : ZjM l1 n1 n2 % pw l1 = n1 % pw l1 := by
  unfold ZjM; rw [Nat.mul_comm, Nat.add_mul_mod_self_left, Nat.mod_mod]
 have h2 : ZjM l1 n1 n2 / pw l1 = n2 := by
  unfold ZjM; rw [Nat.mul_comm, Nat.add_mul_div_left _ _ (ZBD l1), Nat.div_eq_of_lt (Nat.mod_lt _ (ZBD l1)), Nat.zero_add]
 rw [h2, show l1 + l2 - l1 = l2 by omega]
 congr 1
 rw [<- ZbU l1 (ZjM l1 n1 n2), h1, ZbU]
theorem Zu2 (l n lo len m : Nat) (h : lo + len <= l) : bys l (ZDE n lo len m l) = (bys l n).take lo ++ bys len m ++ (bys l n).drop (lo + len) := by
 have e : ZDE n lo len m l = ZjM lo n (ZjM len m ((n / pw (lo + len)) % pw (l - (lo + len)))) := by
  unfold ZDE ZjM
  rw [ZA1, Nat.add_mul, Nat.add_assoc]
  congr 2
  rw [Nat.mul_assoc, Nat.mul_comm (pw lo) (pw len)]
 rw [e]
 have e2 : l = lo + (len + (l - (lo + len))) := by omega
 conv => lhs; rw [e2]
 have e3 : lo + (len + (l - (lo + len))) - (lo + len) = l - (lo + len) := by omega
 rw [e3, <- ZeH, <- ZeH, ZbU, Zd1 _ _ _ (by omega), ZjG, ZJL]
theorem Zin (l n m : Nat) : bys l n = bys l m ↔ n % pw l = m % pw l := by
 constructor
 ·intro h
  induction l generalizing n m with
  | zero => rw [Zsw]; omega
  | succ l ih =>
   simp only [bys, List.cons.injEq] at h
   have h1 := congrArg UInt8.toNat h.1
   simp only [UInt8.toNat_ofNat'] at h1
   have h2 := ih _ _ h.2
   rw [ZiJ]
   rw [Nat.mod_mul, Nat.mod_mul, h2]
   omega
 ·intro h; rw [<- ZbU l n, h, ZbU]
theorem Zgq : ∀ (l : List UInt8), bys l.length (Zdl l) = l
 | [] => rfl
 | x :: l => by
  simp only [ZJH, bys, Zdl]
  have hx : x.toNat < 256 := x.toNat_lt
  congr 1
  ·rw [show (x.toNat + 256 * Zdl l) % 256 = x.toNat by omega]; simp
  ·rw [show (x.toNat + 256 * Zdl l) / 256 = Zdl l by omega]; exact Zgq l
end Go.Cx
namespace Go.Cx
open Go.RowKit (Below)
/-! ### Octets -/
theorem ZH8 {α : Type} (c0 c1 c2 c3 c4 c5 c6 c7 : α) (d : Nat) : sel c0 c1 c2 c3 c4 c5 c6 c7 d = match d with | 0 => c0 | 1 => c1 | 2 => c2 | 3 => c3 | 4 => c4 | 5 => c5 | 6 => c6 | _ => c7 := by
 unfold sel
 match d with
 | 0 => rfl | 1 => rfl | 2 => rfl | 3 => rfl | 4 => rfl | 5 => rfl | 6 => rfl | 7 => rfl | _ + 8 => rfl
theorem Zmh {α : Type} (f : α -> α) (o : O α) (d e : Nat) (hd : d < 8) (he : e < 8) : og (os f o d) e = if e = d then f (og o e) else og o e := by
 obtain ⟨c0, c1, c2, c3, c4, c5, c6, c7⟩ := o
 have hd' : d = 0 \/ d = 1 \/ d = 2 \/ d = 3 \/ d = 4 \/ d = 5 \/ d = 6 \/ d = 7 := by omega
 have he' : e = 0 \/ e = 1 \/ e = 2 \/ e = 3 \/ e = 4 \/ e = 5 \/ e = 6 \/ e = 7 := by omega
 rcases hd' with rfl | rfl | rfl | rfl | rfl | rfl | rfl | rfl <;> rcases he' with rfl | rfl | rfl | rfl | rfl | rfl | rfl | rfl <;> rfl
theorem ZkP {α : Type} (a : α) (d : Nat) : og (oe a) d = a := by
 show sel a a a a a a a a d = a
 rw [ZH8]; split <;> rfl
theorem Y8 (f : F) (i j : Nat) (v : CV) (hi : i < 512) (hj : j < 512) : Zc9 (ZrM f i v) j = if j = i then v else Zc9 f j := by
 obtain ⟨n, o⟩ := f
 unfold Zc9 ZrM
 simp only
 rw [Zmh _ _ _ _ (by omega) (by omega)]
 by_cases h1 : j / 64 = i / 64
 ·rw [if_pos h1, Zmh _ _ _ _ (by omega) (by omega)]
  by_cases h2 : j / 8 % 8 = i / 8 % 8
  ·rw [if_pos h2, Zmh _ _ _ _ (by omega) (by omega)]
   by_cases h3 : j % 8 = i % 8
   ·rw [if_pos h3, if_pos (by omega)]
   ·rw [if_neg h3, if_neg (by omega)]
  ·rw [if_neg h2, if_neg (by omega)]
 ·rw [if_neg h1, if_neg (by omega)]
theorem Zlu (f : F) (i : Nat) (v : CV) : (ZrM f i v).n = f.n := by obtain ⟨n, o⟩ := f; rfl
theorem Zud (f : F) (i : Nat) (v : CV) : Zml f i v = bif Nat.blt i f.n then ZrM f i v else f := by
 obtain ⟨n, o⟩ := f; unfold Zml ZrM; simp only
theorem ZD4 (f : F) (i : Nat) : fg f i = bif Nat.blt i f.n then Zc9 f i else .junk := by
 obtain ⟨n, o⟩ := f; unfold fg Zc9; simp only
theorem ZnP (n i : Nat) : Zc9 (F0 n) i = .junk := by unfold Zc9 F0; simp only; rw [ZkP, ZkP, ZkP]
theorem Z9 (h : H) (i j : Nat) (c : Ck) (hi : i < 32768) (hj : j < 32768) : ZL (YZ h i c) j = if j = i then c else ZL h j := by
 unfold ZL YZ
 rw [Zmh _ _ _ _ (by omega) (by omega)]
 by_cases h1 : j / 4096 = i / 4096
 ·rw [if_pos h1, Zmh _ _ _ _ (by omega) (by omega)]
  by_cases h2 : j / 512 % 8 = i / 512 % 8
  ·rw [if_pos h2, Zmh _ _ _ _ (by omega) (by omega)]
   by_cases h3 : j / 64 % 8 = i / 64 % 8
   ·rw [if_pos h3, Zmh _ _ _ _ (by omega) (by omega)]
    by_cases h4 : j / 8 % 8 = i / 8 % 8
    ·rw [if_pos h4, Zmh _ _ _ _ (by omega) (by omega)]
     by_cases h5 : j % 8 = i % 8
     ·rw [if_pos h5, if_pos (by omega)]
     ·rw [if_neg h5, if_neg (by omega)]
    ·rw [if_neg h4, if_neg (by omega)]
   ·rw [if_neg h3, if_neg (by omega)]
  ·rw [if_neg h2, if_neg (by omega)]
 ·rw [if_neg h1, if_neg (by omega)]
theorem ZCr (i : Nat) : ZL H0 i = .no := by unfold ZL H0; rw [ZkP, ZkP, ZkP, ZkP, ZkP]
/-! ### Frames -/
def DfR (σ : Sg) : List CV -> List Deferred -> Prop
 | [], l => l = []
 | .ptr r 0 :: cs, l => ∃ p t ds, σ r = some (p, t) /\ l = { target := .collected p, args := #[] } :: ds /\ DfR σ cs ds
 | .tup (.fn f first caps :: args) :: cs, l => ∃ us vs ws ds, VRs σ first us /\ VRs σ caps vs /\ VRs σ args ws /\ l = { target := .fn (.func f) vs.toArray, args := us.toArray ++ ws.toArray } :: ds /\ DfR σ cs ds
 | _ :: _, _ => False
noncomputable def dfs (fr : F) : List CV := match Zc9 fr ZW with | .tup l => l | _ => []
def NJ (fr : F) : Prop := ∀ i, fr.n <= i -> i < 511 -> Zc9 fr i = .junk
structure FrR (σ : Sg) (fr : F) (a : Act) : Prop where
 sz : fr.n = a.tmps.size
 small : a.tmps.size <= 511
 val : ∀ i v, a.tmps[i]? = some v -> VR σ (Zc9 fr i) v
 df : DfR σ (dfs fr) a.defers
 nj : NJ fr
theorem DfR.mono {σ τ : Sg} (h : Le σ τ) : ∀ {l : List CV} {ds : List Deferred}, DfR σ l ds -> DfR τ l ds
 | [], _, hd => hd
 | c :: l, ds, hd => by
  unfold DfR at hd ⊢
  split at hd
  ·exact hd
  ·obtain ⟨p, t, ds', h1, h2, h3⟩ := hd; exact ⟨p, t, ds', h _ _ h1, h2, DfR.mono h h3⟩
  ·obtain ⟨us, vs, ws, ds', h1, h2, h3, h4, h5⟩ := hd; exact ⟨us, vs, ws, ds', h1.mono h, h2.mono h, h3.mono h, h4, DfR.mono h h5⟩
  ·exact hd.elim
theorem FrR.mono {σ τ : Sg} (h : Le σ τ) {fr : F} {a : Act} (k : FrR σ fr a) : FrR τ fr a := ⟨k.sz, k.small, fun i v hv => (k.val i v hv).mono h, k.df.mono h, k.nj⟩
/-! ### Blocks -/
def ZdF (b : UInt8) : Value := .int .u8 (b.toNat : Nat)
def Row (w : World) (p t : Nat) (vs : List Value) (fz : Bool) : Prop :=
 ∃ arr ty lo hi, w.heap[p]? = some (.cells arr ty (lo, hi)) /\ arr.size = t /\ (∃ spare, arr.toList = vs ++ spare) /\ ((lo = 0 /\ hi = 0) \/ (fz = true /\ t <= lo))
def ZrJ (w : World) (p ty : Nat) : Prop := ∃ arr z, w.heap[p]? = some (.cells arr ty z)
def ZG (σ : Sg) : List Ent -> List MapEntry -> Prop
 | [], ms => ms = []
 | e :: es, ms => ∃ m ns, ms = m :: ns /\ VR σ e.key m.key /\ VR σ e.val m.val /\ m.born = e.born /\ ZG σ es ns
theorem ZG.mono {σ τ : Sg} (h : Le σ τ) : ∀ {l : List Ent} {m : List MapEntry}, ZG σ l m -> ZG τ l m
 | [], _, k => k
 | e :: l, _, k => by unfold ZG at k ⊢; obtain ⟨m, ns, h1, h2, h3, h4, h5⟩ := k; exact ⟨m, ns, h1, h2.mono h, h3.mono h, h4, ZG.mono h h5⟩
def Zui : Nat -> LoopState | 0 => .ready | 1 => .busy | 2 => .done | _ => .exhausted
def Y2 (σ : Sg) (w : World) (p t : Nat) : Ck -> Prop
 | .no => True
 | .cells cs => ∃ vs, VRs σ cs vs /\ Row w p t vs false
 | .bytes l n => Row w p t ((bys l n).map ZdF) true /\ ZrJ w p u8T
 | .map es c => ∃ ms, ZG σ es ms /\ w.heap[p]? = some (.map ms.toArray c)
 | .iter m s seen st => ∃ q u, σ m = some (q, u) /\ w.heap[p]? = some (.mapIter (some q) s seen.toArray st)
 | .siter l n pos => w.heap[p]? = some (.stringIter ⟨(bys l n).toArray⟩ pos)
 | .iter0 => w.heap[p]? = some (.mapIter none 0 #[] 0)
 | .dfr => w.heap[p]? = some (.deferred (some []))
 | .loop fn fr ps assign body db st pend => ∃ q u tm g, σ db = some (q, u) /\ (fr.n = tm.size /\ tm.size <= 511 /\ NJ fr) /\ (∀ i v, tm[i]? = some v -> VR σ (Zc9 fr i) v) ∧
   w.heap[p]? = some (.loop { state := Zui st, pending := pend, fn := g, tmps := tm, params := ps.toArray, assign := assign, body := body, defers := q })
 | .tcells cs => ∃ vs, VRs σ cs vs /\ Row w p t vs false /\ ZrJ w p ZIs /\ cs.length = t
theorem Y2.mono {σ τ : Sg} (h : Le σ τ) {w : World} {p t : Nat} : ∀ {c : Ck}, Y2 σ w p t c -> Y2 τ w p t c
 | .no, k => k
 | .cells _, ⟨vs, h1, h2⟩ => ⟨vs, h1.mono h, h2⟩
 | .bytes _ _, k => k
 | .map _ _, ⟨ms, h1, h2⟩ => ⟨ms, h1.mono h, h2⟩
 | .iter _ _ _ _, ⟨q, u, h1, h2⟩ => ⟨q, u, h _ _ h1, h2⟩
 | .siter _ _ _, k => k
 | .iter0, k => k
 | .dfr, k => k
 | .loop _ _ _ _ _ _ _ _, ⟨q, u, tm, g, h1, h2, h3, h4⟩ => ⟨q, u, tm, g, h _ _ h1, h2, fun i v hv => (h3 i v hv).mono h, h4⟩
 | .tcells _, ⟨vs, h1, h2⟩ => ⟨vs, h1.mono h, h2⟩
theorem Y2.congr {σ : Sg} {w w' : World} {p t : Nat} (h : w'.heap[p]? = w.heap[p]?) : ∀ {c : Ck}, Y2 σ w p t c -> Y2 σ w' p t c
 | .no, k => k
 | .cells _, ⟨vs, h1, h2⟩ => ⟨vs, h1, by unfold Row at *; rw [h]; exact h2⟩
 | .bytes _ _, k => by unfold Y2 Row ZrJ at *; rw [h]; exact k
 | .map _ _, ⟨ms, h1, h2⟩ => ⟨ms, h1, by rw [h]; exact h2⟩
 | .iter _ _ _ _, ⟨q, u, h1, h2⟩ => ⟨q, u, h1, by rw [h]; exact h2⟩
 | .siter _ _ _, k => by unfold Y2 at *; rw [h]; exact k
 | .iter0, k => by unfold Y2 at *; rw [h]; exact k
 | .dfr, k => by unfold Y2 at *; rw [h]; exact k
 | .loop _ _ _ _ _ _ _ _, ⟨q, u, tm, g, h1, h2, h3, h4⟩ => ⟨q, u, tm, g, h1, h2, h3, by rw [h]; exact h4⟩
 | .tcells _, ⟨vs, h1, h2, h3, h4⟩ => ⟨vs, h1, by unfold Row at *; rw [h]; exact h2, by unfold ZrJ at *; rw [h]; exact h3, h4⟩
/-! ### States -/
structure Rel (w0 : World) (σ : Sg) (hp : H) (n : Nat) (w : World) : Prop where
 hold : ∀ i, i < 32768 -> ZL hp i ≠ .no -> ∃ p t, σ i = some (p, t) /\ Y2 σ w p t (ZL hp i)
 apart : ∀ i j p t q u, i < 32768 -> j < 32768 -> ZL hp i ≠ .no -> ZL hp j ≠ .no -> i ≠ j -> σ i = some (p, t) -> σ j = some (q, u) -> p ≠ q
 old : ∀ i p t, σ i = some (p, t) -> i < 32768 /\ w0.heap.size <= p /\ p < w.heap.size
 fresh : ∀ i, idN n <= i -> i < Yx n -> σ i = none
 lim : Yx n <= 32768
 below : Below w0.heap.size w0 w
def Ex (n : Nat) (σ τ : Sg) : Prop := Le σ τ /\ ∀ i, ¬ (idN n <= i /\ i < Yx n) -> τ i = σ i
theorem Ex.refl (n : Nat) (σ : Sg) : Ex n σ σ := ⟨Le.refl σ, fun _ _ => rfl⟩
variable {w0 : World} {σ : Sg} {hp : H} {n : Nat} {w : World}
theorem Rel.at (h : Rel w0 σ hp n w) {i p t : Nat} (hs : σ i = some (p, t)) {c : Ck} (hc : ZL hp i = c) (hn : c ≠ .no) : Y2 σ w p t c := by
 have hi := (h.old i p t hs).1
 obtain ⟨q, u, h1, h2⟩ := h.hold i hi (by rw [hc]; exact hn)
 rw [hs] at h1; cases h1; rw [hc] at h2; exact h2
theorem Rel.world (h : Rel w0 σ hp n w) {w' : World} (hs : w.heap.size <= w'.heap.size) (hb : ∀ k, k < w.heap.size -> w'.heap[k]? = w.heap[k]?) (ho : w'.os = w.os) (ht : w'.tape = w.tape) (hu : w'.output = w.output) : Rel w0 σ hp n w' :=
 ⟨fun i hi hc => let ⟨p, t, h1, h2⟩ := h.hold i hi hc; ⟨p, t, h1, h2.congr (hb p (h.old i p t h1).2.2)⟩, h.apart,
  fun i p t hs' => let ⟨a, b, c⟩ := h.old i p t hs'; ⟨a, b, Nat.lt_of_lt_of_le c hs⟩, h.fresh, h.lim, h.below.trans ⟨ho, ht, hu, hs, fun k hk => hb k (Nat.lt_of_lt_of_le hk h.below.size)⟩⟩
theorem Rel.drew (h : Rel w0 σ hp n w) (m : Nat) : Rel w0 σ hp n { w with drawn := m } := h.world (ZJd _) (fun _ _ => rfl) rfl rfl rfl
theorem Rel.upd (h : Rel w0 σ hp n w) {i p t : Nat} (hs : σ i = some (p, t)) (hl : ZL hp i ≠ .no) {w' : World} (hz : w'.heap.size = w.heap.size) (hb : ∀ k, k ≠ p -> w'.heap[k]? = w.heap[k]?)
  (ho : w'.os = w.os) (ht : w'.tape = w.tape) (hu : w'.output = w.output) {c : Ck} (hc : Y2 σ w' p t c) : Rel w0 σ (YZ hp i c) n w' := by
 have hi := (h.old i p t hs).1
 refine ⟨fun j hj hjc => ?_, fun j k q u r v hj hk hjc hkc hne h1 h2 => ?_, fun j q u hj => ?_, h.fresh, h.lim, ?_⟩
 ·rw [Z9 _ _ _ _ hi hj] at hjc ⊢
  by_cases e : j = i
  ·subst e; rw [if_pos rfl]; exact ⟨p, t, hs, hc⟩
  ·rw [if_neg e] at hjc ⊢
   obtain ⟨q, u, h1, h2⟩ := h.hold j hj hjc
   exact ⟨q, u, h1, h2.congr (hb q (fun e' => h.apart j i q u p t hj hi hjc hl e h1 hs e'))⟩
 ·have key : ∀ j, j < 32768 -> ZL (YZ hp i c) j ≠ .no -> ZL hp j ≠ .no := fun j hj hjc => by
   rw [Z9 _ _ _ _ hi hj] at hjc
   by_cases e : j = i
   ·subst e; exact hl
   ·rw [if_neg e] at hjc; exact hjc
  exact h.apart j k q u r v hj hk (key j hj hjc) (key k hk hkc) hne h1 h2
 ·obtain ⟨a, b, c⟩ := h.old j q u hj; exact ⟨a, b, by rw [hz]; exact c⟩
 ·exact h.below.trans ⟨ho, ht, hu, by rw [hz]; exact ZJd _, fun k hk => hb k (fun e => by have := (h.old i p t hs).2.1; omega)⟩
theorem Rel.kill (h : Rel w0 σ hp n w) {i : Nat} (hi : i < 32768) : Rel w0 σ (YZ hp i .no) n w := by
 refine ⟨fun j hj hjc => ?_, fun j k q u r v hj hk hjc hkc hne h1 h2 => ?_, h.old, h.fresh, h.lim, h.below⟩
 ·rw [Z9 _ _ _ _ hi hj] at hjc ⊢
  by_cases e : j = i
  ·rw [if_pos e] at hjc; exact absurd rfl hjc
  ·rw [if_neg e] at hjc ⊢; exact h.hold j hj hjc
 ·have key : ∀ j, j < 32768 -> ZL (YZ hp i .no) j ≠ .no -> ZL hp j ≠ .no := fun j hj hjc => by
   rw [Z9 _ _ _ _ hi hj] at hjc
   by_cases e : j = i
   ·rw [if_pos e] at hjc; exact absurd rfl hjc
   ·rw [if_neg e] at hjc; exact hjc
  exact h.apart j k q u r v hj hk (key j hj hjc) (key k hk hkc) hne h1 h2
def ZnF (σ : Sg) (i p t : Nat) : Sg := fun j => if j = i then some (p, t) else σ j
theorem Le.upd {i p t : Nat} (h : σ i = none) : Le σ (ZnF σ i p t) := fun j x hj => by
 unfold ZnF; rw [if_neg (by rintro rfl; rw [h] at hj; cases hj)]; exact hj
theorem Zad (i p t : Nat) : ZnF σ i p t i = some (p, t) := by simp [ZnF]
theorem ZkY (h : idN n < Yx n) (hl : Yx n <= 32768) : idN (n + 1) = idN n + 1 /\ Yx (n + 1) = Yx n := by
 unfold idN Yx at *; omega
theorem Rel.name (h : Rel w0 σ hp n w) {i p t m : Nat} (hi : i < 32768) (hf : σ i = none) (hp1 : w0.heap.size <= p) (hp2 : p < w.heap.size)
  (hno : ∀ j q u, j < 32768 -> ZL hp j ≠ .no -> σ j = some (q, u) -> q ≠ p) {c : Ck} (hc : Y2 (ZnF σ i p t) w p t c)
  (hm1 : Yx m = Yx n) (hm : ∀ j, idN m <= j -> j < Yx m -> j ≠ i /\ idN n <= j) : Rel w0 (ZnF σ i p t) (YZ hp i c) m w := by
 refine ⟨fun j hj hjc => ?_, fun j k q u r v hj hk hjc hkc hne h1 h2 => ?_, fun j q u hj => ?_, fun j hj hj2 => ?_, by rw [hm1]; exact h.lim, h.below⟩
 ·rw [Z9 _ _ _ _ hi hj] at hjc ⊢
  by_cases e : j = i
  ·subst e; rw [if_pos rfl]; exact ⟨p, t, Zad _ _ _, hc⟩
  ·rw [if_neg e] at hjc ⊢
   obtain ⟨q, u, h1, h2⟩ := h.hold j hj hjc
   exact ⟨q, u, Le.upd hf _ _ h1, h2.mono (Le.upd hf)⟩
 ·rw [Z9 _ _ _ _ hi hj] at hjc
  rw [Z9 _ _ _ _ hi hk] at hkc
  unfold ZnF at h1 h2
  by_cases e1 : j = i
  ·subst e1
   have e2 : k ≠ j := fun e => hne e.symm
   rw [if_pos rfl] at h1; cases h1
   rw [if_neg e2] at h2 hkc
   exact (hno k r v hk hkc h2).symm
  ·rw [if_neg e1] at h1 hjc
   by_cases e2 : k = i
   ·subst e2; rw [if_pos rfl] at h2; cases h2; exact hno j q u hj hjc h1
   ·rw [if_neg e2] at h2 hkc; exact h.apart j k q u r v hj hk hjc hkc hne h1 h2
 ·unfold ZnF at hj
  split at hj
  ·rename_i e; subst e; cases hj; exact ⟨hi, hp1, hp2⟩
  ·exact h.old j q u hj
 ·obtain ⟨a, b⟩ := hm j hj hj2
  unfold ZnF; rw [if_neg a]; exact h.fresh j b (by rw [<- hm1]; exact hj2)
theorem Rel.push (h : Rel w0 σ hp n w) (o : Obj) : Rel w0 σ hp n { w with heap := w.heap.push o } :=
 h.world (by simp) (fun k hk => by show (w.heap.push o)[k]? = _; rw [Array.getElem?_push, if_neg (by omega)]) rfl rfl rfl
theorem Rel.new (h : Rel w0 σ hp n w) {i t m : Nat} (hi : i < 32768) (hf : σ i = none) (o : Obj) {c : Ck} (hc : ∀ τ, Le σ τ -> τ i = some (w.heap.size, t) -> Y2 τ { w with heap := w.heap.push o } w.heap.size t c)
  (hm1 : Yx m = Yx n) (hm : ∀ j, idN m <= j -> j < Yx m -> j ≠ i /\ idN n <= j) :
  Rel w0 (ZnF σ i w.heap.size t) (YZ hp i c) m { w with heap := w.heap.push o } :=
 (h.push o).name hi hf h.below.size (by show _ < (w.heap.push o).size; simp) (fun j q u hj hjc hq => by have := (h.old j q u hq).2.2; omega) (hc _ (Le.upd hf) (Zad _ _ _)) hm1 hm
theorem ZN (w : World) (o : Obj) : ({ w with heap := w.heap.push o } : World).heap[w.heap.size]? = some o := by
 show (w.heap.push o)[w.heap.size]? = _; simp
end Go.Cx
namespace Go.Cx
open Go.RowKit (Below)
/-! ### Outcomes -/
def Zv (r : Res) (φ : Out -> Prop) : Prop := ∃ l, r = some l /\ ∀ o ∈ l, φ o
theorem Zv.no {φ : Out -> Prop} (h : Zv none φ) : False := by obtain ⟨l, h, _⟩ := h; cases h
theorem Zv.cat {a b : Res} {φ : Out -> Prop} (h : Zv (Res.cat a b) φ) : Zv a φ /\ Zv b φ := by
 obtain ⟨l, h, hl⟩ := h
 unfold Res.cat at h
 split at h
 ·cases h
 ·split at h
  ·cases h
  ·cases h
   exact ⟨⟨_, rfl, fun o ho => hl o (List.mem_append_left _ ho)⟩, ⟨_, rfl, fun o ho => hl o (List.mem_append_right _ ho)⟩⟩
theorem Zbt {α : Type} {b : Bool} {x : Option α} {y : α} (h : (bif b then x else none) = some y) : b = true /\ x = some y :=
 match b, h with
 | true, h => ⟨rfl, h⟩
theorem Zv.bif {b : Bool} {x : Res} {φ : Out -> Prop} (h : Zv (bif b then x else none) φ) : b = true /\ Zv x φ :=
 match b, h with
 | true, h => ⟨rfl, h⟩
 | false, h => h.no.elim
/-! ### The program's tables -/
theorem Za7 {α : Type} : ∀ (l : List α) (i : Nat), Zeb l i = l[i]?
 | [], _ => by simp [Zeb]
 | a :: l, 0 => by simp [Zeb]
 | a :: l, i + 1 => by simp [Zeb, Za7 l i]
theorem Zoi {α : Type} : ∀ (n : Nat) (l : List α), Zrw n l = l.drop n
 | 0, _ => by simp [Zrw]
 | n + 1, [] => by simp [Zrw]
 | n + 1, a :: l => by simp [Zrw, Zoi n l]
theorem ZBA {α : Type} (l : List α) : ∀ j, blk l j = l.drop (64 * j)
 | 0 => by simp [blk]
 | j + 1 => by simp only [blk]; rw [Zoi, ZBA l j, List.drop_drop]; congr 1
theorem Zjx {α : Type} (l : List α) (i : Nat) : ZHk l i = l[i]? := by
 unfold ZHk; rw [Za7, ZBA, ZJM]; congr 1; omega
section
variable {P : Program}
theorem YQ {t : Nat} {i : TypeInfo} (h : tyI P t = some i) : P.info? t = some i := by
 unfold tyI at h
 rw [Zjx, ZJc] at h
 have hlt := (Array.getElem?_eq_some_iff.1 h).1
 unfold Tables.info?
 rw [if_pos hlt]; exact h
theorem Zf {t : Nat} {d : TypeDesc} (h : tyD P t = some d) : P.underlying t = some d := by
 unfold tyD at h
 split at h
 ·rename_i i hi
  have := YQ hi
  split at h
  ·rename_i nm u hd
   split at h
   ·rename_i j hj
    cases h
    unfold Program.underlying
    obtain ⟨ds, a1, a2, a3, a4, a5, a6, a7, a8, a9⟩ := i
    simp only at hd; subst hd
    rw [this]; simp [YQ hj]
   ·cases h
  ·rename_i hn
   cases h
   unfold Program.underlying
   rw [this]
   split
   ·rename_i heq; cases heq; exact absurd rfl (hn _ _)
   ·rename_i heq; cases heq; rfl
   ·rename_i heq; cases heq
 ·cases h
theorem ZdZ {t n : Nat} (h : Zf9 P t = some n) : ∃ i, P.info? t = some i /\ i.size = n := by
 unfold Zf9 at h
 split at h
 ·rename_i i hi; cases h; exact ⟨i, YQ hi, rfl⟩
 ·cases h
theorem YF {t n : Nat} (h : Zf9 P t = some n) (w : World) : (sizeOf t).run P w = .ok n w := by
 obtain ⟨i, hi, rfl⟩ := ZdZ h
 simp [sizeOf, typeInfo, hi]
theorem ZdP {t : Nat} {d : TypeDesc} (h : P.underlying t = some d) (w : World) : (isAgg t).run P w = .ok (Zz6 d) w := by
 simp only [isAgg, go_sem, run_underlying h]
 cases d <;> simp [Zz6, run_underlying h]
theorem ZcE {t n : Nat} {b : Bool} (h : tyA P t = some (b, n)) : ∃ d, P.underlying t = some d /\ Zz6 d = b /\ Zf9 P t = some n := by
 unfold tyA at h
 split at h
 ·rename_i d hd
  split at h
  ·rename_i m hm; cases h; exact ⟨d, Zf hd, rfl, hm⟩
  ·cases h
 ·cases h
theorem Zci {t : Nat} (h : Zem P t = true) : P.underlying t = some (.int .u8) := by
 unfold Zem at h
 cases hq : Nat.beq t u8T
 ·rw [hq] at h; cases h
 rw [hq, cond_true] at h
 split at h
 ·rename_i hd; exact Zf hd
 ·cases h
theorem Zds {t : Nat} (h : Zem P t = true) : t = u8T := by
 unfold Zem at h
 cases hq : Nat.beq t u8T
 ·rw [hq] at h; cases h
 exact ZJo hq
theorem ZH {s : Sem Value} {v : Value} {w w' : World} (h : s.run P w = .ok v w') : (do pure (Next.value (<- s)) : Sem Next).run P w = .ok (.value v) w' := by
 have : (do pure (Next.value (<- s)) : Sem Next) = s.bind (fun v => Sem.pure (Next.value v)) := rfl
 rw [this, Sem.run_bind', h]; rfl
theorem Zbw (a : Addr) (vs : List Value) (w : World) (h : ∀ j v, vs[j]? = some v -> w.cell? (a.add j) = some v) : (loadCells a vs.length).run P w = .ok vs.toArray w := by
 have key : ∀ (n i : Nat) (acc : Array Value), i + n = vs.length -> (loadCellsFrom a i n acc).run P w = .ok (acc ++ (vs.drop i).toArray) w := by
  intro n
  induction n with
  | zero => intro i acc h'; simp [loadCellsFrom, List.drop_eq_nil_of_le (show vs.length <= i by omega)]
  | succ n ih =>
   intro i acc h'
   have hlt : i < vs.length := by omega
   have hc := h i vs[i] (ZJq hlt)
   have e : (loadCellsFrom a i (n + 1) acc) = (load (a.add i)).bind (fun v => loadCellsFrom a (i + 1) n (acc.push v)) := rfl
   rw [e, Sem.run_bind']
   have e2 : (load (a.add i)).run P w = .ok vs[i] w := by simp [load, Sem.run, hc]
   rw [e2]
   simp only [Result.andThen]
   rw [ih (i + 1) _ (by omega)]
   congr 1
   rw [List.drop_eq_getElem_cons hlt]
   simp
 have := key vs.length 0 #[] (by omega)
 simpa [loadCells] using this
theorem add_eq (b o n : Nat) : Addr.add ⟨b, o, none⟩ n = ⟨b, o + n, none⟩ := by unfold Addr.add; split <;> simp_all
theorem Zgg {t : Nat} {d : TypeDesc} (hd : P.underlying t = some d) (ha : Zz6 d = false) {b o : Nat} {v : Value} {w : World} (h : w.cell? ⟨b, o, none⟩ = some v) : (loadVar t ⟨b, o, none⟩).run P w = .ok v w := by
 have e : loadVar t ⟨b, o, none⟩ = (isAgg t).bind (fun x => if x then ((sizeOf t).bind fun k => (loadCells ⟨b, o, none⟩ k).bind fun vs => Sem.pure (Value.agg vs)) else load ⟨b, o, none⟩) := by
  unfold loadVar; rfl
 rw [e, Sem.run_bind', ZdP hd, ha]
 simp [Result.andThen, load, Sem.run, h]
theorem ZgZ {t n : Nat} {d : TypeDesc} (hd : P.underlying t = some d) (ha : Zz6 d = true) (hn : Zf9 P t = some n) {b o : Nat} {vs : List Value} {w : World} (hl : vs.length = n)
  (h : ∀ j v, vs[j]? = some v -> w.cell? ⟨b, o + j, none⟩ = some v) : (loadVar t ⟨b, o, none⟩).run P w = .ok (.agg vs.toArray) w := by
 have e : loadVar t ⟨b, o, none⟩ = (isAgg t).bind (fun x => if x then ((sizeOf t).bind fun k => (loadCells ⟨b, o, none⟩ k).bind fun vs => Sem.pure (Value.agg vs)) else load ⟨b, o, none⟩) := by
  unfold loadVar; rfl
 rw [e, Sem.run_bind', ZdP hd, ha]
 simp only [Result.andThen, if_true]
 rw [Sem.run_bind', YF hn]
 simp only [Result.andThen]
 rw [Sem.run_bind', <- hl, Zbw _ vs w (fun j v hj => by rw [add_eq]; exact h j v hj)]
 rfl
end
/-! ### Reading -/
theorem Row.cell {w : World} {p t : Nat} {vs : List Value} {fz : Bool} (h : Row w p t vs fz) {i : Nat} {v : Value} (hv : vs[i]? = some v) : w.cell? ⟨p, i, none⟩ = some v /\ w.frozen? ⟨p, i, none⟩ = false /\ i < t := by
 obtain ⟨arr, ty, lo, hi, h1, h2, ⟨sp, h3⟩, h4⟩ := h
 have hi' : i < vs.length := (List.getElem?_eq_some_iff.1 hv).1
 have ha : arr[i]? = some v := by rw [<- ZJc, h3, ZJF hi']; exact hv
 have hlt : i < arr.size := (Array.getElem?_eq_some_iff.1 ha).1
 refine ⟨by simp [World.cell?, h1, ha], ?_, by omega⟩
 simp only [World.frozen?, h1]
 rcases h4 with ⟨rfl, rfl⟩ | ⟨_, h4⟩ <;> simp <;> omega
theorem Zks (σ : Sg) : ∀ (l n : Nat), VRs σ (ZgK n l) ((bys l n).map ZdF)
 | 0, _ => by simp [ZgK, bys, VRs]
 | l + 1, n => by
  simp only [ZgK, bys, ZJw, VRs]
  refine ⟨_, _, rfl, ?_, Zks σ l (n / 256)⟩
  simp only [VR, ZdF, kc]
  congr 1
  rw [UInt8.toNat_ofNat']; have : n % 256 < 256 := Nat.mod_lt _ (by decide)
  simp
section
variable {w0 : World} {σ : Sg} {hp : H} {n : Nat} {w : World}
theorem ZlY (hR : Rel w0 σ hp n w) {b o p t : Nat} {c : CV} (h : rd1 hp b o = some c) (hs : σ b = some (p, t)) : ∃ v, w.cell? ⟨p, o, none⟩ = some v /\ VR σ c v := by
 unfold rd1 at h
 split at h
 ·rename_i cs hc
  obtain ⟨vs, h1, h2⟩ := hR.at hs hc (by simp)
  obtain ⟨y, hy, hr⟩ := h1.get h
  exact ⟨y, (h2.cell hy).1, hr⟩
 ·rename_i l m hc
  obtain ⟨h1, h⟩ := Zbt h
  have h1 : o < l := by simpa [Nat.blt_eq] using h1
  cases h
  have h2 := (hR.at hs hc (by simp)).1
  have hb : ((bys l m).map ZdF)[o]? = some (ZdF (UInt8.ofNat (Zhd m o))) := by rw [ZJj, ZbO _ _ _ h1]; rfl
  refine ⟨_, (Row.cell h2 hb).1, ?_⟩
  simp only [VR, ZdF, kc]
  congr 1
  rw [UInt8.toNat_ofNat']; have := Zjj m o
  simp; first | done | omega
 ·rename_i cs hc
  obtain ⟨vs, h1, h2, _⟩ := hR.at hs hc (by simp)
  obtain ⟨y, hy, hr⟩ := h1.get h
  exact ⟨y, (h2.cell hy).1, hr⟩
 ·cases h
theorem ZlT (hR : Rel w0 σ hp n w) {b o p t m : Nat} {cs : List CV} (h : rdN hp b o m = some cs) (hs : σ b = some (p, t)) :
  ∃ vs, vs.length = m /\ VRs σ cs vs /\ ∀ j v, vs[j]? = some v -> w.cell? ⟨p, o + j, none⟩ = some v := by
 unfold rdN at h
 split at h
 ·rename_i old hc
  obtain ⟨vs, h1, h2⟩ := hR.at hs hc (by simp)
  obtain ⟨h3, h4, _⟩ := (h1.drop (n := o)).take h
  refine ⟨_, by rw [ZJp]; omega, h3, fun j v hj => ?_⟩
  have hlt := (List.getElem?_eq_some_iff.1 hj).1
  rw [List.getElem?_take_of_lt (by simp at hlt; omega), ZJM] at hj
  exact (h2.cell hj).1
 ·rename_i l x hc
  obtain ⟨h1, h⟩ := Zbt h
  have h1 : o + m <= l := by simpa [Nat.ble_eq] using h1
  cases h
  have h2 := (hR.at hs hc (by simp)).1
  refine ⟨_, by rw [ZJx, Zp], Zks σ m (x / pw o), fun j v hj => ?_⟩
  have hlt := (List.getElem?_eq_some_iff.1 hj).1
  rw [ZJx, Zp] at hlt
  refine (Row.cell h2 ?_).1
  rw [ZJj, ZbO _ _ _ hlt] at hj
  rw [ZJj, ZbO _ _ _ (by omega), <- ZpM]; exact hj
 ·rename_i old hc
  obtain ⟨vs, h1, h2, _⟩ := hR.at hs hc (by simp)
  obtain ⟨h3, h4, _⟩ := (h1.drop (n := o)).take h
  refine ⟨_, by rw [ZJp]; omega, h3, fun j v hj => ?_⟩
  have hlt := (List.getElem?_eq_some_iff.1 hj).1
  rw [List.getElem?_take_of_lt (by simp at hlt; omega), ZJM] at hj
  exact (h2.cell hj).1
 ·cases h
end
end Go.Cx
namespace Go.Cx
open Go.RowKit (Below)
section
variable {P : Program} {w0 : World} {σ : Sg} {hp : H} {n : Nat} {w : World} {fr : F} {ev : Operand -> Value} {k : CV -> Res} {φ : Out -> Prop}
def QR (P : Program) (σ : Sg) (w : World) (s : Sem Value) (k : CV -> Res) (φ : Out -> Prop) : Prop := ∃ c v, s.run P w = .ok v w /\ VR σ c v /\ Zv (k c) φ
theorem ZIq (hR : Rel w0 σ hp n w) (hL : ∀ x, VR σ (lk fr x) (ev x)) {t : Nat} {a : Operand} (h : Zv (ZmL P fr hp t a k) φ) : QR P σ w (Instr.loadAt t (ev a)) k φ := by
 unfold ZmL at h
 have ha := hL a
 split at h
 ·rename_i b o he
  rw [he] at ha
  simp only [VR] at ha
  obtain ⟨p, u, hs, hv⟩ := ha
  have e : Instr.loadAt t (ev a) = loadVar t ⟨p, o, none⟩ := by rw [hv]; rfl
  split at h
  ·rename_i m hA
   obtain ⟨d, h1, h2, h3⟩ := ZcE hA
   split at h
   ·rename_i cs hc
    obtain ⟨vs, g1, g2, g3⟩ := ZlT hR hc hs
    exact ⟨_, _, by rw [e]; exact ZgZ h1 h2 h3 g1 g3, by simp only [VR]; exact ⟨vs, g2, rfl⟩, h⟩
   ·exact h.no.elim
  ·rename_i m hA
   obtain ⟨d, h1, h2, h3⟩ := ZcE hA
   split at h
   ·rename_i c hc
    obtain ⟨v, g1, g2⟩ := ZlY hR hc hs
    exact ⟨_, _, by rw [e]; exact Zgg h1 h2 g1, g2, h⟩
   ·exact h.no.elim
  ·exact h.no.elim
 ·exact h.no.elim
theorem ZI8 (hL : ∀ x, VR σ (lk fr x) (ev x)) {c a b : Operand} (h : Zv (Zve fr c a b k) φ) : ∃ cv v, (do pure (Next.value (if <- asBool (ev c) then ev a else ev b)) : Sem Next).run P w = .ok (.value v) w /\ VR σ cv v /\ Zv (k cv) φ := by
 unfold Zve at h
 have hc := hL c
 split at h
 ·rename_i he; rw [he] at hc; simp only [VR] at hc
  exact ⟨_, _, by rw [hc]; rfl, hL a, h⟩
 ·rename_i he; rw [he] at hc; simp only [VR] at hc
  exact ⟨_, _, by rw [hc]; rfl, hL b, h⟩
 ·exact h.no.elim
/-! ### Numbers -/
theorem Zb6 {a b : IntKind} (h : kn a = kn b) : a = b := by cases a <;> cases b <;> first | rfl | (simp [kn] at h)
theorem ZjP (k : IntKind) : kc (kn k) = k := by cases k <;> rfl
theorem kc_lt (k : Nat) : ∃ j, j <= 7 /\ kc k = kc j /\ hiN k = hiN j /\ loN k = loN j := by
 by_cases h : k <= 7
 ·exact ⟨k, h, rfl, rfl, rfl⟩
 ·refine ⟨7, ZJd _, ?_, ?_, ?_⟩ <;> (obtain ⟨m, rfl⟩ : ∃ m, k = m + 8 := ⟨k - 8, by omega⟩) <;> rfl
theorem ZbJ (k : Nat) (x : Int) : Zfi k x = (kc k).wrap x := by
 unfold Zfi
 cases hf : fits k x
 ·rfl
 simp only [cond_true]
 obtain ⟨j, hj, e1, e2, e3⟩ := kc_lt k
 have hf' : fits j x = true := by unfold fits at *; rw [<- e2, <- e3]; exact hf
 rw [e1]
 have hj' : j = 0 \/ j = 1 \/ j = 2 \/ j = 3 \/ j = 4 \/ j = 5 \/ j = 6 \/ j = 7 := by omega
 have hb : -(loN j : Int) <= x /\ x <= (hiN j : Int) := by
  unfold fits at hf'
  cases x with
  | ofNat m => have := ZJA hf'; simp; omega
  | negSucc m => have : m < loN j := (by simpa [Nat.blt_eq] using hf'); omega
 rcases hj' with rfl | rfl | rfl | rfl | rfl | rfl | rfl | rfl <;> simp only [loN, hiN, kc] at hb ⊢ <;> simp [IntKind.wrap, IntKind.bits, IntKind.signed] <;> omega
theorem Zbd {a b : Int} : ibq a b = (a == b) := by
 cases a with
 | ofNat a => cases b with
  | ofNat b =>
   simp only [ibq]
   by_cases h : a = b
   ·subst h; simp
   ·rw [show Nat.beq a b = false by cases hb : Nat.beq a b; rfl; exact absurd (ZJo hb) h]; symm; simp; omega
  | negSucc b => rfl
 | negSucc a => cases b with
  | ofNat b => rfl
  | negSucc b =>
   simp only [ibq]
   by_cases h : a = b
   ·subst h; simp
   ·rw [show Nat.beq a b = false by cases hb : Nat.beq a b; rfl; exact absurd (ZJo hb) h]; simp [h]
theorem ZgR (op : BinOp) (t : TypeId) (k : IntKind) (a b : Int) (h1 : op ≠ .shl) (h2 : op ≠ .shr) : binOp op t (.int k a) (.int k b) =
  (match op with
  | .add | .sub | .mul => Op.intArith op k a b
  | .quo | .rem => Op.intDiv op k a b
  | .and | .or | .xor | .andNot => Op.intBits op k a b
  | _ => Op.intCmp op a b) := by
 cases op <;> first | exact absurd rfl h1 | exact absurd rfl h2 | simp [binOp]
def ZeR : Value -> Bool | .nilIface | .agg _ => false | _ => true
theorem ZbH (op : BinOp) (t : TypeId) (x y : Operand) (a b : Value) (h : ZeR a = true) : eqGuard op t x y a b = pure () := by
 cases op <;> try rfl
 all_goals (cases a <;> first | rfl | (simp [ZeR] at h))
theorem Ym {op : BinOp} {t : TypeId} {x y : Operand} {a b v : Value} {w w' : World} (h : ZeR a = true) (hr : (binOp op t a b).run P w = .ok v w') :
  (do eqGuard op t x y a b; binOp op t a b : Sem Value).run P w = .ok v w' := by
 rw [ZbH op t x y a b h]; exact hr
theorem q_int (t : TypeId) {op : BinOp} {kd : Nat} {a b : Int} (h1 : op ≠ .shl) (h2 : op ≠ .shr) (h : Zv (ZqN op kd a b k) φ) : QR P σ w (binOp op t (.int (kc kd) a) (.int (kc kd) b)) k φ := by
 have mk : ∀ (v : Int), Zv (k (.int kd v)) φ -> (binOp op t (.int (kc kd) a) (.int (kc kd) b)).run P w = .ok (.int (kc kd) v) w -> QR P σ w (binOp op t (.int (kc kd) a) (.int (kc kd) b)) k φ :=
  fun v hk hr => ⟨_, _, hr, by simp only [VR], hk⟩
 have mkb : ∀ (v : Bool), Zv (k (.bool v)) φ -> (binOp op t (.int (kc kd) a) (.int (kc kd) b)).run P w = .ok (.bool v) w -> QR P σ w (binOp op t (.int (kc kd) a) (.int (kc kd) b)) k φ :=
  fun v hk hr => ⟨_, _, hr, by simp only [VR], hk⟩
 rw [ZgR op t _ a b h1 h2] at mk mkb ⊢
 cases op <;> simp only [ZqN] at h <;> first | exact h.no.elim | skip
 case add => rw [ZbJ] at h; exact mk _ h rfl
 case sub => rw [ZbJ] at h; exact mk _ h rfl
 case mul => rw [ZbJ] at h; exact mk _ h rfl
 case quo =>
  cases hb : ibq b 0
  ·rw [hb] at h; simp only [cond_false] at h
   rw [Zbd] at hb; have : b ≠ 0 := by simpa using hb
   rw [ZbJ] at h; exact mk _ h (by simp [Op.intDiv, this])
  ·rw [hb] at h; exact h.no.elim
 case rem =>
  cases hb : ibq b 0
  ·rw [hb] at h; simp only [cond_false] at h
   rw [Zbd] at hb; have : b ≠ 0 := by simpa using hb
   exact mk _ h (by simp [Op.intDiv, this])
  ·rw [hb] at h; exact h.no.elim
 case and => exact mk _ h rfl
 case or => exact mk _ h rfl
 case xor => exact mk _ h rfl
 case andNot => exact mk _ h rfl
 case eql => rw [Zbd] at h; exact mkb _ h rfl
 case neq => rw [Zbd] at h; exact mkb _ h rfl
 case lss => exact mkb _ h rfl
 case leq => exact mkb _ h rfl
 case gtr => exact mkb _ h rfl
 case geq => exact mkb _ h rfl
theorem q_sh (t : TypeId) {op : BinOp} {kd kd' : Nat} {a b : Int} (ho : op = .shl \/ op = .shr) (h : Zv (shOp op kd a b k) φ) : QR P σ w (binOp op t (.int (kc kd) a) (.int (kc kd') b)) k φ := by
 unfold shOp at h
 split at h
 ·exact h.no.elim
 ·rename_i m
  have hneg : ¬ ((Int.ofNat m) < 0) := by simp
  rcases ho with rfl | rfl
  ·simp only at h; rw [ZbJ] at h
   exact ⟨_, _, by simp only [binOp, Op.shift]; rw [if_neg hneg]; rfl, by simp only [VR]; rfl, h⟩
  ·simp only at h
   exact ⟨_, _, by simp only [binOp, Op.shift]; rw [if_neg hneg]; rfl, by simp only [VR]; rfl, h⟩
/-! ### Texts -/
theorem Ya (a : List UInt8) : (⟨a.toArray⟩ : ByteArray).toList = a := by rw [ByteArray.toList_eq]
theorem Zf8 (l n l' n' : Nat) : (bif Nat.beq l l' then Nat.beq (n % pw l) (n' % pw l) else false) = (bys l n == bys l' n') := by
 cases hl : Nat.beq l l'
 ·have : l ≠ l' := fun e => by rw [e, Nat.beq_refl] at hl; cases hl
  simp only [cond_false]
  have hne : bys l n ≠ bys l' n' := fun e => this (by have := congrArg List.length e; rwa [Zp, Zp] at this)
  simp [hne]
 ·have := ZJo hl; subst this
  simp only [cond_true]
  by_cases h : n % pw l = n' % pw l
  ·rw [h, (Zin l n n').2 h]; simp
  ·have hb : Nat.beq (n % pw l) (n' % pw l) = false := by cases hb : Nat.beq (n % pw l) (n' % pw l); rfl; exact absurd (ZJo hb) h
   have hne : bys l n ≠ bys l n' := fun e => h ((Zin l n n').1 e)
   rw [hb]; simp [hne]
theorem ZdJ : ∀ (l l' n n' : Nat), Y6 l l' n n' = Op.bytesLess (bys l n) (bys l' n')
 | 0, 0, _, _ => by simp [Y6, bys, Op.bytesLess]
 | _ + 1, 0, _, _ => by simp [Y6, bys, Op.bytesLess]
 | 0, _ + 1, _, _ => by simp [Y6, bys, Op.bytesLess]
 | l + 1, l' + 1, n, n' => by
  simp only [Y6, bys, Op.bytesLess]
  have h1 : n % 256 < 256 := Nat.mod_lt _ (by decide)
  have h2 : n' % 256 < 256 := Nat.mod_lt _ (by decide)
  have e1 : (UInt8.ofNat (n % 256)).toNat = n % 256 := by simp
  have e2 : (UInt8.ofNat (n' % 256)).toNat = n' % 256 := by simp
  have elt : (decide (UInt8.ofNat (n % 256) < UInt8.ofNat (n' % 256))) = Nat.blt (n % 256) (n' % 256) := by
   rw [Bool.eq_iff_iff, decide_eq_true_iff, Nat.blt_eq, UInt8.lt_iff_toNat_lt, e1, e2]
  have eeq : (UInt8.ofNat (n % 256) == UInt8.ofNat (n' % 256)) = Nat.beq (n % 256) (n' % 256) := by
   rw [Bool.eq_iff_iff, beq_iff_eq, Nat.beq_eq, <- UInt8.toNat_inj, e1, e2]
  rw [elt, eeq, <- ZdJ l l' (n / 256) (n' / 256)]
  cases Nat.blt (n % 256) (n' % 256) <;> cases Nat.beq (n % 256) (n' % 256) <;> rfl
theorem Zju : ∀ (x y : List UInt8), (Op.bytesLess x y || (x == y)) = !Op.bytesLess y x
 | [], [] => rfl
 | [], _ :: _ => by simp [Op.bytesLess]
 | _ :: _, [] => by simp [Op.bytesLess]
 | a :: x, b :: y => by
  have ih := Zju x y
  simp only [Op.bytesLess]
  rcases Nat.lt_trichotomy a.toNat b.toNat with h | h | h
  ·have h1 : a < b := UInt8.lt_iff_toNat_lt.2 h
   have h2 : ¬ b < a := fun h' => by have := UInt8.lt_iff_toNat_lt.1 h'; omega
   have h3 : (b == a) = false := by simp; intro e; subst e; omega
   simp [h1, h2, h3]
  ·have e : a = b := UInt8.toNat_inj.1 h
   subst e
   have h2 : ¬ a < a := fun h' => by have := UInt8.lt_iff_toNat_lt.1 h'; omega
   simp only [h2, decide_false, beq_self_eq_true, Bool.true_and, Bool.false_or]
   rw [<- ih]; simp
  ·have h1 : b < a := UInt8.lt_iff_toNat_lt.2 h
   have h2 : ¬ a < b := fun h' => by have := UInt8.lt_iff_toNat_lt.1 h'; omega
   have h3 : a ≠ b := fun e => by subst e; omega
   simp [h1, h2, h3]
theorem q_str (t : TypeId) {op : BinOp} {l m l' m' : Nat} (h : Zv (ZFl op l m l' m' k) φ) : QR P σ w (binOp op t (.string ⟨(bys l m).toArray⟩) (.string ⟨(bys l' m').toArray⟩)) k φ := by
 have mkb : ∀ (v : Bool), Zv (k (.bool v)) φ -> (binOp op t (.string ⟨(bys l m).toArray⟩) (.string ⟨(bys l' m').toArray⟩)).run P w = .ok (.bool v) w -> QR P σ w (binOp op t (.string ⟨(bys l m).toArray⟩) (.string ⟨(bys l' m').toArray⟩)) k φ :=
  fun v hk hr => ⟨_, _, hr, by simp only [VR], hk⟩
 unfold ZFl at h
 cases op <;> simp only at h <;> first | exact h.no.elim | skip
 case add =>
  obtain ⟨hz, h⟩ := h.bif
  refine ⟨_, .string ⟨(bys (l + l') (ZjM l m m')).toArray⟩, ?_, by simp only [VR], h⟩
  simp only [binOp, Op.stringOp, ByteArray.size, List.size_toArray, Zp]
  rw [if_neg (by have := ZJA hz; simp [IntKind.max, IntKind.signed, IntKind.bits]; omega)]
  have : (⟨(bys l m).toArray⟩ : ByteArray) ++ ⟨(bys l' m').toArray⟩ = ⟨(bys (l + l') (ZjM l m m')).toArray⟩ := by
   apply ByteArray.ext
   rw [ByteArray.data_append, <- ZeH]; simp
  rw [this]; rfl
 case eql => rw [Zf8] at h; exact mkb _ h (by simp only [binOp, Op.stringOp, Ya]; rfl)
 case neq => rw [Zf8] at h; exact mkb _ h (by simp only [binOp, Op.stringOp, Ya]; rfl)
 case lss => rw [ZdJ] at h; exact mkb _ h (by simp only [binOp, Op.stringOp, Ya]; rfl)
 case geq => rw [ZdJ] at h; exact mkb _ h (by simp only [binOp, Op.stringOp, Ya]; rfl)
 case gtr => rw [ZdJ] at h; refine mkb _ h ?_; simp only [binOp, Op.stringOp, Ya]; rw [Zju, ZJl]; rfl
 case leq => rw [ZdJ] at h; refine mkb _ h ?_; simp only [binOp, Op.stringOp, Ya]; rw [Zju]; rfl
end
end Go.Cx
namespace Go.Cx
open Go.RowKit (Below)
section
variable {P : Program}
theorem ZbK {s : TypeId} {fs : Array Field} {f : Nat} {fd : Field} {n : Nat} (hs : P.underlying s = some (.struct fs)) (hf : fs[f]? = some fd) (hn : Zf9 P fd.type = some (n + 1)) (b o : Nat) (w : World) :
  (Instr.fieldAt s (.pointer (some ⟨b, o, none⟩)) f).run P w = .ok (.pointer (some ⟨b, o + fd.offset, none⟩)) w := by
 obtain ⟨i, hi, hsz⟩ := ZdZ hn
 simp [Instr.fieldAt, run_underlying hs, hf, Instr.sureAddr, fieldPlace, sizeOf, typeInfo, hi, hsz, add_eq]
theorem Zi {k : IntKind} {n : Int} {y : Nat} {code : BoundsCode} (h0 : 0 <= n) (h1 : n <= y) (w : World) : (Instr.sliceBound (.int k n) y code).run P w = .ok n.toNat w := by
 simp [Instr.sliceBound, asIntOf, h0, h1]
theorem YR {lo hi mx : Option Value} {l h m : Nat} {len cap : Nat} {b : Bool} {k1 k2 k3 : IntKind} {x1 x2 x3 : Int}
  (hm : (mx = none /\ m = cap) \/ (mx = some (.int k3 x3) /\ 0 <= x3 /\ x3 <= cap /\ m = x3.toNat))
  (hh : (hi = none /\ mx = none /\ h = len) \/ (hi = some (.int k2 x2) /\ 0 <= x2 /\ x2 <= m /\ h = x2.toNat))
  (hl : (lo = none /\ l = 0) \/ (lo = some (.int k1 x1) /\ 0 <= x1 /\ x1 <= h /\ l = x1.toNat)) (w : World) :
  (Instr.sliceBounds b len cap lo hi mx).run P w = .ok (l, h, m) w := by
 unfold Instr.sliceBounds
 rcases hm with ⟨rfl, rfl⟩ | ⟨rfl, m1, m2, rfl⟩
 ·rcases hh with ⟨rfl, _, rfl⟩ | ⟨rfl, h1, h2, rfl⟩
  ·rcases hl with ⟨rfl, rfl⟩ | ⟨rfl, l1, l2, rfl⟩
   ·rfl
   ·simp [Zi l1 l2]
  ·rcases hl with ⟨rfl, rfl⟩ | ⟨rfl, l1, l2, rfl⟩
   ·simp [Zi h1 h2]
   ·simp [Zi h1 h2, Zi l1 l2]
 ·rcases hh with ⟨rfl, hc, rfl⟩ | ⟨rfl, h1, h2, rfl⟩
  ·cases hc
  ·rcases hl with ⟨rfl, rfl⟩ | ⟨rfl, l1, l2, rfl⟩
   ·simp [Zi m1 m2, Zi h1 h2]
   ·simp [Zi m1 m2, Zi h1 h2, Zi l1 l2]
theorem Zu {t : TypeId} {i : TypeInfo} {z : Value} (hi : P.info? t = some i) (hz : i.zero = some z) (w : World) : (zeroValue t).run P w = .ok z w := by
 simp [zeroValue, typeInfo, hi, hz]
variable {w0 : World} {σ : Sg} {hp : H} {n : Nat} {w : World} {fr : F} {ev : Operand -> Value} {k : CV -> Res} {φ : Out -> Prop}
theorem ZhW {t off : Nat} {cs : List CV} {vs : List Value} (hv : VRs σ cs vs) (h : Zv (Go.Cx.part P t cs off k) φ) : QR P σ w (Go.part t vs.toArray off) k φ := by
 unfold Go.Cx.part at h
 have e : Go.part t vs.toArray off = (isAgg t).bind (fun x => if x then ((sizeOf t).bind fun k => Sem.pure (Value.agg (vs.toArray.extract off (off + k)))) else match vs.toArray[off]? with | some v => Sem.pure v | none => stuck "part: no such cell") := by
  unfold Go.part; rfl
 split at h
 ·rename_i m hA
  obtain ⟨d, h1, h2, h3⟩ := ZcE hA
  split at h
  ·rename_i r hr
   obtain ⟨g1, g2, g3⟩ := (hv.drop (n := off)).take hr
   refine ⟨_, .agg ((vs.drop off).take m).toArray, ?_, by simp only [VR]; exact ⟨_, g1, rfl⟩, h⟩
   rw [e, Sem.run_bind', ZdP h1, h2]
   simp only [Result.andThen, if_true]
   rw [Sem.run_bind', YF h3]
   simp [Result.andThen, Sem.run, List.extract_eq_take_drop]
  ·exact h.no.elim
 ·rename_i m hA
  obtain ⟨d, h1, h2, h3⟩ := ZcE hA
  split at h
  ·rename_i c hc
   obtain ⟨y, g1, g2⟩ := hv.get hc
   refine ⟨_, y, ?_, g2, h⟩
   rw [e, Sem.run_bind', ZdP h1, h2]
   simp [Result.andThen, Sem.run, g1]
  ·exact h.no.elim
 ·exact h.no.elim
theorem Zy7 (hL : ∀ x, VR σ (lk fr x) (ev x)) {s f : Nat} {x : Operand} (h : Zv (Zg8 P fr s x f k) φ) : QR P σ w (Instr.fieldAt s (ev x) f) k φ := by
 unfold Zg8 at h
 have hx := hL x
 split at h
 ·rename_i b o he
  rw [he] at hx; simp only [VR] at hx
  obtain ⟨p, t, hs, hv⟩ := hx
  split at h
  ·rename_i fs hd
   split at h
   ·rename_i fd hf
    rw [Za7, ZJc] at hf
    split at h
    ·rename_i m hm
     exact ⟨_, _, by rw [hv]; exact ZbK (Zf hd) hf hm p o w, by simp only [VR]; exact ⟨p, t, hs, rfl⟩, h⟩
    ·exact h.no.elim
   ·exact h.no.elim
  ·exact h.no.elim
 ·exact h.no.elim
theorem ZDK (hL : ∀ x, VR σ (lk fr x) (ev x)) {t f : Nat} {x : Operand} (h : Zv (Zqr P fr t x f k) φ) : QR P σ w (Instr.field t (ev x) f) k φ := by
 unfold Zqr at h
 have hx := hL x
 split at h
 ·rename_i cs he
  rw [he] at hx; simp only [VR] at hx
  obtain ⟨vs, hvs, hv⟩ := hx
  split at h
  ·rename_i fs hd
   split at h
   ·rename_i fd hf
    rw [Za7, ZJc] at hf
    obtain ⟨c, v, h1, h2, h3⟩ := ZhW (P := P) (w := w) hvs h
    exact ⟨c, v, by rw [hv]; simp [Instr.field, run_underlying (Zf hd), hf, asAgg, h1], h2, h3⟩
   ·exact h.no.elim
  ·exact h.no.elim
 ·exact h.no.elim
theorem Zlj (hL : ∀ x, VR σ (lk fr x) (ev x)) {x : Operand} {kd : Nat} {i : Int} (h : lk fr x = .int kd i) : ev x = .int (kc kd) i := by
 have := hL x; rw [h] at this; simpa only [VR] using this
theorem ZAe (hL : ∀ x, VR σ (lk fr x) (ev x)) {t : Nat} {x ix : Operand} (h : Zv (Zdf P fr t x ix k) φ) : QR P σ w (Instr.indexAt t (ev x) (ev ix)) k φ := by
 unfold Zdf at h
 split at h
 ·rename_i kd i hi
  have hiv := Zlj hL hi
  have hx := hL x
  split at h
  ·rename_i b o s l kk ex he
   rw [he] at hx; simp only [VR] at hx
   obtain ⟨p, u, o', c, hs, hv, hlk, hkc, hex, ho, hle, heq⟩ := hx
   split at h
   ·rename_i e hd
    obtain ⟨hil, h⟩ := h.bif
    have hil : i < l := by simpa [Nat.blt_eq] using hil
    split at h
    ·rename_i m hm
     obtain ⟨hsm, h⟩ := h.bif
     have hsm := ZJo hsm
     have ho' : o' = o := ho (.inl (by omega))
     subst ho'
     refine ⟨_, .pointer (some ⟨p, o' + i * s, none⟩), ?_, by simp only [VR]; exact ⟨p, u, hs, rfl⟩, h⟩
     rw [hv, hiv]
     simp [Instr.indexAt, asIntOf, run_underlying (Zf hd), YF hm, add_eq, hil, hsm]
    ·exact h.no.elim
   ·exact h.no.elim
  ·rename_i b o he
   rw [he] at hx; simp only [VR] at hx
   obtain ⟨p, u, hs, hv⟩ := hx
   split at h
   ·rename_i m e hd
    obtain ⟨hil, h⟩ := h.bif
    have hil : i < m := by simpa [Nat.blt_eq] using hil
    split at h
    ·rename_i z hz
     refine ⟨_, .pointer (some ⟨p, o + i * (z + 1), none⟩), ?_, by simp only [VR]; exact ⟨p, u, hs, rfl⟩, h⟩
     rw [hv, hiv]
     simp [Instr.indexAt, asIntOf, run_underlying (Zf hd), YF hz, add_eq, Instr.sureAddr, hil]
    ·exact h.no.elim
   ·exact h.no.elim
  ·exact h.no.elim
 ·exact h.no.elim
theorem Zkv (l n i : Nat) (h : i < l) : (⟨(bys l n).toArray⟩ : ByteArray)[i]? = some (UInt8.ofNat (Zhd n i)) := by
 have hlt' : i < (⟨(bys l n).toArray⟩ : ByteArray).size := by simpa [ByteArray.size, Zp] using h
 rw [getElem?_pos (⟨(bys l n).toArray⟩ : ByteArray) i hlt']
 have := ZbO l n i h
 rw [ZJq (by rw [Zp]; exact h)] at this
 exact this
theorem Ze3 (x : Nat) (h : x < 256) : (UInt8.ofNat x).toNat = x := by simp; omega
theorem ZDD (hL : ∀ x, VR σ (lk fr x) (ev x)) {t : Nat} {x ix : Operand} (h : Zv (Zn2 P fr t x ix k) φ) : QR P σ w (Instr.index t (ev x) (ev ix)) k φ := by
 unfold Zn2 at h
 split at h
 ·rename_i kd i hi
  have hiv := Zlj hL hi
  have hx := hL x
  split at h
  ·rename_i l m he
   rw [he] at hx; simp only [VR] at hx
   split at h
   ·rename_i hd
    obtain ⟨hil, h⟩ := h.bif
    have hil : i < l := by simpa [Nat.blt_eq] using hil
    refine ⟨_, .int .u8 (Zhd m i : Nat), ?_, by simp only [VR]; rfl, h⟩
    rw [hx, hiv]
    have hg := Zkv l m i hil
    simp [Instr.index, asIntOf, run_underlying (Zf hd), hg, Ze3 _ (Zjj m i)]
   ·exact h.no.elim
  ·rename_i cs he
   rw [he] at hx; simp only [VR] at hx
   obtain ⟨vs, hvs, hv⟩ := hx
   split at h
   ·rename_i m e hd
    obtain ⟨hil, h⟩ := h.bif
    have hil : i < m := by simpa [Nat.blt_eq] using hil
    split at h
    ·rename_i s hs
     obtain ⟨c, v, h1, h2, h3⟩ := ZhW (P := P) (w := w) hvs h
     exact ⟨c, v, by rw [hv, hiv]; simp [Instr.index, asIntOf, run_underlying (Zf hd), hil, YF hs, h1], h2, h3⟩
    ·exact h.no.elim
   ·exact h.no.elim
  ·exact h.no.elim
 ·exact h.no.elim
/-! ### Slices of slices -/
theorem Zco (hL : ∀ x, VR σ (lk fr x) (ev x)) {o : Option Operand} {r : Option Nat} (h : ZBv fr o = some r) : (r = none /\ o.map ev = none) \/ ∃ kd m, r = some m /\ o.map ev = some (.int (kc kd) (m : Int)) := by
 unfold ZBv at h
 split at h
 ·cases h; exact .inl ⟨rfl, rfl⟩
 ·rename_i x
  split at h
  ·rename_i kd m he
   cases h
   exact .inr ⟨kd, m, rfl, by simp [Zlj hL he]⟩
  ·cases h
theorem Zdk (l n a b : Nat) (h : b <= l) (h2 : a <= b) : (⟨(bys l n).toArray⟩ : ByteArray).extract a b = ⟨(bys (b - a) (Zng n a (b - a))).toArray⟩ := by
 apply ByteArray.ext
 rw [ByteArray.data_extract, <- ZmB l n a (b - a) (by omega)]
 simp [List.extract_eq_take_drop]
theorem ZkO (hL : ∀ x, VR σ (lk fr x) (ev x)) {lo hi mx : Option Operand} {rl rh rm : Option Nat} (h1 : ZBv fr lo = some rl) (h2 : ZBv fr hi = some rh) (h3 : ZBv fr mx = some rm) (b : Bool) {len cap : Nat}
  (hm : orN cap rm <= cap) (hh : orN len rh <= orN cap rm) (hl : orN 0 rl <= orN len rh) (hmh : rm = none \/ rh ≠ none) (w : World) :
  (Instr.sliceBounds b len cap (lo.map ev) (hi.map ev) (mx.map ev)).run P w = .ok (orN 0 rl, orN len rh, orN cap rm) w := by
 have k3 := Zco hL h3
 have k2 := Zco hL h2
 have k1 := Zco hL h1
 obtain ⟨kd3, x3, H3⟩ : ∃ (kd3 : IntKind) (x3 : Int), (mx.map ev = none /\ orN cap rm = cap) \/ (mx.map ev = some (.int kd3 x3) /\ 0 <= x3 /\ x3 <= cap /\ orN cap rm = x3.toNat) := by
  rcases k3 with ⟨rfl, e⟩ | ⟨kd, m, rfl, e⟩
  ·exact ⟨.i64, 0, .inl ⟨e, rfl⟩⟩
  ·exact ⟨_, _, .inr ⟨e, by omega, by simp only [orN] at hm; omega, by simp [orN]⟩⟩
 obtain ⟨kd2, x2, H2⟩ : ∃ (kd2 : IntKind) (x2 : Int), (hi.map ev = none /\ mx.map ev = none /\ orN len rh = len) \/ (hi.map ev = some (.int kd2 x2) /\ 0 <= x2 /\ x2 <= ((orN cap rm : Nat) : Int) /\ orN len rh = x2.toNat) := by
  rcases k2 with ⟨rfl, e⟩ | ⟨kd, m, rfl, e⟩
  ·refine ⟨.i64, 0, .inl ⟨e, ?_, rfl⟩⟩
   rcases hmh with rfl | hc
   ·rcases k3 with ⟨_, e3⟩ | ⟨_, _, hc, _⟩
    ·exact e3
    ·cases hc
   ·exact absurd rfl hc
  ·exact ⟨_, _, .inr ⟨e, by omega, by simp only [orN] at hh ⊢; omega, by simp [orN]⟩⟩
 obtain ⟨kd1, x1, H1⟩ : ∃ (kd1 : IntKind) (x1 : Int), (lo.map ev = none /\ orN 0 rl = 0) \/ (lo.map ev = some (.int kd1 x1) /\ 0 <= x1 /\ x1 <= ((orN len rh : Nat) : Int) /\ orN 0 rl = x1.toNat) := by
  rcases k1 with ⟨rfl, e⟩ | ⟨kd, m, rfl, e⟩
  ·exact ⟨.i64, 0, .inl ⟨e, rfl⟩⟩
  ·exact ⟨_, _, .inr ⟨e, by omega, by simp only [orN] at hl ⊢; omega, by simp [orN]⟩⟩
 exact YR H3 H2 H1 w
theorem ZCy (hR : Rel w0 σ hp n w) (hL : ∀ x, VR σ (lk fr x) (ev x)) {t : Nat} {x : Operand} {lo hi mx : Option Operand} (h : Zv (Zpi P fr hp t x lo hi mx k) φ) : QR P σ w (Instr.sliceAt t (ev x) (lo.map ev) (hi.map ev) (mx.map ev)) k φ := by
 unfold Zpi at h
 split at h
 ·exact h.no.elim
 rename_i rl e1
 split at h
 ·exact h.no.elim
 rename_i rh e2
 split at h
 ·exact h.no.elim
 rename_i rm e3
 have hx := hL x
 split at h
 ·-- text
  rename_i l m he
  rw [he] at hx; simp only [VR] at hx
  split at h
  ·rename_i hd
   split at h
   ·obtain ⟨g1, h⟩ := h.bif
    obtain ⟨g2, h⟩ := h.bif
    have g1 := ZJA g1
    have g2 := ZJA g2
    refine ⟨_, .string ⟨(bys (orN l rh - orN 0 rl) (Zng m (orN 0 rl) (orN l rh - orN 0 rl))).toArray⟩, ?_, by simp only [VR], h⟩
    have hmx : mx.map ev = none := by
     rcases Zco hL e3 with ⟨_, e⟩ | ⟨_, _, hc, _⟩
     ·exact e
     ·cases hc
    have hb := ZkO (P := P) hL e1 e2 e3 false (len := l) (cap := l) (by simp [orN]) (by simpa [orN] using g1) g2 (.inl rfl) w
    rw [hmx] at hb ⊢
    have hsz : (⟨(bys l m).toArray⟩ : ByteArray).size = l := by simp [ByteArray.size, Zp]
    rw [hx]
    have ea : (Instr.sliceAt t (.string ⟨(bys l m).toArray⟩) (lo.map ev) (hi.map ev) none).run P w = (Instr.slice t (.string ⟨(bys l m).toArray⟩) (lo.map ev) (hi.map ev) none).run P w := by
     unfold Instr.sliceAt; simp [run_underlying (Zf hd)]
    rw [ea]
    simp [Instr.slice, run_underlying (Zf hd), hsz, hb, Zdk l m _ _ g1 g2]
   ·exact h.no.elim
  ·exact h.no.elim
 ·-- nil
  rename_i he
  rw [he] at hx; simp only [VR] at hx
  split at h
  ·rename_i e hd
   split at h
   ·rename_i sz hsz
    split at h
    ·exact h.no.elim
    ·obtain ⟨g1, h⟩ := h.bif
     obtain ⟨g3, h⟩ := h.bif
     have g1 := ZJo g1
     have g3 := ZJo g3
     rw [hx]
     have ea : (Instr.sliceAt t (.slice none 0 0) (lo.map ev) (hi.map ev) (mx.map ev)).run P w = (Instr.slice t (.slice none 0 0) (lo.map ev) (hi.map ev) (mx.map ev)).run P w := by
      unfold Instr.sliceAt; simp [run_underlying (Zf hd)]
     have hb := ZkO (P := P) hL e1 e2 e3 true (len := 0) (cap := 0) (by simp [orN]) (by rw [g1]; simp [orN]) (by omega) (.inl rfl) w
     refine ⟨_, .slice none 0 0, ?_, by simp only [VR], h⟩
     rw [ea]
     rw [g1, g3] at hb
     simp only [orN] at hb
     simp [Instr.slice, run_underlying (Zf hd), hb, YF hsz]
   ·exact h.no.elim
  ·exact h.no.elim
 ·-- a pointer to an array
  rename_i b o he
  rw [he] at hx; simp only [VR] at hx
  obtain ⟨p, u, hs, hv⟩ := hx
  split at h
  ·rename_i m e hd
   split at h
   ·rename_i sz hsz
    split at h
    ·exact h.no.elim
    ·obtain ⟨g1, h⟩ := h.bif
     obtain ⟨g2, h⟩ := h.bif
     have g1 := ZJA g1
     have g2 := ZJA g2
     split at h
     ·rename_i cs hc
      obtain ⟨g3, h⟩ := h.bif
      have g3 := ZJA g3
      obtain ⟨vs, hvs, hrow⟩ := hR.at hs hc (by simp)
      have hfit : cs.length <= u := by
       obtain ⟨arr, ty, lo', hi', _, q2, ⟨sp, q3⟩, _⟩ := hrow
       have := congrArg List.length q3
       have h1 := hvs.len
       simp at this; omega
      have hmx : mx.map ev = none := by
       rcases Zco hL e3 with ⟨_, e⟩ | ⟨_, _, hc, _⟩
       ·exact e
       ·cases hc
      have hb := ZkO (P := P) hL e1 e2 e3 false (len := m) (cap := m) (by simp [orN]) (by simpa [orN] using g1) g2 (.inl rfl) w
      simp only [show orN m none = m from rfl] at hb
      have run : (Instr.sliceAt t (ev x) (lo.map ev) (hi.map ev) (mx.map ev)).run P w = .ok (.slice (some ⟨p, if m = orN 0 rl then o else o + orN 0 rl * sz, none⟩) (orN m rh - orN 0 rl) (m - orN 0 rl)) w := by
       rw [hv]
       unfold Instr.sliceAt
       simp [run_underlying (Zf hd), Instr.sureAddr, hb, YF hsz, add_eq]
       split <;> rfl
      refine ⟨_, _, run, ?_, h⟩
      simp only [VR]
      refine ⟨p, u, _, _, hs, rfl, by omega, ZJd _, fun _ => rfl, fun _ => ?_, ?_, fun e => (by cases e)⟩
      ·by_cases hc : m = orN 0 rl
       ·rw [if_pos hc, show Nat.beq (orN 0 rl) m = true by rw [Nat.beq_eq]; omega]; rfl
       ·rw [if_neg hc, show Nat.beq (orN 0 rl) m = false by cases hq : Nat.beq (orN 0 rl) m; rfl; exact absurd (ZJo hq).symm hc]; rfl
      ·by_cases hc : m = orN 0 rl
       ·rw [if_pos hc, hc]; simp; omega
       ·rw [if_neg hc, Nat.sub_mul]
        have : orN 0 rl * sz <= m * sz := ZJe _ (by omega)
        omega
     ·exact h.no.elim
   ·exact h.no.elim
  ·exact h.no.elim
 ·-- slice
  rename_i b o s l c ex he
  rw [he] at hx; simp only [VR] at hx
  obtain ⟨p, u, o', cc, hs, hv, hlk, hkc, hex, ho, hle, heq⟩ := hx
  split at h
  ·rename_i e hd
   split at h
   ·rename_i sz hsz
    obtain ⟨gs, h⟩ := h.bif
    have gs := ZJo gs
    subst gs
    have ea : (Instr.sliceAt t (.slice (some ⟨p, o', none⟩) l cc) (lo.map ev) (hi.map ev) (mx.map ev)).run P w = (Instr.slice t (.slice (some ⟨p, o', none⟩) l cc) (lo.map ev) (hi.map ev) (mx.map ev)).run P w := by
     unfold Instr.sliceAt; simp [run_underlying (Zf hd)]
    have run : ∀ L Hh M, (Instr.sliceBounds true l cc (lo.map ev) (hi.map ev) (mx.map ev)).run P w = .ok (L, Hh, M) w →
      (Instr.sliceAt t (ev x) (lo.map ev) (hi.map ev) (mx.map ev)).run P w = .ok (.slice (some ⟨p, if M = L then o' else o' + L * sz, none⟩) (Hh - L) (M - L)) w := by
     intro L Hh M hb
     rw [hv, ea]
     simp [Instr.slice, run_underlying (Zf hd), hb, YF hsz, add_eq]
     split <;> rfl
    split at h
    ·obtain ⟨g1, h⟩ := h.bif
     obtain ⟨g2, h⟩ := h.bif
     have g1 := ZJA g1
     have g2 := ZJA g2
     have hb := ZkO (P := P) hL e1 e2 e3 true (len := l) (cap := cc) (by simp [orN]) (by simp only [orN] at g1 ⊢; omega) g2 (.inl rfl) w
     simp only [show orN cc none = cc from rfl] at hb
     refine ⟨_, _, run _ _ _ hb, ?_, h⟩
     simp only [VR]
     refine ⟨p, u, _, _, hs, rfl, by omega, by omega, fun e => by have := hex e; omega, fun hk => ?_, ?_, fun hex0 hk0 => ?_⟩
     ·by_cases hc : cc = orN 0 rl
      ·have hc2 : c = cc /\ ex = true := by
        rcases hk with hk | hk
        ·omega
        ·exact ⟨(hex hk).symm, hk⟩
       rw [if_pos hc]
       have : Nat.beq (orN 0 rl) c = true := by rw [Nat.beq_eq]; omega
       rw [this]; exact ho (.inr hc2.2)
      ·rw [if_neg hc]
       have : Nat.beq (orN 0 rl) c = false := by
        cases hq : Nat.beq (orN 0 rl) c
        ·rfl
        ·have := ZJo hq
         rcases hk with hk | hk
         ·omega
         ·have := hex hk; omega
       rw [this]; simp only [cond_false]
       rw [ho (by rcases hk with hk | hk; exact .inl (by omega); exact .inr hk)]
     ·by_cases hc : cc = orN 0 rl
      ·rw [if_pos hc, hc]; simp; have := Nat.zero_le (cc * sz); omega
      ·rw [if_neg hc, Nat.sub_mul]
       have : orN 0 rl * sz <= cc * sz := ZJe _ (by omega)
       omega
     ·have h1 := heq hex0 (by omega)
      rw [if_neg (show ¬ cc = orN 0 rl by omega), Nat.sub_mul]
      have : orN 0 rl * sz <= cc * sz := ZJe _ (by omega)
      omega
    ·rename_i m hrm
     split at h
     ·exact h.no.elim
     ·rename_i hh
      obtain ⟨g0, h⟩ := h.bif
      obtain ⟨g1, h⟩ := h.bif
      obtain ⟨g2, h⟩ := h.bif
      obtain ⟨g3, h⟩ := h.bif
      have g1 := ZJA g1
      have g2 := ZJA g2
      have g3 := ZJA g3
      have hoo : o' = o := ho (by
       cases hq : Nat.ble 1 c
       ·rw [hq] at g0; exact .inr g0
       ·exact .inl (ZJA hq))
      subst hoo
      have hb := ZkO (P := P) hL e1 e2 e3 true (len := l) (cap := cc) (by simp only [orN]; omega) (by simp only [orN]; omega) (by simp only [orN] at g3 ⊢; omega) (.inr (by simp)) w
      simp only [show orN cc (some m) = m from rfl, show orN l (some hh) = hh from rfl] at hb
      refine ⟨_, _, run _ _ _ hb, ?_, h⟩
      simp only [VR]
      refine ⟨p, u, _, _, hs, rfl, by omega, ZJd _, fun _ => rfl, fun _ => ?_, ?_, fun e => (by cases e)⟩
      ·by_cases hc : m = orN 0 rl
       ·rw [if_pos hc, show Nat.beq (orN 0 rl) m = true by rw [Nat.beq_eq]; omega]; rfl
       ·rw [if_neg hc, show Nat.beq (orN 0 rl) m = false by cases hq : Nat.beq (orN 0 rl) m; rfl; exact absurd (ZJo hq).symm hc]; rfl
      ·have q1 : m * sz <= cc * sz := ZJe _ (by omega)
       by_cases hc : m = orN 0 rl
       ·rw [if_pos hc, hc]; simp; omega
       ·rw [if_neg hc, Nat.sub_mul]
        have : orN 0 rl * sz <= m * sz := ZJe _ (by omega)
        omega
   ·exact h.no.elim
  ·exact h.no.elim
 ·exact h.no.elim
end
end Go.Cx
namespace Go.Cx
open Go.RowKit (Below)
section
variable {P : Program} {w0 : World} {σ : Sg} {hp : H} {n : Nat} {w : World} {fr : F} {ev : Operand -> Value} {k : CV -> Res} {φ : Out -> Prop}
/-! ### Constants -/
theorem Zqn (v : Value) : VR σ (ZnT v) v := by
 unfold ZnT
 split <;> simp only [VR, ZjP]
 rename_i s
 congr 1
 apply ByteArray.ext
 show s.data = _
 rw [Zgq]
theorem Ziw : ∀ (l : List Value), VRs σ (Zig l) l
 | [] => by simp only [Zig, VRs]
 | v :: l => by simp only [Zig, VRs]; exact ⟨v, l, rfl, Zqn v, Ziw l⟩
theorem Zxb (v : Value) : VR σ (ZzC v) v := by
 unfold ZzC
 split
 ·rename_i cs; simp only [VR]; exact ⟨cs.toList, Ziw _, by simp⟩
 ·exact Zqn v
theorem Y1 {t : Nat} {z : List CV} (h : ZkA P t = some z) : ∃ i zv, P.info? t = some i /\ i.zero = some zv /\ VRs σ z zv.cells.toList := by
 unfold ZkA at h
 split at h
 ·rename_i i hi
  split at h
  ·rename_i zv hz; cases h; exact ⟨i, zv, YQ hi, hz, Ziw _⟩
  ·cases h
 ·cases h
theorem Zjp {c : CV} {v : Value} (hj : c ≠ .junk) (h : VR σ c v) : VRs σ (cellsOf c) v.cells.toList := by
 unfold cellsOf
 split
 ·rename_i cs; simp only [VR] at h; obtain ⟨vs, h1, rfl⟩ := h; simpa [Value.cells] using h1
 ·rename_i x hx
  have hc : v.cells = #[v] := by
   cases c <;> simp only [VR] at h
   all_goals first | exact absurd rfl hj | exact absurd rfl (hx _) | (subst h; rfl) | (obtain ⟨_, _, _, rfl⟩ := h; rfl) | (obtain ⟨_, _, rfl⟩ := h; rfl) | (obtain ⟨_, _, _, _, _, rfl, _⟩ := h; rfl) | (obtain ⟨_, _, _, _, rfl⟩ := h; rfl)
  rw [hc]; simp only [VRs]; exact ⟨v, [], rfl, h, rfl⟩
/-! ### Equality -/
theorem ZfO (a b : Bool) : bbq a b = (a == b) := by cases a <;> cases b <;> rfl
theorem Row.obj {p t : Nat} {vs : List Value} (h : Row w p t vs false) : ∃ arr ty, w.heap[p]? = some (.cells arr ty (0, 0)) := by
 obtain ⟨arr, ty, lo, hi, h1, _, _, h4⟩ := h
 rcases h4 with ⟨rfl, rfl⟩ | ⟨hc, _⟩
 ·exact ⟨arr, ty, h1⟩
 ·cases hc
set_option maxHeartbeats 2000000 in
theorem Zcz (hR : Rel w0 σ hp n w) {t : Nat} {d : TypeDesc} (hd : P.underlying t = some d) {a b : CV} {va vb : Value} (ha : VR σ a va) (hb : VR σ b vb) {r : Bool}
  (h : ZgM hp P d a b = some r) (m : Nat) : (Op.equalIn (m + 1) t va vb).run P w = .ok r w := by
 unfold ZgM at h
 split at h
 ·-- int
  rename_i kd
  split at h
  ·rename_i k x j y
   simp only [VR] at ha hb; subst ha; subst hb
   obtain ⟨h1, h2⟩ := Zbt h
   have := ZJo h1; subst this
   cases h2
   rw [run_equalIn_int w m t _ _ _ _ hd, Zbd]
  ·cases h
 ·split at h
  ·simp only [VR] at ha hb; subst ha; subst hb; cases h
   rw [run_equalIn_bool w m t _ _ hd, ZfO]
  ·cases h
 ·split at h
  ·simp only [VR] at ha hb; subst ha; subst hb; cases h
   rw [run_equalIn_string w m t _ _ hd, Zf8, Ya, Ya]
  ·cases h
 ·-- pointers
  rename_i e
  split at h
  ·simp only [VR] at ha hb; subst ha; subst hb; cases h
   simp [Op.equalIn, run_underlying hd]
  ·simp only [VR] at ha hb; subst ha; obtain ⟨p, u, _, rfl⟩ := hb; cases h
   simp [Op.equalIn, run_underlying hd]
  ·simp only [VR] at ha hb; subst hb; obtain ⟨p, u, _, rfl⟩ := ha; cases h
   simp [Op.equalIn, run_underlying hd]
  ·rename_i b o b' o'
   split at h
   ·rename_i sz hsz
    simp only [VR] at ha hb; obtain ⟨p, u, hs1, rfl⟩ := ha; obtain ⟨q, v, hs2, rfl⟩ := hb
    have e0 : (Op.equalIn (m + 1) t (.pointer (some ⟨p, o, none⟩)) (.pointer (some ⟨q, o', none⟩))).run P w = (sameAddr ⟨p, o, none⟩ ⟨q, o', none⟩).run P w := by
     simp [Op.equalIn, run_underlying hd, YF hsz]
    rw [e0]
    cases hbb : Nat.beq b b'
    ·rw [hbb] at h
     simp only [cond_false] at h
     have hne : b ≠ b' := fun e => by rw [e, Nat.beq_refl] at hbb; cases hbb
     split at h
     ·rename_i c1 hc1
      split at h
      ·rename_i c2 hc2
       cases h
       have g1 := hR.at hs1 hc1 (by simp)
       have g2 := hR.at hs2 hc2 (by simp)
       obtain ⟨v1, _, r1⟩ := g1
       obtain ⟨v2, _, r2⟩ := g2
       obtain ⟨a1, t1, o1⟩ := r1.obj
       obtain ⟨a2, t2, o2⟩ := r2.obj
       have hpq : p ≠ q := hR.apart b b' p u q v (hR.old _ _ _ hs1).1 (hR.old _ _ _ hs2).1 (by rw [hc1]; simp) (by rw [hc2]; simp) hne hs1 hs2
       exact run_sameAddr_other w (by intro e; cases e; exact hpq rfl) o1 o2
      ·cases h
     ·cases h
    ·rw [hbb] at h
     have := ZJo hbb; subst this
     rw [hs1] at hs2; cases hs2
     cases h
     by_cases he : o = o'
     ·subst he; rw [Nat.beq_refl, run_sameAddr_same]
     ·have hf : Nat.beq o o' = false := by cases hq : Nat.beq o o'; rfl; exact absurd (ZJo hq) he
      rw [hf]; simp [sameAddr, he]
   ·cases h
  ·cases h
 ·split at h
  ·simp only [VR] at ha hb; subst ha; subst hb; cases h
   simp [Op.equalIn, run_underlying hd]
  ·simp only [VR] at ha hb; subst ha; obtain ⟨p, u, o', c, _, rfl, _⟩ := hb; cases h
   simp [Op.equalIn, run_underlying hd]
  ·simp only [VR] at ha hb; subst hb; obtain ⟨p, u, o', c, _, rfl, _⟩ := ha; cases h
   simp [Op.equalIn, run_underlying hd]
  ·cases h
 ·split at h
  ·simp only [VR] at ha hb; subst ha; subst hb; cases h
   simp [Op.equalIn, run_underlying hd]
  ·simp only [VR] at ha hb; subst ha; obtain ⟨p, u, _, rfl⟩ := hb; cases h
   simp [Op.equalIn, run_underlying hd]
  ·simp only [VR] at ha hb; subst hb; obtain ⟨p, u, _, rfl⟩ := ha; cases h
   simp [Op.equalIn, run_underlying hd]
  ·cases h
 ·split at h
  ·simp only [VR] at ha hb; subst ha; subst hb; cases h
   simp [Op.equalIn, run_underlying hd]
  ·simp only [VR] at ha hb; subst ha; obtain ⟨_, _, _, _, rfl⟩ := hb; cases h
   simp [Op.equalIn, run_underlying hd]
  ·simp only [VR] at ha hb; subst ha; obtain ⟨_, _, rfl⟩ := hb; cases h
   simp [Op.equalIn, run_underlying hd]
  ·simp only [VR] at ha hb; subst ha; obtain ⟨_, _, _, rfl⟩ := hb; cases h
   simp [Op.equalIn, run_underlying hd]
  ·simp only [VR] at ha hb; subst hb; obtain ⟨_, _, _, _, rfl⟩ := ha; cases h
   simp [Op.equalIn, run_underlying hd]
  ·simp only [VR] at ha hb; subst hb; obtain ⟨_, _, rfl⟩ := ha; cases h
   simp [Op.equalIn, run_underlying hd]
  ·simp only [VR] at ha hb; subst hb; obtain ⟨_, _, _, rfl⟩ := ha; cases h
   simp [Op.equalIn, run_underlying hd]
  ·cases h
 ·split at h
  ·simp only [VR] at ha hb; subst ha; subst hb; cases h
   simp [Op.equalIn, run_underlying hd]
  ·simp only [VR] at ha hb; subst ha; obtain ⟨_, _, rfl⟩ := hb; cases h
   simp [Op.equalIn, run_underlying hd]
  ·simp only [VR] at ha hb; subst hb; obtain ⟨_, _, rfl⟩ := ha; cases h
   simp [Op.equalIn, run_underlying hd]
  ·rename_i t1 x t2 y
   simp only [VR] at ha hb; obtain ⟨_, _, rfl⟩ := ha; obtain ⟨_, _, rfl⟩ := hb
   cases hq : Nat.beq t1 t2
   ·rw [hq] at h; cases h
    have hne : t1 ≠ t2 := fun e => by rw [e, Nat.beq_refl] at hq; cases hq
    simp [Op.equalIn, run_underlying hd, hne]
   ·rw [hq] at h; cases h
  ·cases h
 ·cases h
theorem Zqs {t : Nat} {d : TypeDesc} (hd : P.underlying t = some d) (ha : Zz6 d = false) {vs : List Value} {o : Nat} {v : Value} (h : vs[o]? = some v) : (Go.part t vs.toArray o).run P w = .ok v w := by
 have e : Go.part t vs.toArray o = (isAgg t).bind (fun x => if x then ((sizeOf t).bind fun k => Sem.pure (Value.agg (vs.toArray.extract o (o + k)))) else match vs.toArray[o]? with | some v => Sem.pure v | none => stuck "part: no such cell") := by
  unfold Go.part; rfl
 rw [e, Sem.run_bind', ZdP hd, ha]
 simp [Result.andThen, Sem.run, h]
theorem Zff (hR : Rel w0 σ hp n w) {x y : List CV} {vx vy : List Value} (hx : VRs σ x vx) (hy : VRs σ y vy) (m : Nat) : ∀ (fs : List Field) {r : Bool}, Zqk hp P x y fs = some r -> (Op.eqFields (m + 1) vx.toArray vy.toArray fs).run P w = .ok r w
 | [], r, h => by cases h; rfl
 | f :: fs, r, h => by
  unfold Zqk at h
  cases hn : (f.name == "_")
  ·rw [hn] at h; simp only [cond_false] at h
   have hne : f.name ≠ "_" := by simpa using hn
   split at h
   ·rename_i d hd
    have hd := Zf hd
    cases hag : Zz6 d
    ·rw [hag] at h; simp only [cond_false] at h
     split at h
     ·rename_i a b hca hcb
      obtain ⟨va, g1, g2⟩ := hx.get hca
      obtain ⟨vb, g3, g4⟩ := hy.get hcb
      have p1 := Zqs (P := P) (w := w) hd hag g1
      have p2 := Zqs (P := P) (w := w) hd hag g3
      split at h
      ·rename_i he
       have e1 := Zcz hR hd g2 g4 he m
       simp [Op.eqFields, hne, p1, p2, e1, Zff hR hx hy m fs h]
      ·rename_i he
       cases h
       have e1 := Zcz hR hd g2 g4 he m
       simp [Op.eqFields, hne, p1, p2, e1]
      ·cases h
     ·cases h
    ·rw [hag] at h; cases h
   ·cases h
  ·rw [hn] at h; cases h
theorem Zdm (hR : Rel w0 σ hp n w) {t : Nat} {a b : CV} {va vb : Value} (ha : VR σ a va) (hb : VR σ b vb) {r : Bool} (h : Zle P hp t a b = some r) :
  (Op.equal t va vb).run P w = .ok r w /\ (∀ xs ys, va = .agg xs -> vb = .agg ys -> P.eqGuardType P.depth t = false) := by
 unfold Zle at h
 split at h
 ·rename_i d hd
  have hd := Zf hd
  split at h
  ·rename_i fs _
   split at h
   ·rename_i x y
    obtain ⟨hg, h⟩ := Zbt h
    cases hs : P.stoodInHeld t
    ·rw [hs] at hg; simp only [cond_false, ZJm] at hg
     simp only [VR] at ha hb; obtain ⟨vx, g1, rfl⟩ := ha; obtain ⟨vy, g2, rfl⟩ := hb
     refine ⟨?_, fun _ _ _ _ => hg⟩
     have hf : P.underlying t = some (.struct (P.fieldsOf t)) := by
      have : P.fieldsOf t = fs := by simp [Program.fieldsOf, hd]
      rw [this]; exact hd
     have hff : P.fieldsOf t = fs := by simp [Program.fieldsOf, hd]
     show (Op.equalIn (9999 + 1) t _ _).run P w = _
     rw [run_equalIn_struct w 9999 t _ _ hf hs, hff]
     exact Zff hR g1 g2 9998 _ h
    ·rw [hs] at hg; cases hg
   ·cases h
  ·rename_i hns
   refine ⟨Zcz hR hd ha hb h 9999, fun xs ys e1 e2 => ?_⟩
   subst e1
   exfalso
   cases a <;> simp only [VR] at ha
   all_goals first | (cases ha; done) | (obtain ⟨_, _, _, hc⟩ := ha; cases hc; done) | (obtain ⟨_, _, hc⟩ := ha; cases hc; done) | (obtain ⟨_, _, _, _, _, hc, _⟩ := ha; cases hc; done) | (obtain ⟨_, _, _, _, hc⟩ := ha; cases hc; done) | skip
   all_goals (unfold ZgM at h; cases d <;> simp at h)
 ·cases h
theorem ZhT {t : Nat} {a b : CV} {r : Bool} (h : Zle P hp t a b = some r) : a ≠ .junk /\ b ≠ .junk := by
 unfold Zle at h
 split at h
 ·rename_i d hd
  split at h
  ·split at h
   ·exact ⟨by simp, by simp⟩
   ·cases h
  ·constructor
   ·rintro rfl; unfold ZgM at h; cases d <;> simp at h
   ·rintro rfl; unfold ZgM at h; cases d <;> cases a <;> simp at h
 ·cases h
theorem ZxB {a : CV} (hj : a ≠ .junk) (ha : VR σ a .nilIface) : a = .nili := by
 cases a <;> simp only [VR] at ha
 all_goals first | rfl | exact absurd rfl hj | (cases ha; done) | (obtain ⟨_, _, _, hc⟩ := ha; cases hc; done) | (obtain ⟨_, _, hc⟩ := ha; cases hc; done) | (obtain ⟨_, _, _, _, _, hc, _⟩ := ha; cases hc; done) | (obtain ⟨_, _, _, _, hc⟩ := ha; cases hc; done)
theorem ZsS {op : BinOp} {t : Nat} {x y : Operand} (h : ZfW x = true \/ ZfW y = true) : (eqGuard op t x y .nilIface .nilIface).run P w = .ok () w := by
 cases op <;> try rfl
 all_goals (cases x <;> cases y <;> first | rfl | (exfalso; rcases h with h | h <;> cases h))
theorem Zn4 (hR : Rel w0 σ hp n w) {op : BinOp} {t : Nat} {x y : Operand} {a b : CV} {va vb : Value} (ha : VR σ a va) (hb : VR σ b vb) {r : Bool} (h : Zle P hp t a b = some r) (ht : ZoX x y a b = false) :
  (eqGuard op t x y va vb).run P w = .ok () w := by
 have hg := (Zdm hR ha hb h).2
 obtain ⟨j1, j2⟩ := ZhT h
 by_cases h1 : va = .nilIface /\ vb = .nilIface
 ·obtain ⟨rfl, rfl⟩ := h1
  have := ZxB j1 ha; subst this
  have := ZxB j2 hb; subst this
  refine ZsS ?_
  unfold ZoX at ht
  cases hx : ZfW x
  ·rw [hx] at ht; simp only [cond_false] at ht; right; simpa using ht
  ·exact .inl rfl
 ·by_cases h2 : (∃ xs, va = .agg xs) /\ (∃ ys, vb = .agg ys)
  ·obtain ⟨⟨xs, rfl⟩, ⟨ys, rfl⟩⟩ := h2
   exact run_eqGuard_agg w _ t x y _ _ (hg _ _ rfl rfl)
  ·cases op <;> try rfl
   all_goals
    cases va <;> cases vb <;> first | rfl | exact absurd ⟨rfl, rfl⟩ h1 | exact absurd ⟨⟨_, rfl⟩, ⟨_, rfl⟩⟩ h2
theorem Zsk {t : Nat} {va vb : Value} (h : ∀ i j x y, va = .int i x -> vb = .int j y -> False) (h2 : ∀ x y, va = .string x -> vb = .string y -> False)
  (h3 : ∀ i j x y, va = .float i x -> vb = .float j y -> False) (h4 : ∀ i j x y z u, va = .complex i x z -> vb = .complex j y u -> False) :
  binOp .eql t va vb = (do pure (.bool (<- Op.equal t va vb))) /\ binOp .neq t va vb = (do pure (.bool (!(<- Op.equal t va vb)))) := by
 cases va <;> cases vb <;> first | exact ⟨rfl, rfl⟩ | exact (h _ _ _ _ rfl rfl).elim | exact (h2 _ _ rfl rfl).elim | exact (h3 _ _ _ _ rfl rfl).elim | exact (h4 _ _ _ _ _ _ rfl rfl).elim
end
end Go.Cx
namespace Go.Cx
open Go.RowKit (Below)
section
variable {P : Program} {w0 : World} {σ : Sg} {hp : H} {n : Nat} {w : World} {fr : F} {ev : Operand -> Value} {k : CV -> Res} {φ : Out -> Prop}
theorem Zkw {a : CV} (hj : a ≠ .junk) {i : IntKind} {x : Int} (ha : VR σ a (.int i x)) : ∃ k, a = .int k x := by
 cases a <;> simp only [VR] at ha
 all_goals first | exact absurd rfl hj | (cases ha; exact ⟨_, rfl⟩) | (cases ha; done) | (obtain ⟨_, _, _, hc⟩ := ha; cases hc; done) | (obtain ⟨_, _, hc⟩ := ha; cases hc; done) | (obtain ⟨_, _, _, _, _, hc, _⟩ := ha; cases hc; done) | (obtain ⟨_, _, _, _, hc⟩ := ha; cases hc; done)
theorem Zk2 {a : CV} (hj : a ≠ .junk) {x : ByteArray} (ha : VR σ a (.string x)) : ∃ l m, a = .str l m := by
 cases a <;> simp only [VR] at ha
 all_goals first | exact absurd rfl hj | exact ⟨_, _, rfl⟩ | (cases ha; done) | (obtain ⟨_, _, _, hc⟩ := ha; cases hc; done) | (obtain ⟨_, _, hc⟩ := ha; cases hc; done) | (obtain ⟨_, _, _, _, _, hc, _⟩ := ha; cases hc; done) | (obtain ⟨_, _, _, _, hc⟩ := ha; cases hc; done)
theorem Zne {a : CV} (hj : a ≠ .junk) {f : FloatKind} {x : Nat} (ha : VR σ a (.float f x)) : False := by
 cases a <;> simp only [VR] at ha
 all_goals first | exact absurd rfl hj | (cases ha; done) | (obtain ⟨_, _, _, hc⟩ := ha; cases hc; done) | (obtain ⟨_, _, hc⟩ := ha; cases hc; done) | (obtain ⟨_, _, _, _, _, hc, _⟩ := ha; cases hc; done) | (obtain ⟨_, _, _, _, hc⟩ := ha; cases hc; done)
theorem Zix {a : CV} (hj : a ≠ .junk) {f : FloatKind} {x y : Nat} (ha : VR σ a (.complex f x y)) : False := by
 cases a <;> simp only [VR] at ha
 all_goals first | exact absurd rfl hj | (cases ha; done) | (obtain ⟨_, _, _, hc⟩ := ha; cases hc; done) | (obtain ⟨_, _, hc⟩ := ha; cases hc; done) | (obtain ⟨_, _, _, _, _, hc, _⟩ := ha; cases hc; done) | (obtain ⟨_, _, _, _, hc⟩ := ha; cases hc; done)
theorem q_bin (hR : Rel w0 σ hp n w) (hL : ∀ x, VR σ (lk fr x) (ev x)) {op : BinOp} {t : Nat} {x y : Operand} (h : Zv (ZAQ P fr hp op t x y k) φ) :
  QR P σ w (do eqGuard op t x y (ev x) (ev y); binOp op t (ev x) (ev y)) k φ := by
 unfold ZAQ at h
 have hx := hL x
 have hy := hL y
 split at h
 ·rename_i kd a kd' b e1 e2
  rw [e1] at hx; rw [e2] at hy
  simp only [VR] at hx hy
  have key : QR P σ w (binOp op t (.int (kc kd) a) (.int (kc kd') b)) k φ := by
   split at h
   ·exact q_sh t (.inl rfl) h
   ·exact q_sh t (.inr rfl) h
   ·rename_i n1 n2
    obtain ⟨g, h2⟩ := h.bif
    have := ZJo g; subst this
    exact q_int t (fun e => n1 e) (fun e => n2 e) h2
  obtain ⟨c, v, g1, g2, g3⟩ := key
  rw [hx, hy]
  exact ⟨c, v, Ym rfl g1, g2, g3⟩
 ·rename_i l m l' m' e1 e2
  rw [e1] at hx; rw [e2] at hy
  simp only [VR] at hx hy
  obtain ⟨c, v, g1, g2, g3⟩ := q_str (P := P) (σ := σ) (w := w) t h
  rw [hx, hy]
  exact ⟨c, v, Ym rfl g1, g2, g3⟩
 ·rename_i n1 n2
  cases ht : ZoX x y (lk fr x) (lk fr y)
  ·rw [ht] at h; simp only [cond_false] at h
   have pre : ∀ {r : Bool}, Zle P hp t (lk fr x) (lk fr y) = some r -> binOp .eql t (ev x) (ev y) = (do pure (.bool (<- Op.equal t (ev x) (ev y)))) /\ binOp .neq t (ev x) (ev y) = (do pure (.bool (!(<- Op.equal t (ev x) (ev y))))) := fun hr => by
    obtain ⟨j1, j2⟩ := ZhT hr
    refine Zsk (fun i j a b e1 e2 => ?_) (fun a b e1 e2 => ?_) (fun i j a b e1 e2 => ?_) (fun i j a b c d e1 e2 => ?_)
    ·rw [e1] at hx; rw [e2] at hy
     obtain ⟨k1, q1⟩ := Zkw j1 hx; obtain ⟨k2, q2⟩ := Zkw j2 hy
     exact n1 _ _ _ _ q1 q2
    ·rw [e1] at hx; rw [e2] at hy
     obtain ⟨k1, m1, q1⟩ := Zk2 j1 hx; obtain ⟨k2, m2, q2⟩ := Zk2 j2 hy
     exact n2 _ _ _ _ q1 q2
    ·rw [e1] at hx; exact Zne j1 hx
    ·rw [e1] at hx; exact Zix j1 hx
   split at h
   ·split at h
    ·rename_i r hr
     have e := (Zdm hR hx hy hr).1
     refine ⟨_, .bool r, ?_, by simp only [VR], h⟩
     have g := Zn4 hR hx hy hr ht (op := .eql)
     have e2 : (do eqGuard .eql t x y (ev x) (ev y); binOp .eql t (ev x) (ev y) : Sem Value) = (eqGuard .eql t x y (ev x) (ev y)).bind fun _ => binOp .eql t (ev x) (ev y) := rfl
     rw [e2, Sem.run_bind', g]; simp only [Result.andThen]
     rw [(pre hr).1]
     rw [show (do pure (.bool (<- Op.equal t (ev x) (ev y))) : Sem Value) = (Op.equal t (ev x) (ev y)).bind (fun r => Sem.pure (.bool r)) from rfl, Sem.run_bind', e]
     rfl
    ·exact h.no.elim
   ·split at h
    ·rename_i r hr
     have e := (Zdm hR hx hy hr).1
     refine ⟨_, .bool (!r), ?_, by simp only [VR], h⟩
     have g := Zn4 hR hx hy hr ht (op := .neq)
     have e2 : (do eqGuard .neq t x y (ev x) (ev y); binOp .neq t (ev x) (ev y) : Sem Value) = (eqGuard .neq t x y (ev x) (ev y)).bind fun _ => binOp .neq t (ev x) (ev y) := rfl
     rw [e2, Sem.run_bind', g]; simp only [Result.andThen]
     rw [(pre hr).2]
     rw [show (do pure (.bool (!(<- Op.equal t (ev x) (ev y)))) : Sem Value) = (Op.equal t (ev x) (ev y)).bind (fun r => Sem.pure (.bool (!r))) from rfl, Sem.run_bind', e]
     rfl
    ·exact h.no.elim
   ·exact h.no.elim
  ·rw [ht] at h; exact h.no.elim
theorem q_un (hL : ∀ x, VR σ (lk fr x) (ev x)) {op : UnOp} {x : Operand} (h : Zv (qUn fr op x k) φ) : QR P σ w (Op.unary op (ev x)) k φ := by
 unfold qUn at h
 have hx := hL x
 split at h
 ·rename_i b e; rw [e] at hx; simp only [VR] at hx
  exact ⟨_, .bool (!b), by rw [hx]; rfl, by simp only [VR], h⟩
 ·rename_i kd m e; rw [e] at hx; simp only [VR] at hx
  rw [ZbJ] at h
  exact ⟨_, _, by rw [hx]; rfl, by simp only [VR], h⟩
 ·rename_i kd m e; rw [e] at hx; simp only [VR] at hx
  exact ⟨_, _, by rw [hx]; rfl, by simp only [VR], h⟩
 ·exact h.no.elim
theorem ZAY (hR : Rel w0 σ hp n w) (hL : ∀ x, VR σ (lk fr x) (ev x)) {src dst : Nat} {x : Operand} (h : Zv (ZqT P fr hp src dst x k) φ) : QR P σ w (convert src dst (ev x)) k φ := by
 unfold ZqT at h
 have hx := hL x
 split at h
 ·rename_i kd k' m hd e; rw [e] at hx; simp only [VR] at hx
  split at h
  ·rename_i ds hs
   rw [ZbJ, ZjP] at h
   refine ⟨_, .int kd (kd.wrap m), ?_, by simp only [VR, ZjP], h⟩
   rw [hx]
   have h1 := Zf hd; have h2 := Zf hs
   cases ds <;> simp [convert, run_underlying h1, run_underlying h2, Conv.intToInt]
  ·exact h.no.elim
 ·rename_i l m hd e; rw [e] at hx; simp only [VR] at hx
  split at h
  ·rename_i ds hs
   refine ⟨_, .string ⟨(bys l m).toArray⟩, ?_, by simp only [VR], h⟩
   rw [hx]
   have h1 := Zf hd; have h2 := Zf hs
   cases ds <;> simp [convert, run_underlying h1, run_underlying h2]
  ·exact h.no.elim
 ·rename_i hd e; rw [e] at hx; simp only [VR] at hx
  split at h
  ·rename_i el hs
   obtain ⟨hu, h⟩ := h.bif
   refine ⟨_, .string ⟨(bys 0 0).toArray⟩, ?_, by simp only [VR], h⟩
   rw [hx, run_convert_bytes_string w src dst el none 0 0 (Zf hs) (Zci hu) (Zf hd)]; rfl
  ·exact h.no.elim
 ·rename_i b o s l kk ex hd e; rw [e] at hx; simp only [VR] at hx
  obtain ⟨p, u, o', c, hs, hv, hlk, hkc, hex, ho, hle, heq⟩ := hx
  split at h
  ·rename_i el hsl
   obtain ⟨hu, h'⟩ := h.bif
   clear h
   split at h'
   ·rename_i m y hb
    have hrow := (hR.at hs hb (by simp)).1
    cases hl0 : Nat.beq l 0
    ·rw [hl0] at h'; simp only [cond_false] at h'
     obtain ⟨hom, h⟩ := h'.bif
     clear h'
     have hom := ZJA hom
     have hl1 : l ≠ 0 := fun e => by rw [e] at hl0; cases hl0
     have hoo := ho (.inl (by omega)); subst hoo
     refine ⟨_, .string ⟨(bys l (Zng y o' l)).toArray⟩, ?_, by simp only [VR], h⟩
     rw [hv]
     have := run_convert_bytes_back (P := P) w src dst el ⟨p, o', none⟩ c (bys l (Zng y o' l)) (Zf hsl) (Zci hu) (Zf hd) (fun j hj => by
      rw [add_eq]
      rw [Zp] at hj
      refine (Row.cell hrow ?_).1
      rw [ZJj]
      have e1 := ZmB m y o' l hom
      have e2 : (bys m y)[o' + j]? = some (bys l (Zng y o' l))[j] := by
       have : (bys l (Zng y o' l))[j]? = some (bys l (Zng y o' l))[j] := ZJq (by rw [Zp]; exact hj)
       rw [<- this, <- e1, List.getElem?_take_of_lt hj, ZJM]
      rw [e2]; rfl)
     rw [Zp] at this; exact this
    ·rw [hl0] at h'; simp only [cond_true] at h'
     have := ZJo hl0; subst this
     refine ⟨_, .string ⟨(bys 0 0).toArray⟩, ?_, by simp only [VR], h'⟩
     rw [hv]
     exact run_convert_bytes_back (P := P) w src dst el ⟨p, o', none⟩ c [] (Zf hsl) (Zci hu) (Zf hd) (fun j hj => by simp at hj)
   ·exact h'.no.elim
  ·exact h.no.elim
 ·exact h.no.elim
theorem Zyr (hL : ∀ x, VR σ (lk fr x) (ev x)) {t : Operand} {ix : Nat} (h : Zv (Zd2 fr t ix k) φ) : QR P σ w (Instr.extract (ev t) ix) k φ := by
 unfold Zd2 at h
 have hx := hL t
 split at h
 ·rename_i vs e; rw [e] at hx; simp only [VR] at hx
  obtain ⟨ws, h1, hv⟩ := hx
  split at h
  ·rename_i c hc
   obtain ⟨y, g1, g2⟩ := h1.get hc
   exact ⟨_, y, by rw [hv]; simp [Instr.extract, g1], g2, h⟩
  ·exact h.no.elim
 ·exact h.no.elim
theorem ZEZ (hL : ∀ x, VR σ (lk fr x) (ev x)) {t : Nat} {x : Operand} (h : Zv (ZoU P fr t x k) φ) : QR P σ w (Instr.makeInterface t (ev x)) k φ := by
 unfold ZoU at h
 split at h
 ·exact h.no.elim
 ·rename_i d hni hd
  have h1 := Zf hd
  split at h
  ·exact h.no.elim
  ·refine ⟨_, .iface t (ev x), ?_, by simp only [VR]; exact ⟨_, hL x, rfl⟩, h⟩
   cases d <;> first | exact (hni _ rfl).elim | simp [Instr.makeInterface, run_underlying h1]
 ·exact h.no.elim
theorem Zrh (hL : ∀ x, VR σ (lk fr x) (ev x)) : ∀ (l : List Operand), VRs σ (lks fr l) (l.map ev)
 | [] => by simp only [lks, VRs, List.map_nil]
 | x :: l => by simp only [lks, VRs, ZJw]; exact ⟨_, _, rfl, hL x, Zrh hL l⟩
theorem amap (a : Array Operand) : a.map ev = (a.toList.map ev).toArray := by apply Array.ext'; simp
theorem ZDI (hL : ∀ x, VR σ (lk fr x) (ev x)) {fn : Fn} {first caps : Array Operand} (h : Zv (ZoH fr fn first caps k) φ) : QR P σ w (Instr.makeFunc fn (first.map ev) (caps.map ev)) k φ := by
 unfold ZoH at h
 split at h
 ·rename_i f
  exact ⟨_, _, rfl, by simp only [VR]; exact ⟨_, _, Zrh hL _, Zrh hL _, by rw [amap, amap]⟩, h⟩
 ·rename_i name
  split at h
  ·rename_i x e1 e2
   have hx := hL x
   split at h
   ·rename_i t v e
    rw [e] at hx
    have f1 : first = #[x] := by rw [<- Array.toArray_toList (xs := first), e1]
    have f2 : caps = #[] := by rw [<- Array.toArray_toList (xs := caps), e2]
    subst f1; subst f2
    exact ⟨_, _, rfl, by simp only [VR] at hx ⊢; exact ⟨_, hx, by simp⟩, h⟩
   ·exact h.no.elim
  ·exact h.no.elim
 ·exact h.no.elim
end
end Go.Cx
namespace Go.Cx
open Go.RowKit (Below)
section
variable {P : Program} {w0 : World} {σ : Sg} {hp : H} {n : Nat} {w : World} {fr : F} {ev : Operand -> Value} {k : CV -> Res} {φ : Out -> Prop}
theorem Zen {t : Nat} {c : CV} (h : Zje P t = some c) : ∃ i zv, P.info? t = some i /\ i.zero = some zv /\ VR σ c zv := by
 unfold Zje at h
 split at h
 ·rename_i i hi
  split at h
  ·rename_i zv hz; cases h; exact ⟨i, zv, YQ hi, hz, Zxb _⟩
  ·cases h
 ·cases h
/-! ### Maps -/
theorem ZgN {d : TypeDesc} {x y : CV} {vx vy : Value} (hx : VR σ x vx) (hy : VR σ y vy) {b : Bool} (h : Znc x y = some b)
  (hd : (∃ kd k a, d = .int kd /\ x = .int k a) \/ (d = .string /\ ∃ l m, x = .str l m) \/ (d = .bool /\ ∃ a, x = .bool a) \/ (∃ e, d = .pointer e) /\ ∃ a o, x = .ptr a o) : Instr.sameNow d vx vy = some b := by
 unfold Znc at h
 split at h
 ·rename_i k a j c
  obtain ⟨h1, h2⟩ := Zbt h
  have := ZJo h1; subst this
  cases h2
  simp only [VR] at hx hy; subst hx; subst hy
  rcases hd with ⟨kd, _, _, rfl, _⟩ | ⟨_, _, _, hc⟩ | ⟨_, _, hc⟩ | ⟨_, _, _, hc⟩
  ·simp [Instr.sameNow, Zbd]
  ·cases hc
  ·cases hc
  ·cases hc
 ·simp only [VR] at hx hy; subst hx; subst hy; cases h
  rcases hd with ⟨kd, _, _, rfl, hc⟩ | ⟨_, _, _, hc⟩ | ⟨rfl, _, hc⟩ | ⟨_, _, _, hc⟩
  ·cases hc
  ·cases hc
  ·simp [Instr.sameNow, ZfO]
  ·cases hc
 ·rename_i l m l' m'
  simp only [VR] at hx hy; subst hx; subst hy; cases h
  rcases hd with ⟨kd, _, _, rfl, hc⟩ | ⟨rfl, _, _, hc⟩ | ⟨rfl, _, hc⟩ | ⟨_, _, _, hc⟩
  ·cases hc
  ·simp only [Instr.sameNow]; rw [beq_toListBytes, Ya, Ya, Zf8]
  ·cases hc
  ·cases hc
 ·cases h
def KeyD (d : TypeDesc) (x : CV) : Prop := (∃ kd k a, d = .int kd /\ x = .int k a) \/ (d = .string /\ ∃ l m, x = .str l m) \/ (d = .bool /\ ∃ a, x = .bool a) \/ (∃ e, d = .pointer e) /\ ∃ a o, x = .ptr a o
theorem ZaX {t : Nat} {x : CV} (h : ZeE P t x = true) : ∃ d, P.underlying t = some d /\ KeyD d x := by
 unfold ZeE at h
 split at h
 ·rename_i hd; exact ⟨_, Zf hd, .inl ⟨_, _, _, rfl, rfl⟩⟩
 ·rename_i hd; exact ⟨_, Zf hd, .inr (.inl ⟨rfl, _, _, rfl⟩)⟩
 ·rename_i hd; exact ⟨_, Zf hd, .inr (.inr (.inl ⟨rfl, _, rfl⟩))⟩
 ·rename_i hd; exact ⟨_, Zf hd, .inr (.inr (.inr ⟨⟨_, rfl⟩, _, _, rfl⟩))⟩
 ·cases h
theorem ZaQ {b : Bool} {kt : TypeId} {d : TypeDesc} {x : CV} (hk : P.underlying kt = some d) (hd : KeyD d x) (v : Value) (w : World) : (Instr.checkKey b 10000 kt v).run P w = .ok () w := by
 rw [show (10000 : Nat) = 9999 + 1 from rfl, Instr.checkKey]
 rcases hd with ⟨_, _, _, rfl, _⟩ | ⟨rfl, _⟩ | ⟨rfl, _⟩ | ⟨⟨_, rfl⟩, _⟩ <;> simp [run_underlying hk]
def Same2 (σ : Sg) : Option (Nat × CV) -> Option (Nat × Value) -> Prop
 | none, none => True
 | some (j, v), some (j', v') => j = j' /\ VR σ v v'
 | _, _ => False
theorem Z8 {d : TypeDesc} {x : CV} {vx : Value} (hx : VR σ x vx) (hd : KeyD d x) : ∀ {es : List Ent} {ms : List MapEntry} {i : Nat} {r : Option (Nat × CV)}, ZG σ es ms -> ZiP x es i = some r →
  ∃ r', Instr.findNow d vx ms i = some r' /\ Same2 σ r r'
 | [], ms, i, r, he, h => by cases he; cases h; exact ⟨none, rfl, trivial⟩
 | e :: es, ms, i, r, he, h => by
  unfold ZG at he
  obtain ⟨m, ns, rfl, h1, h2, h3, h4⟩ := he
  unfold ZiP at h
  split at h
  ·rename_i hk
   cases h
   exact ⟨some (i, m.val), by unfold Instr.findNow; rw [ZgN hx h1 hk hd], rfl, h2⟩
  ·rename_i hk
   obtain ⟨r', g1, g2⟩ := Z8 hx hd h4 h
   exact ⟨r', by unfold Instr.findNow; rw [ZgN hx h1 hk hd]; exact g1, g2⟩
  ·cases h
theorem ZG.len : ∀ {es : List Ent} {ms : List MapEntry}, ZG σ es ms -> es.length = ms.length
 | [], _, h => by cases h; rfl
 | e :: es, _, h => by unfold ZG at h; obtain ⟨m, ns, rfl, _, _, _, h4⟩ := h; simp [ZG.len h4]
theorem Yq {kt : TypeId} {d : TypeDesc} (hk : P.underlying kt = some d) {v : Value} {ms : List MapEntry} {r : Option (Nat × Value)} (h : Instr.findNow d v ms 0 = some r) (w : World) : (Instr.findKey kt v ms).run P w = .ok r w := by
 simp [Instr.findKey, run_underlying hk, h]
theorem ZlF (hR : Rel w0 σ hp n w) {x : CV} {vx : Value} (hx : VR σ x vx) {es : List Ent} (h : Ztb hp x = some es) :
  ∃ ms : List MapEntry, ZG σ es ms /\ ((vx = .map none /\ ms = []) \/ ∃ b c, vx = .map (some b) /\ w.heap[b]? = some (.map ms.toArray c)) := by
 unfold Ztb at h
 split at h
 ·simp only [VR] at hx; cases h
  exact ⟨[], rfl, .inl ⟨hx, rfl⟩⟩
 ·rename_i b; simp only [VR] at hx
  obtain ⟨p, u, hs, hv⟩ := hx
  split at h
  ·rename_i es c hb
   cases h
   obtain ⟨ms, g1, g2⟩ := hR.at hs hb (by simp)
   exact ⟨ms, g1, .inr ⟨p, c, hv, g2⟩⟩
  ·cases h
 ·cases h
theorem ZcC {t kt et : TypeId} (ht : P.underlying t = some (.map kt et)) {vx vi : Value} {ms : List MapEntry} (he : (vx = .map none /\ ms = []) \/ ∃ b c, vx = .map (some b) /\ w.heap[b]? = some (.map ms.toArray c))
  (hck : ∀ b, (Instr.checkKey b 10000 kt vi).run P w = .ok () w) {r : Option (Nat × Value)} (hf : (Instr.findKey kt vi ms).run P w = .ok r w) (ok : Bool) :
  (∀ j v, r = some (j, v) -> (Instr.lookup t vx vi ok).run P w = .ok (if ok then .tuple #[v, .bool true] else v) w) ∧
  (r = none -> ∀ z, (zeroValue et).run P w = .ok z w -> (Instr.lookup t vx vi ok).run P w = .ok (if ok then .tuple #[z, .bool false] else z) w) := by
 rcases he with ⟨rfl, rfl⟩ | ⟨b, c, rfl, hb⟩
 ·constructor
  ·rintro j v rfl; simp [Instr.lookup, run_underlying ht, hck, hf]
  ·rintro rfl z hz; simp [Instr.lookup, run_underlying ht, hck, hf, hz]
 ·have hg : (getObj b).run P w = .ok (.map ms.toArray c) w := by simp [getObj, Sem.run, hb]
  constructor
  ·rintro j v rfl; simp [Instr.lookup, run_underlying ht, hck, hf, hg]
  ·rintro rfl z hz; simp [Instr.lookup, run_underlying ht, hck, hf, hg, hz]
theorem Zwh {ok : Bool} {c : CV} {v : Value} (b : Bool) (h : VR σ c v) : VR σ (bif ok then .tup [c, .bool b] else c) (if ok then .tuple #[v, .bool b] else v) := by
 cases ok
 ·simpa using h
 ·simp only [cond_true, if_true, VR, VRs]; exact ⟨_, ⟨_, _, rfl, h, _, _, rfl, rfl, rfl⟩, rfl⟩
theorem ZIi (hR : Rel w0 σ hp n w) (hL : ∀ x, VR σ (lk fr x) (ev x)) {t : Nat} {x ix : Operand} {ok : Bool} (h : Zv (ZAk P fr hp t x ix ok k) φ) : QR P σ w (Instr.lookup t (ev x) (ev ix) ok) k φ := by
 unfold ZAk at h
 split at h
 ·rename_i kt et ht
  obtain ⟨hkk, h2⟩ := h.bif
  clear h
  have ht := Zf ht
  obtain ⟨d, hk, hd⟩ := ZaX hkk
  split at h2
  ·rename_i es hes
   obtain ⟨ms, g1, g2⟩ := ZlF hR (hL x) hes
   split at h2
   ·rename_i j v hf
    obtain ⟨r', g3, g4⟩ := Z8 (hL ix) hd g1 hf
    cases r' with
    | none => exact g4.elim
    | some p =>
     obtain ⟨j', mv⟩ := p
     exact ⟨_, _, (ZcC ht g2 (fun b => ZaQ hk hd _ w) (Yq hk g3 w) ok).1 _ _ rfl, Zwh true g4.2, h2⟩
   ·rename_i hf
    obtain ⟨r', g3, g4⟩ := Z8 (hL ix) hd g1 hf
    cases r' with
    | some p => exact g4.elim
    | none =>
     split at h2
     ·rename_i v hz
      obtain ⟨i, zv, z1, z2, z3⟩ := Zen hz
      exact ⟨_, _, (ZcC ht g2 (fun b => ZaQ hk hd _ w) (Yq hk g3 w) ok).2 rfl _ (Zu z1 z2 w), Zwh false z3, h2⟩
     ·exact h2.no.elim
   ·exact h2.no.elim
  ·exact h2.no.elim
 ·exact h.no.elim
/-! ### Builtins -/
theorem q_len (hR : Rel w0 σ hp n w) {x : CV} {vx : Value} (hx : VR σ x vx) {t ty : Nat} {ts : Array Nat} (h0 : ts[0]? = some t) (h : Zv (ZIa P hp x t k) φ) : QR P σ w (Builtin.len_ ts ty #[vx]) k φ := by
 unfold ZIa at h
 split at h
 ·rename_i l m hd; simp only [VR] at hx; subst hx
  have hz : (⟨(bys l m).toArray⟩ : ByteArray).size = l := by simp [ByteArray.size, Zp]
  exact ⟨_, .int .i64 l, by simp [Builtin.len_, h0, run_underlying (Zf hd), goInt, hz], by simp only [VR]; rfl, h⟩
 ·rename_i e hd; simp only [VR] at hx; subst hx
  exact ⟨_, .int .i64 0, by simp [Builtin.len_, h0, run_underlying (Zf hd), goInt], by simp only [VR]; rfl, h⟩
 ·rename_i e b o s l kk ex hd; simp only [VR] at hx; obtain ⟨_, _, _, _, _, rfl, _⟩ := hx
  exact ⟨_, .int .i64 l, by simp [Builtin.len_, h0, run_underlying (Zf hd), goInt], by simp only [VR]; rfl, h⟩
 ·rename_i kt e hd; simp only [VR] at hx; subst hx
  exact ⟨_, .int .i64 0, by simp [Builtin.len_, h0, run_underlying (Zf hd), goInt], by simp only [VR]; rfl, h⟩
 ·rename_i kt e b hd; simp only [VR] at hx; obtain ⟨p, u, hs, rfl⟩ := hx
  split at h
  ·rename_i es c hb
   obtain ⟨ms, g1, g2⟩ := hR.at hs hb (by simp)
   have hg : (getObj p).run P w = .ok (.map ms.toArray c) w := by simp [getObj, Sem.run, g2]
   exact ⟨_, .int .i64 es.length, by simp [Builtin.len_, h0, run_underlying (Zf hd), goInt, hg, g1.len], by simp only [VR]; rfl, h⟩
  ·exact h.no.elim
 ·rename_i m e hd
  exact ⟨_, .int .i64 m, by simp [Builtin.len_, h0, run_underlying (Zf hd), goInt], by simp only [VR]; rfl, h⟩
 ·exact h.no.elim
theorem q_cap {x : CV} {vx : Value} (hx : VR σ x vx) {t ty : Nat} {ts : Array Nat} (h0 : ts[0]? = some t) (h : Zv (qCap P x t k) φ) : QR P σ w (Builtin.cap_ ts ty #[vx]) k φ := by
 unfold qCap at h
 split at h
 ·rename_i e hd; simp only [VR] at hx; subst hx
  exact ⟨_, .int .i64 0, by simp [Builtin.cap_, h0, run_underlying (Zf hd), goInt], by simp only [VR]; rfl, h⟩
 ·rename_i e b o s l c hd; simp only [VR] at hx; obtain ⟨_, _, _, cc, _, rfl, _, _, hex, _⟩ := hx
  have := hex trivial; subst this
  exact ⟨_, .int .i64 cc, by simp [Builtin.cap_, h0, run_underlying (Zf hd), goInt], by simp only [VR]; rfl, h⟩
 ·exact h.no.elim
theorem q_max {x y : CV} {vx vy : Value} (hx : VR σ x vx) (hy : VR σ y vy) {ty : Nat} {ts : Array Nat} (h : Zv (ZeA true x y k) φ) : QR P σ w (Builtin.max_ ts ty #[vx, vy]) k φ := by
 unfold ZeA at h
 split at h
 ·rename_i kd a kd' b
  obtain ⟨_, h2⟩ := h.bif
  simp only [VR] at hx hy; subst hx; subst hy
  exact ⟨_, .int (kc kd) (if b > a then b else a), by simp [Builtin.max_, Builtin.max2], by simp only [VR, cond_true], h2⟩
 ·exact h.no.elim
theorem q_min {x y : CV} {vx vy : Value} (hx : VR σ x vx) (hy : VR σ y vy) {ty : Nat} {ts : Array Nat} (h : Zv (ZeA false x y k) φ) : QR P σ w (Builtin.min_ ts ty #[vx, vy]) k φ := by
 unfold ZeA at h
 split at h
 ·rename_i kd a kd' b
  obtain ⟨_, h2⟩ := h.bif
  simp only [VR] at hx hy; subst hx; subst hy
  exact ⟨_, .int (kc kd) (if b < a then b else a), by simp [Builtin.min_, Builtin.min2], by simp only [VR, cond_false], h2⟩
 ·exact h.no.elim
theorem Zb3 {c : Call} {l : List Operand} (h : c.args.toList = l) : c.args.map ev = (l.map ev).toArray := by rw [amap, h]
theorem ZtS (hR : Rel w0 σ hp n w) (hL : ∀ x, VR σ (lk fr x) (ev x)) {c : Call} {b : Builtin} {ty : Nat} (h : Zv (Zlv P fr hp b c.args.toList c.argTypes.toList k) φ) {consts : Array Bool} :
  ∃ cv v, (builtin b c.argTypes ty consts (c.args.map ev)).run P w = .ok (.value v) w /\ VR σ cv v /\ Zv (k cv) φ := by
 unfold Zlv at h
 split at h
 ·rename_i x t ts ha ht
  have h0 : c.argTypes[0]? = some t := by rw [<- ZJc, ht]; rfl
  obtain ⟨cv, v, g1, g2, g3⟩ := q_len (ty := ty) hR (hL x) h0 h
  refine ⟨cv, v, ?_, g2, g3⟩
  rw [Zb3 ha]
  exact ZH g1
 ·rename_i x t ts ha ht
  have h0 : c.argTypes[0]? = some t := by rw [<- ZJc, ht]; rfl
  obtain ⟨cv, v, g1, g2, g3⟩ := q_cap (P := P) (w := w) (ty := ty) (hL x) h0 h
  refine ⟨cv, v, ?_, g2, g3⟩
  rw [Zb3 ha]
  exact ZH g1
 ·rename_i x y ha
  obtain ⟨cv, v, g1, g2, g3⟩ := q_max (P := P) (w := w) (ty := ty) (ts := c.argTypes) (hL x) (hL y) h
  refine ⟨cv, v, ?_, g2, g3⟩
  rw [Zb3 ha]
  exact ZH g1
 ·rename_i x y ha
  obtain ⟨cv, v, g1, g2, g3⟩ := q_min (P := P) (w := w) (ty := ty) (ts := c.argTypes) (hL x) (hL y) h
  refine ⟨cv, v, ?_, g2, g3⟩
  rw [Zb3 ha]
  exact ZH g1
 ·exact h.no.elim
/-! ### Structs -/
theorem Zbl (off : Nat) : ∀ (vs : List Value) (k : Nat) (cs : Array Value), off + k + vs.length <= cs.size →
  ((vs.zipIdx k).foldl (fun cs (p : Value × Nat) => cs.setIfInBounds (off + p.2) p.1) cs).toList = cs.toList.take (off + k) ++ vs ++ cs.toList.drop (off + k + vs.length)
 | [], k, cs, h => by simp
 | v :: vs, k, cs, h => by
  simp only [List.zipIdx_cons, List.foldl_cons]
  rw [Zbl off vs (k + 1) _ (by simp at h ⊢; omega)]
  simp only [Array.toList_setIfInBounds, ZJH]
  simp only [ZJH] at h
  have hlt : off + k < cs.toList.length := by simp; omega
  apply List.ext_getElem?
  intro i
  simp only [List.getElem?_append, ZJp, ZJs, List.length_set, List.getElem?_take, ZJM, ZJH, Array.length_toList]
  have hsz : (off + (k + 1)) <= cs.size := by omega
  rw [Nat.min_eq_left hsz, Nat.min_eq_left (show off + k <= cs.size by omega)]
  by_cases h1 : i < off + k
  ·rw [if_pos (show i < off + (k + 1) + vs.length by omega), if_pos (show i < off + (k + 1) by omega), if_pos (show i < off + (k + 1) by omega), if_pos (show i < off + k + (vs.length + 1) by omega), if_pos h1, if_pos h1]
   rw [List.getElem?_set_ne (by omega)]
  ·by_cases h2 : i = off + k
   ·subst h2
    rw [if_pos (show off + k < off + (k + 1) + vs.length by omega), if_pos (show off + k < off + (k + 1) by omega), if_pos (show off + k < off + (k + 1) by omega), if_pos (show off + k < off + k + (vs.length + 1) by omega), if_neg h1]
    rw [List.getElem?_set_self (by simpa using hlt)]
    simp
   ·by_cases h3 : i < off + (k + 1) + vs.length
    ·rw [if_pos h3, if_neg (show ¬ i < off + (k + 1) by omega), if_pos (show i < off + k + (vs.length + 1) by omega), if_neg h1]
     rw [show i - (off + k) = (i - (off + (k + 1))) + 1 by omega, List.getElem?_cons_succ]
    ·rw [if_neg h3, if_neg (show ¬ i < off + k + (vs.length + 1) by omega)]
     rw [List.getElem?_set_ne (by omega)]
     congr 1; omega
theorem ZbN (hL : ∀ x, VR σ (lk fr x) (ev x)) {place : Nat -> Option (Nat × Nat)} : ∀ (parts : List (Nat × Operand)) (cs r : List CV) (vs : List Value), VRs σ cs vs -> Zmg place fr parts cs = some r →
  ∃ ws, Instr.fill place vs.toArray (parts.map fun (i, x) => (i, ev x)) = some ws.toArray /\ VRs σ r ws
 | [], cs, r, vs, hv, h => by cases h; exact ⟨vs, rfl, hv⟩
 | (i, x) :: rest, cs, r, vs, hv, h => by
  unfold Zmg at h
  split at h
  ·rename_i off size hpl
   obtain ⟨h1, h4⟩ := Zbt h
   have hj : lk fr x ≠ .junk := by intro e; rw [e] at h1; cases h1
   have h1 : (cellsOf (lk fr x)).length = size := by
    split at h1
    ·cases h1
    ·exact ZJo h1
   have hc := Zjp hj (hL x)
   split at h4
   ·rename_i cs' hov
    obtain ⟨g1, g2⟩ := VRs.put hc hv hov
    obtain ⟨ws, f1, f2⟩ := ZbN hL rest cs' r _ g1 h4
    refine ⟨ws, ?_, f2⟩
    have hsz : (ev x).cells.size = size := by rw [<- Array.length_toList, <- hc.len, h1]
    simp only [ZJw, Instr.fill, hpl]
    rw [if_neg (by rw [hsz]; simp only [Array.length_toList, hsz] at g2; simp; omega)]
    rw [<- f1]
    congr 1
    apply Array.ext'
    rw [<- Array.foldl_toList, Array.toList_zipIdx]
    have := Zbl off (ev x).cells.toList 0 vs.toArray (by simp only [List.size_toArray, Array.length_toList] at g2 ⊢; omega)
    simpa using this
   ·cases h4
  ·cases h
theorem Zcs : ∀ (fs : List Field), Zz2 P fs = true -> ∃ places, fs.mapM (fun f => (P.info? f.type).map fun i => (f.offset, i.size)) = some places /\ ∀ i : Nat, places[i]? = ZgC P fs i
 | [], _ => ⟨[], rfl, by intro i; simp [ZgC, Zeb]⟩
 | f :: fs, h => by
  unfold Zz2 at h
  split at h
  ·rename_i n hn
   obtain ⟨pl, h1, h2⟩ := Zcs fs h
   obtain ⟨i, hi, rfl⟩ := ZdZ hn
   refine ⟨(f.offset, i.size) :: pl, by simp [List.mapM_cons, hi, h1], ?_⟩
   intro j
   cases j with
   | zero => simp [ZgC, Zeb, hn]
   | succ j => simp only [List.getElem?_cons_succ]; rw [h2 j]; rfl
  ·cases h
theorem ZE1 (hL : ∀ x, VR σ (lk fr x) (ev x)) {t : Nat} {parts : Array (Nat × Operand)} (h : Zv (Zoc P fr t parts k) φ) : QR P σ w (Instr.build t (parts.map fun (i, x) => (i, ev x))) k φ := by
 unfold Zoc at h
 have hparts : (parts.map fun (i, x) => (i, ev x)).toList = parts.toList.map fun (i, x) => (i, ev x) := by simp
 split at h
 ·rename_i z hz
  obtain ⟨i, zv, z1, z2, z3⟩ := Y1 (σ := σ) hz
  split at h
  ·rename_i fs hd
   have hu := Zf hd
   obtain ⟨ha, h2⟩ := h.bif
   clear h
   split at h2
   ·rename_i cs hcs
    obtain ⟨pl, p1, p2⟩ := Zcs fs.toList ha
    obtain ⟨ws, f1, f2⟩ := ZbN hL _ _ _ _ z3 hcs
    refine ⟨_, .agg ws.toArray, run_build w t _ _ ?_, by simp only [VR]; exact ⟨ws, f2, rfl⟩, h2⟩
    unfold Program.built
    rw [z1, hu]
    simp only [z2, p1, hparts]
    have e1 : (fun x : Nat => pl.toArray[x]?) = ZgC P fs.toList := by
     funext x; simp only [List.getElem?_toArray]; exact p2 x
    rw [e1]
    simpa using f1
   ·exact h2.no.elim
  ·rename_i m e hd
   have hu := Zf hd
   split at h
   ·rename_i s hs
    split at h
    ·rename_i cs hcs
     obtain ⟨ws, f1, f2⟩ := ZbN hL _ _ _ _ z3 hcs
     refine ⟨_, .agg ws.toArray, run_build w t _ _ ?_, by simp only [VR]; exact ⟨ws, f2, rfl⟩, h⟩
     obtain ⟨ie, hie, rfl⟩ := ZdZ hs
     unfold Program.built
     rw [z1, hu]
     simp only [z2, hie, hparts]
     simpa using f1
    ·exact h.no.elim
   ·exact h.no.elim
  ·exact h.no.elim
 ·exact h.no.elim
/-! ### Assertions -/
theorem Zsm {v : Value} (h : VR σ .nili v) : v = .nilIface := by simpa only [VR] using h
theorem ZAb (hL : ∀ x, VR σ (lk fr x) (ev x)) {t xt : Nat} {x : Operand} {ok : Bool} (h : Zv (Zji P fr x xt t ok k) φ) : QR P σ w (Instr.typeAssert (ev x) xt t ok) k φ := by
 unfold Zji at h
 have hx := hL x
 have zero : ∀ {v : CV}, Zje P t = some v -> ∃ zv, (zeroValue t).run P w = .ok zv w /\ VR σ (.tup [v, .bool false]) (.tuple #[zv, .bool false]) := fun hz => by
  obtain ⟨i, zv, z1, z2, z3⟩ := Zen (σ := σ) hz
  exact ⟨zv, Zu z1 z2 w, Zwh (ok := true) false z3⟩
 split at h
 ·rename_i want hd
  have hu := Zf hd
  split at h
  ·rename_i d v e; rw [e] at hx
   have hx' := hx
   simp only [VR] at hx; obtain ⟨y, hy, hv⟩ := hx
   split at h
   ·rename_i i hi
    have hi := YQ hi
    split at h
    ·rename_i hm
     refine ⟨_, _, ?_, Zwh (ok := ok) true hx', h⟩
     rw [hv]; simp [Instr.typeAssert, run_underlying hu, typeInfo, hi, hm]
    ·rename_i m hm
     obtain ⟨hok, h2⟩ := h.bif
     clear h
     subst hok
     split at h2
     ·rename_i z hz
      obtain ⟨zv, r1, r2⟩ := zero hz
      refine ⟨_, _, ?_, r2, h2⟩
      rw [hv]; simp [Instr.typeAssert, run_underlying hu, typeInfo, hi, hm, r1]
     ·exact h2.no.elim
   ·exact h.no.elim
  ·rename_i e; rw [e] at hx; have hv := Zsm hx
   obtain ⟨hok, h2⟩ := h.bif
   clear h
   subst hok
   split at h2
   ·rename_i z hz
    obtain ⟨zv, r1, r2⟩ := zero hz
    refine ⟨_, _, ?_, r2, h2⟩
    rw [hv]; simp [Instr.typeAssert, run_underlying hu, r1]
   ·exact h2.no.elim
  ·exact h.no.elim
 ·rename_i d hni hd
  have hu := Zf hd
  split at h
  ·rename_i u v e; rw [e] at hx
   simp only [VR] at hx; obtain ⟨y, hy, hv⟩ := hx
   have e0 : (Instr.typeAssert (ev x) xt t ok).run P w = (if u = t then (pure (if ok then .tuple #[y, .bool true] else y) : Sem Value).run P w else (do if ok then pure (.tuple #[<- zeroValue t, .bool false]) else runtimePanic (.typeAssertion (some xt) (some u) t "") : Sem Value).run P w) := by
    rw [hv]
    cases d <;> first | exact (hni _ rfl).elim | (by_cases hut : u = t <;> simp [Instr.typeAssert, run_underlying hu, hut])
   cases hq : Nat.beq u t
   ·rw [hq] at h; simp only [cond_false] at h
    have hne : u ≠ t := fun e => by rw [e, Nat.beq_refl] at hq; cases hq
    obtain ⟨hok, h2⟩ := h.bif
    clear h
    subst hok
    split at h2
    ·rename_i z hz
     obtain ⟨zv, r1, r2⟩ := zero hz
     refine ⟨_, _, ?_, r2, h2⟩
     rw [e0, if_neg hne]; simp [r1]
    ·exact h2.no.elim
   ·rw [hq] at h; simp only [cond_true] at h
    have := ZJo hq
    refine ⟨_, _, ?_, Zwh (ok := ok) true hy, h⟩
    rw [e0, if_pos this]; rfl
  ·rename_i e; rw [e] at hx; have hv := Zsm hx
   obtain ⟨hok, h2⟩ := h.bif
   clear h
   subst hok
   split at h2
   ·rename_i z hz
    obtain ⟨zv, r1, r2⟩ := zero hz
    refine ⟨_, _, ?_, r2, h2⟩
    rw [hv]
    cases d <;> first | exact (hni _ rfl).elim | simp [Instr.typeAssert, run_underlying hu, r1]
   ·exact h2.no.elim
  ·exact h.no.elim
 ·exact h.no.elim
/-! ### The whole -/
theorem ZiW (name : String) : ∀ l : List Method, ZAr name l = l.find? (fun m => m.name == name)
 | [] => rfl
 | m :: l => by
  unfold ZAr
  rw [List.find?_cons, ZiW name l]
  cases m.name == name <;> rfl
theorem Zj2 {t f : Nat} {name : String} (h : ZaW P t name = some f) (v : Value) (w : World) : (nilAhead (P.types.size + Made.depth) t v name).run P w = .ok (some false) w := by
 unfold ZaW at h
 split at h
 ·rename_i i hi
  have hsz : 0 < P.types.size := by
   unfold tyI at hi
   rw [Zjx, ZJc] at hi
   have := (Array.getElem?_eq_some_iff.1 hi).1; omega
  obtain ⟨fu, hfu⟩ : ∃ fu, P.types.size + Made.depth = fu + 1 := ⟨P.types.size + Made.depth - 1, by omega⟩
  rw [hfu]
  have hi := YQ hi
  rw [ZiW, Array.find?_toList] at h
  split at h
  ·rename_i m hm
   split at h
   ·rename_i f' e hp hf ht
    simp [nilAhead, typeInfo, hi, hm, hp, followBlind, hf]
   ·cases h
   ·rename_i f' d hd hp hf ht
    have hu := Zf ht
    cases d <;> first | exact (hd _ rfl).elim | exact (hd _ _ rfl).elim | exact (hd _ _ hf rfl).elim | simp [nilAhead, typeInfo, hi, hm, hp, followBlind, hf, run_underlying hu]
   ·cases h
  ·cases h
 ·cases h
theorem ZaO (hR : Rel w0 σ hp n w) (hL : ∀ x, VR σ (lk fr x) (ev x)) {o : Oper} (h : Zv (qev P fr hp o.op k) φ) :
  ∃ c v, (execOp ev o).run P w = .ok (.value v) w /\ VR σ c v /\ Zv (k c) φ := by
 have fin : ∀ {s : Sem Value}, QR P σ w s k φ -> ∃ c v, (do pure (Next.value (<- s)) : Sem Next).run P w = .ok (.value v) w /\ VR σ c v /\ Zv (k c) φ :=
  fun ⟨c, v, h1, h2, h3⟩ => ⟨c, v, ZH h1, h2, h3⟩
 unfold execOp
 generalize ho : o.op = op at h ⊢
 unfold qev at h
 split at h
 ·exact ⟨_, _, rfl, hL _, h⟩
 ·exact ⟨_, _, rfl, hL _, h⟩
 ·exact ZI8 hL h
 ·exact fin (ZIq hR hL h)
 ·rename_i x
  unfold qNil at h
  have hx := hL x
  split at h
  ·exact h.no.elim
  ·exact h.no.elim
  ·exact h.no.elim
  ·exact h.no.elim
  ·rename_i name v he
   split at h
   ·rename_i t u
    split at h
    ·rename_i f hm
     refine ⟨_, ev x, ?_, ?_, h⟩
     ·rw [he] at hx; simp only [VR] at hx
      obtain ⟨y, ⟨z, hz, rfl⟩, hv⟩ := hx
      have hn := fun w => Zj2 hm z w
      simp only [hv]
      have e0 : (#[Value.iface t z] : Array Value)[0]? = some (Value.iface t z) := rfl
      simp only [e0]
      simp [Sem.run_bind, run_program, hn]
     ·rw [he] at hx; exact hx
    ·exact h.no.elim
   ·exact h.no.elim
  ·rename_i n1 n2 n3 n4 n5
   refine ⟨_, ev x, ?_, hx, h⟩
   simp only
   have key : ∀ v : Value, VR σ (lk fr x) v -> ((match v with
    | .pointer none | .nilIface | .nilFunc => runtimePanic .nilDeref
    | .func (.method name) first captured =>
     match (first[0]? : Option Value) with
     | some .nilIface => runtimePanic .nilDeref
     | some (.iface t w) => do
      if (<- nilAhead ((<- program).types.size + Made.depth) t w name) != some false then
       unsupported (.noEntry "op/nilCheck.the method's receiver behind this interface value is a nil pointer, or cannot be seen to be none, and the arguments act or may panic (ledger 612)")
      pure (.value (.func (.method name) first captured))
     | _ => pure (.value (.func (.method name) first captured))
    | x => pure (.value x) : Sem Next)).run P w = .ok (.value v) w := by
    intro v hx
    cases hc : lk fr x <;> rw [hc] at hx <;> simp only [VR] at hx
    all_goals first
     | exact absurd hc n1 | exact absurd hc n2 | exact absurd hc n3 | exact absurd hc n4 | exact absurd hc (n5 _ _)
     | (subst hx; rfl) | (obtain ⟨_, _, _, _, _, rfl, _⟩ := hx; rfl) | (obtain ⟨_, _, _, _, rfl⟩ := hx; rfl) | (obtain ⟨_, _, _, rfl⟩ := hx; rfl) | (obtain ⟨_, _, rfl⟩ := hx; rfl)
   exact key (ev x) hx
 ·exact fin (q_bin hR hL h)
 ·exact fin (q_un hL h)
 ·exact fin (ZAY hR hL h)
 ·exact fin (ZEZ hL h)
 ·exact fin (ZDI hL h)
 ·exact fin (ZCy hR hL h)
 ·exact fin (Zy7 hL h)
 ·exact fin (ZDK hL h)
 ·exact fin (ZAe hL h)
 ·exact fin (ZDD hL h)
 ·exact fin (ZIi hR hL h)
 ·exact fin (ZAb hL h)
 ·exact fin (Zyr hL h)
 ·exact fin (ZE1 hL h)
 ·rename_i c
  unfold ZAi at h
  split at h
  ·rename_i b hb
   obtain ⟨cv, v, g1, g2, g3⟩ := ZtS (ty := o.type) hR hL h (consts := c.args.map fun | .const _ => true | _ => false)
   refine ⟨cv, v, ?_, g2, g3⟩
   simp only [resolve, hb]
   exact g1
  ·exact h.no.elim
 ·exact h.no.elim
end
end Go.Cx
namespace Go.Cx
open Go.RowKit (Below)
theorem Zwq {P : Program} {s : Sem Unit} {w w' : World} (h : s.run P w = .ok () w') : (do s; pure Next.skip : Sem Next).run P w = .ok .skip w' := by
 have : (do s; pure Next.skip : Sem Next) = s.bind (fun _ => Sem.pure Next.skip) := rfl
 rw [this, Sem.run_bind', h]; rfl
def Nle (n m : Nat) : Prop := idN n <= idN m /\ Yx m = Yx n
theorem Nle.refl (n : Nat) : Nle n n := ⟨ZJd _, rfl⟩
theorem Nle.trans {a b c : Nat} (h : Nle a b) (k : Nle b c) : Nle a c := ⟨Nat.le_trans h.1 k.1, k.2.trans h.2⟩
theorem Ex.trans {σ τ υ : Sg} {n m : Nat} (h : Ex n σ τ) (hn : Nle n m) (k : Ex m τ υ) : Ex n σ υ :=
 ⟨h.1.trans k.1, fun i hi => by rw [k.2 i (fun ⟨a, b⟩ => hi ⟨Nat.le_trans hn.1 a, by rw [<- hn.2]; exact b⟩), h.2 i hi]⟩
section
variable {P : Program} {w0 : World} {σ : Sg} {hp : H} {n : Nat} {w : World} {fr : F} {ev : Operand -> Value} {k : KS} {φ : Out -> Prop}
def LR (P : Program) (w0 : World) (σ : Sg) (n : Nat) (w : World) (s : Sem Next) (k : KS) (φ : Out -> Prop) : Prop :=
 ∃ w' c hp' n' σ', ((∃ v, s.run P w = .ok (.value v) w' /\ VR σ' c v) \/ (s.run P w = .ok .skip w' /\ c = .tup [])) /\ Rel w0 σ' hp' n' w' /\ Ex n σ σ' /\ Nle n n' /\ Zv (k c hp' n') φ
theorem LR.val {s : Sem Value} {w' : World} {c : CV} {v : Value} {hp' : H} {n' : Nat} {σ' : Sg} (h : s.run P w = .ok v w') (hv : VR σ' c v) (hR : Rel w0 σ' hp' n' w') (hx : Ex n σ σ') (hn : Nle n n') (hk : Zv (k c hp' n') φ) :
  LR P w0 σ n w (do pure (Next.value (<- s)) : Sem Next) k φ := ⟨w', c, hp', n', σ', .inl ⟨v, ZH h, hv⟩, hR, hx, hn, hk⟩
theorem LR.unit {s : Sem Unit} {w' : World} {hp' : H} {n' : Nat} {σ' : Sg} (h : s.run P w = .ok () w') (hR : Rel w0 σ' hp' n' w') (hx : Ex n σ σ') (hn : Nle n n') (hk : Zv (k (.tup []) hp' n') φ) :
  LR P w0 σ n w (do s; pure Next.skip : Sem Next) k φ := ⟨w', _, hp', n', σ', .inr ⟨Zwq h, rfl⟩, hR, hx, hn, hk⟩
theorem ZT (hR : Rel w0 σ hp n w) {c : Ck} {v : Nat -> CV} (h : Zv (Zar hp n c v k) φ) (o : Obj) (t : Nat)
  (hc : ∀ τ, Le σ τ -> τ (idN n) = some (w.heap.size, t) -> Y2 τ { w with heap := w.heap.push o } w.heap.size t c) :
  ∃ σ', σ' (idN n) = some (w.heap.size, t) /\ Rel w0 σ' (YZ hp (idN n) c) (n + 1) { w with heap := w.heap.push o } /\ Ex n σ σ' /\ Nle n (n + 1) /\ Zv (k (v (idN n)) (YZ hp (idN n) c) (n + 1)) φ := by
 unfold Zar at h
 obtain ⟨h1, h2⟩ := h.bif
 have h1 : idN n < Yx n := by simpa [Nat.blt_eq] using h1
 obtain ⟨e1, e2⟩ := ZkY h1 hR.lim
 have hf : σ (idN n) = none := hR.fresh _ (ZJd _) h1
 refine ⟨_, Zad _ _ _, hR.new (by have := hR.lim; omega) hf o hc e2 (fun j hj _ => ⟨by omega, by omega⟩), ⟨Le.upd hf, fun i hi => ?_⟩, ⟨by omega, e2⟩, h2⟩
 unfold ZnF
 rw [if_neg (fun e => hi ⟨by omega, by omega⟩)]
theorem Row.new {w : World} {vs : List Value} {arr : Array Value} {ty : TypeId} {fz : Bool} {spare : List Value} (h : arr.toList = vs ++ spare) : Row { w with heap := w.heap.push (.cells arr ty) } w.heap.size arr.size vs fz :=
 ⟨arr, ty, 0, 0, ZN w _, rfl, ⟨spare, h⟩, .inl ⟨rfl, rfl⟩⟩
theorem YK (t : TypeId) (cells : Array Value) (w : World) : (newRow t cells).run P w = .ok ⟨w.heap.size, 0, none⟩ { w with heap := w.heap.push (.cells cells t) } := by
 simp [newRow, newObj, Sem.run]
theorem Zhv (t : TypeId) (v : Value) (w : World) : (newVar t v).run P w = .ok ⟨w.heap.size, 0, none⟩ { w with heap := w.heap.push (.cells v.cells t) } := YK t v.cells w
theorem Zp4 (hR : Rel w0 σ hp n w) {cs : List CV} {v : Value} {t : TypeId} (hc : VRs σ cs v.cells.toList) (h : Zv (ZkU hp n cs k) φ) :
  LR P w0 σ n w (do pure (Next.value (<- (do pure (.pointer (some (<- newVar t v))) : Sem Value))) : Sem Next) k φ := by
 obtain ⟨σ', s1, s2, s3, s4, s5⟩ := ZT hR h (.cells v.cells t) v.cells.size (fun τ hle _ => ⟨_, hc.mono hle, Row.new (spare := []) (by simp)⟩)
 exact LR.val (v := .pointer (some ⟨w.heap.size, 0, none⟩)) (by simp [Zhv]) (by simp only [VR]; exact ⟨_, _, s1, rfl⟩) s2 s3 s4 s5
theorem ZqR (hR : Rel w0 σ hp n w) {cs : List CV} {v : Value} {t : TypeId} (hc : VRs σ cs v.cells.toList) (h : Zv (bif Nat.beq t ZIs then Zar hp n (.tcells cs) (fun i => .ptr i 0) k else ZkU hp n cs k) φ) :
  LR P w0 σ n w (do pure (Next.value (<- (do pure (.pointer (some (<- newVar t v))) : Sem Value))) : Sem Next) k φ := by
 cases ht : Nat.beq t ZIs
 ·rw [ht] at h; exact Zp4 hR hc h
 ·rw [ht] at h; simp only [cond_true] at h
  have ht := ZJo ht
  obtain ⟨σ', s1, s2, s3, s4, s5⟩ := ZT hR h (.cells v.cells t) v.cells.size (fun τ hle _ => ⟨_, hc.mono hle, Row.new (spare := []) (by simp), by rw [<- ht]; exact ⟨_, _, ZN w _⟩, by rw [hc.len, Array.length_toList]⟩)
  exact LR.val (v := .pointer (some ⟨w.heap.size, 0, none⟩)) (by simp [Zhv]) (by simp only [VR]; exact ⟨_, _, s1, rfl⟩) s2 s3 s4 s5
theorem ZEJ (hR : Rel w0 σ hp n w) {t : Nat} (h : Zv (Zly P hp n t k) φ) : LR P w0 σ n w (do pure (Next.value (<- Instr.alloc t true (.tuple #[]))) : Sem Next) k φ := by
 unfold Zly at h
 split at h
 ·rename_i cs hz
  obtain ⟨i, zv, z1, z2, z3⟩ := Y1 (σ := σ) hz
  have := ZqR (P := P) (t := t) hR z3 h
  have e : ∀ w, (Instr.alloc t true (.tuple #[])).run P w = (do pure (.pointer (some (<- newVar t zv))) : Sem Value).run P w := by
   intro w; simp [Instr.alloc, Zu z1 z2]
  obtain ⟨w', c, hp', n', σ', h1, h2⟩ := this
  refine ⟨w', c, hp', n', σ', ?_, h2⟩
  rcases h1 with ⟨v, hv, hr⟩ | ⟨hv, hr⟩
  ·refine .inl ⟨v, ?_, hr⟩
   rw [<- hv]
   show (Sem.bind _ _).run P w = (Sem.bind _ _).run P w
   rw [Sem.run_bind', Sem.run_bind', e]
  ·refine .inr ⟨?_, hr⟩
   rw [<- hv]
   show (Sem.bind _ _).run P w = (Sem.bind _ _).run P w
   rw [Sem.run_bind', Sem.run_bind', e]
 ·exact h.no.elim
theorem l_box (hR : Rel w0 σ hp n w) (hL : ∀ x, VR σ (lk fr x) (ev x)) {t : Nat} {x : Operand} (h : Zv (lBox fr hp n t x k) φ) : LR P w0 σ n w (do pure (Next.value (<- Instr.box t (ev x))) : Sem Next) k φ := by
 unfold lBox at h
 split at h
 ·exact h.no.elim
 ·rename_i hj
  exact Zp4 hR (Zjp hj (hL x)) h
/-! ### Writing -/
theorem Zbn : ∀ {cs : List CV} {vs : List Value}, VRs σ cs vs -> Zb4 cs = true -> ∀ v ∈ vs, v.oneCell' = true
 | [], vs, h, _, v, hv => by simp only [VRs] at h; subst h; cases hv
 | c :: cs, vs, h, ha, v, hv => by
  simp only [VRs] at h; obtain ⟨u, ws, rfl, h1, h2⟩ := h
  unfold Zb4 at ha
  cases hc : ZtD c
  ·rw [hc] at ha; cases ha
  ·rw [hc] at ha; simp only [cond_true] at ha
   rcases List.mem_cons.1 hv with rfl | hv
   ·cases c <;> simp only [VR] at h1 <;> first | (cases hc; done) | (subst h1; rfl) | (obtain ⟨_, _, _, _, _, rfl, _⟩ := h1; rfl) | (obtain ⟨_, _, _, _, rfl⟩ := h1; rfl) | (obtain ⟨_, _, _, rfl⟩ := h1; rfl) | (obtain ⟨_, _, rfl⟩ := h1; rfl)
   ·exact Zbn h2 ha v hv
theorem Za2 (g o : Nat) (t : TypeId) (fz : Nat × Nat) : ∀ (vs : List Value) (i : Nat) (cur : Array Value) (w : World), w.heap[g]? = some (.cells cur t fz) -> (fz = (0, 0) \/ cur.size <= fz.1) -> o + i + vs.length <= cur.size -> (∀ v ∈ vs, v.oneCell' = true) →
  (storeCells ⟨g, o, none⟩ vs i).run P w = .ok () (w.setRow g (cur.toList.take (o + i) ++ vs ++ cur.toList.drop (o + i + vs.length)).toArray)
 | [], i, cur, w, hg, _, _, _ => by
  simp only [storeCells, List.append_nil, List.length_nil, Nat.add_zero, List.take_append_drop, Array.toArray_toList]
  rw [setRow_self w g cur t fz hg]
  rfl
 | v :: rest, i, cur, w, hg, hfz, hl, h1 => by
  have hi : o + i < cur.size := by simp at hl; omega
  have hcell : w.cell? ⟨g, o + i, none⟩ = some cur[o + i] := by simp [World.cell?, hg, hi]
  have hfro : w.frozen? ⟨g, o + i, none⟩ = false := by
   obtain ⟨lo, hi'⟩ := fz
   simp only [World.frozen?, hg]
   rcases hfz with h | h
   ·cases h; simp
   ·simp at h ⊢; omega
  have hst : (store ((⟨g, o, none⟩ : Addr).add i) v).run P w = .ok () (w.setRow g (cur.setIfInBounds (o + i) v)) := by
   rw [add_eq, run_store P w _ v _ (h1 v (by simp)), hcell]
   simp [hfro, setCell_eq_setRow w g (o + i) cur t fz v hg]
  have ih := Za2 g o t fz rest (i + 1) (cur.setIfInBounds (o + i) v) (w.setRow g (cur.setIfInBounds (o + i) v)) (setRow_heap w g cur _ t _ hg) (by simpa using hfz) (by simp at hl ⊢; omega) (fun x hx => h1 x (by simp [hx]))
  simp only [storeCells, Sem.run_bind, hst, Result.andThen_ok, ih, setRow_setRow]
  congr 3
  have e := list_seg_step cur.toList (o + i) v rest (by simp at hl ⊢; omega)
  simpa [Array.toList_setIfInBounds, Nat.add_assoc] using e
theorem Zkb (w : World) (g k : Nat) (cs : Array Value) (h : k ≠ g) : (w.setRow g cs).heap[k]? = w.heap[k]? := by
 unfold World.setRow
 show (w.heap.modify g _)[k]? = _
 rw [Array.getElem?_modify, if_neg (fun e => h e.symm)]
theorem ZmT (w : World) (g : Nat) (cs : Array Value) : (w.setRow g cs).heap.size = w.heap.size := by
 unfold World.setRow; simp
theorem Row.write' {p t : Nat} {vs : List Value} {fz : Bool} (h : Row w p t vs fz) {o : Nat} {new : List Value} (h1 : o <= vs.length) (hfit : o + new.length <= t) (hone : ∀ v ∈ new, v.oneCell' = true) :
  ∃ w', (storeCells ⟨p, o, none⟩ new).run P w = .ok () w' /\ Row w' p t (vs.take o ++ new ++ vs.drop (o + new.length)) fz /\ w'.heap.size = w.heap.size /\ (∀ k, k ≠ p -> w'.heap[k]? = w.heap[k]?) ∧
   w'.os = w.os /\ w'.tape = w.tape /\ w'.output = w.output /\ (∀ T, ZrJ w p T -> ZrJ w' p T) := by
 obtain ⟨arr, ty, lo, hi, g1, g2, ⟨sp, g3⟩, g4⟩ := h
 have hfz : (lo, hi) = (0, 0) \/ arr.size <= (lo, hi).1 := by
  rcases g4 with ⟨rfl, rfl⟩ | ⟨_, g⟩
  ·exact .inl rfl
  ·exact .inr (by rw [g2]; exact g)
 have hr := Za2 (P := P) p o ty (lo, hi) new 0 arr w g1 hfz (by rw [g2]; omega) hone
 refine ⟨_, hr, ⟨_, ty, lo, hi, setRow_heap w p arr _ ty _ g1, ?_, ⟨sp.drop (o + new.length - vs.length), ?_⟩, g4⟩, ZmT _ _ _, fun k hk => Zkb _ _ _ _ hk, rfl, rfl, rfl, fun T ⟨a, z, ha⟩ => by rw [g1] at ha; cases ha; exact ⟨_, _, setRow_heap w p arr _ ty _ g1⟩⟩
 ·have : arr.toList.length = t := by simpa using g2
  simp only [List.size_toArray, ZJs, ZJp, ZJB, Nat.add_zero]; omega
 ·simp only [Nat.add_zero]
  rw [g3, List.take_append_of_le_length h1, List.drop_append, ZJL, ZJL, ZJL]
theorem Row.write {p t : Nat} {vs : List Value} {fz : Bool} (h : Row w p t vs fz) {o : Nat} {new : List Value} (h1 : o <= vs.length) (hfit : o + new.length <= t) (hone : ∀ v ∈ new, v.oneCell' = true) :
  ∃ w', (storeCells ⟨p, o, none⟩ new).run P w = .ok () w' /\ Row w' p t (vs.take o ++ new ++ vs.drop (o + new.length)) fz /\ w'.heap.size = w.heap.size /\ (∀ k, k ≠ p -> w'.heap[k]? = w.heap[k]?) ∧
   w'.os = w.os /\ w'.tape = w.tape /\ w'.output = w.output := by
 obtain ⟨w', a, b, c, d, e, f, g, _⟩ := Row.write' (P := P) h h1 hfit hone
 exact ⟨w', a, b, c, d, e, f, g⟩
theorem Zdp {c : CV} {x : Nat} (h : Zqv c = some x) : c = .int 4 (.ofNat x) /\ x < 256 := by
 unfold Zqv at h
 split at h
 ·rename_i m
  obtain ⟨h1, h2⟩ := Zbt h
  cases h2
  have := ZJA h1
  exact ⟨rfl, by omega⟩
 ·cases h
theorem Zb7 : ∀ {cs : List CV} {x : Nat} {vs : List Value}, Zga cs = some x -> VRs σ cs vs -> vs = (bys cs.length x).map ZdF
 | [], x, vs, h, hv => by simp only [VRs] at hv; subst hv; rfl
 | c :: cs, x, vs, h, hv => by
  simp only [VRs] at hv; obtain ⟨u, ws, rfl, h1, h2⟩ := hv
  unfold Zga at h
  split at h
  ·rename_i y hy
   split at h
   ·rename_i z hz
    cases h
    obtain ⟨rfl, hlt⟩ := Zdp hy
    have ih := Zb7 hz h2
    simp only [VR] at h1; subst h1
    simp only [ZJH, bys, ZJw]
    rw [show (y + 256 * z) % 256 = y by omega, show (y + 256 * z) / 256 = z by omega, <- ih]
    congr 1
    simp only [ZdF, kc]; congr 1; rw [Ze3 y hlt]; rfl
   ·cases h
  ·cases h
theorem ZiN (l : List UInt8) : ∀ v ∈ l.map ZdF, v.oneCell' = true := by
 intro v hv; obtain ⟨b, _, rfl⟩ := List.mem_map.1 hv; rfl
theorem ZuS (hR : Rel w0 σ hp n w) {b o p t : Nat} {cs : List CV} {vs : List Value} {hp' : H} (h : wrN hp b o cs = some hp') (hs : σ b = some (p, t)) (hv : VRs σ cs vs) :
  ∃ w', (storeCells ⟨p, o, none⟩ vs).run P w = .ok () w' /\ Rel w0 σ hp' n w' := by
 unfold wrN at h
 split at h
 ·rename_i old hc
  obtain ⟨ha, h⟩ := Zbt h
  split at h
  ·rename_i new hn
   cases h
   obtain ⟨ws, h1, h2⟩ := hR.at hs hc (by simp)
   obtain ⟨g1, g2⟩ := VRs.put hv h1 hn
   have hle : ws.length <= t := by obtain ⟨arr, _, _, _, _, q1, ⟨sp, q2⟩, _⟩ := h2; have := congrArg List.length q2; simp at this; omega
   obtain ⟨w', r1, r2, r3, r4, r5, r6, r7⟩ := h2.write (P := P) (o := o) (new := vs) (by omega) (by omega) (Zbn hv ha)
   exact ⟨w', r1, hR.upd hs (by rw [hc]; simp) r3 r4 r5 r6 r7 ⟨_, g1, r2⟩⟩
  ·cases h
 ·rename_i l m hc
  obtain ⟨ha, h⟩ := Zbt h
  have ha := ZJA ha
  split at h
  ·rename_i x hx
   cases h
   obtain ⟨h2, hT⟩ := hR.at hs hc (by simp)
   have hvs := Zb7 hx hv
   have hvl : vs.length = cs.length := hv.len.symm
   have hle : l <= t := by obtain ⟨arr, _, _, _, _, q1, ⟨sp, q2⟩, _⟩ := h2; have := congrArg List.length q2; simp [Zp] at this; omega
   obtain ⟨w', r1, r2, r3, r4, r5, r6, r7, r8⟩ := Row.write' (P := P) (o := o) (new := vs) h2 (by simp [Zp]; omega) (by omega) (by rw [hvs]; exact ZiN _)
   refine ⟨w', r1, hR.upd hs (by rw [hc]; simp) r3 r4 r5 r6 r7 ⟨?_, r8 _ hT⟩⟩
   show Row w' p t ((bys l (ZDE m o cs.length x l)).map ZdF) true
   rw [Zu2 _ _ _ _ _ ha, ZJD, ZJD, <- hvs, List.map_take, List.map_drop, <- hvl]
   exact r2
  ·cases h
 ·rename_i old hc
  obtain ⟨ha, h⟩ := Zbt h
  split at h
  ·rename_i new hn
   cases h
   obtain ⟨ws, h1, h2, hT, hlen⟩ := hR.at hs hc (by simp)
   obtain ⟨g1, g2⟩ := VRs.put hv h1 hn
   have hle : ws.length <= t := by obtain ⟨arr, _, _, _, _, q1, ⟨sp, q2⟩, _⟩ := h2; have := congrArg List.length q2; simp at this; omega
   obtain ⟨w', r1, r2, r3, r4, r5, r6, r7, r8⟩ := h2.write' (P := P) (o := o) (new := vs) (by omega) (by omega) (Zbn hv ha)
   exact ⟨w', r1, hR.upd hs (by rw [hc]; simp) r3 r4 r5 r6 r7 ⟨_, g1, r2, r8 _ hT, by rw [g1.len]; have := h1.len; simp only [ZJs, ZJp, ZJB]; omega⟩⟩
  ·cases h
 ·cases h
theorem ZEY (hR : Rel w0 σ hp n w) (hL : ∀ x, VR σ (lk fr x) (ev x)) {t : Nat} {a x : Operand} (h : Zv (ZdR P fr hp n t a x k) φ) : LR P w0 σ n w (do Instr.storeAt t (ev a) (ev x); pure Next.skip : Sem Next) k φ := by
 unfold ZdR at h
 have ha := hL a
 split at h
 ·rename_i b o he
  rw [he] at ha; simp only [VR] at ha
  obtain ⟨p, u, hs, hv⟩ := ha
  split at h
  ·rename_i sz hsz
   split at h
   ·exact h.no.elim
   ·rename_i hj
    obtain ⟨h1, h2⟩ := h.bif
    clear h
    have h1 := ZJo h1
    have hc := Zjp hj (hL x)
    split at h2
    ·rename_i hp' hw
     obtain ⟨w', r1, r2⟩ := ZuS (P := P) hR hw hs hc
     refine LR.unit (w' := w') ?_ r2 (Ex.refl _ _) (Nle.refl _) h2
     rw [hv]
     have hsize : (ev x).cells.size = sz := by rw [<- Array.length_toList, <- hc.len, h1]
     simp [Instr.storeAt, Instr.sureAddr, storeVar, YF hsz, hsize, r1]
    ·exact h2.no.elim
  ·exact h.no.elim
 ·exact h.no.elim
end
end Go.Cx
namespace Go.Cx
open Go.RowKit (Below)
theorem Zcu (z : List Value) : ∀ n : Nat, (List.range (n * z.length)).map (fun i => z[i % z.length]!) = (List.replicate n z).flatten
 | 0 => by simp
 | n + 1 => by
  rw [Nat.succ_mul, Nat.add_comm, List.range_add, ZJD, List.replicate_succ, List.flatten_cons, <- Zcu z n]
  congr 1
  ·apply List.ext_getElem (by simp)
   intro i h1 h2
   simp at h1
   simp [Nat.mod_eq_of_lt h2, h2]
  ·rw [List.map_map]
   apply List.map_congr_left
   intro i _
   simp
theorem Z4 (z : Array Value) (n : Nat) : ((Array.range (n * z.size)).map (fun i => z[i % z.size]!)).toList = (List.replicate n z.toList).flatten := by
 rw [<- Zcu]
 simp [Array.toList_map, Array.toList_range]
 intro a _
 rw [getElem!_def]
 split <;> simp_all
section
variable {P : Program} {w0 : World} {σ : Sg} {hp : H} {n : Nat} {w : World} {fr : F} {ev : Operand -> Value} {k : KS} {φ : Out -> Prop}
theorem ZiI : ∀ m : Nat, (bys m 0).map ZdF = List.replicate m (.int .u8 0)
 | 0 => rfl
 | m + 1 => by simp only [bys, ZJw, List.replicate_succ]; rw [show (0 : Nat) / 256 = 0 from rfl, ZiI m]; rfl
theorem Zrs {e sz m : Nat} {ck : Ck} (h : ZnL P e sz m = some ck) : ∃ i zv, P.info? e = some i /\ i.zero = some zv /\ zv.cells.size = sz ∧
  ∀ (τ : Sg) (w : World) (p t : Nat), Row w p t (List.replicate m zv.cells.toList).flatten false -> ZrJ w p e -> Y2 τ w p t ck := by
 unfold ZnL at h
 split at h
 ·rename_i z hz
  obtain ⟨hl, h2⟩ := Zbt h
  have hl := ZJo hl
  obtain ⟨i, zv, z1, z2, z3⟩ := Y1 (σ := fun _ => none) hz
  have z3' : ∀ τ : Sg, VRs τ z zv.cells.toList := fun τ => by
   obtain ⟨i', zv', y1, y2, y3⟩ := Y1 (σ := τ) hz
   rw [z1] at y1; cases y1; rw [z2] at y2; cases y2; exact y3
  have hsz : zv.cells.size = sz := by rw [<- Array.length_toList, <- z3.len, hl]
  refine ⟨i, zv, z1, z2, hsz, fun τ w p t hr hty => ?_⟩
  cases hu : Zem P e
  ·rw [hu] at h2; cases h2
   exact ⟨_, (z3' τ).rep m, hr⟩
  ·rw [hu] at h2; simp only [cond_true] at h2
   split at h2
   ·rename_i c
    split at h2
    ·rename_i hc
     cases h2
     obtain ⟨rfl, _⟩ := Zdp hc
     have := z3' τ
     simp only [VRs, VR] at this
     obtain ⟨v, ws, e1, e2, e3⟩ := this
     subst e2; subst e3
     refine ⟨?_, by rw [<- Zds hu]; exact hty⟩
     show Row w p t ((bys m 0).map ZdF) true
     rw [ZiI]
     rw [e1] at hr
     obtain ⟨arr, ty, lo, hi, q1, q2, q3, q4⟩ := hr
     refine ⟨arr, ty, lo, hi, q1, q2, ?_, ?_⟩
     ·simpa [List.flatten_replicate_singleton, kc] using q3
     ·rcases q4 with q4 | ⟨q4, _⟩
      ·exact .inl q4
      ·cases q4
    ·cases h2
   ·cases h2
 ·cases h
theorem Zzw {cs : List CV} : ∀ {o : Nat} {l r : List CV}, Zja cs o l = some r -> r.length = l.length := by
 have h0 : ∀ {cs l r : List CV}, Zfh cs l = some r -> r.length = l.length := by
  intro cs
  induction cs with
  | nil => intro l r h; simp only [Zfh] at h; cases h; rfl
  | cons c cs ih =>
   intro l r h
   cases l with
   | nil => simp only [Zfh] at h; cases h
   | cons x l =>
    simp only [Zfh] at h
    split at h
    ·rename_i q hq; cases h; simp [ih hq]
    ·cases h
 intro o
 induction o with
 | zero => intro l r h; simp only [Zja] at h; exact h0 h
 | succ o ih =>
  intro l r h
  cases l with
  | nil => simp only [Zja] at h; cases h
  | cons x l =>
   simp only [Zja] at h
   split at h
   ·rename_i q hq; cases h; simp [ih hq]
   ·cases h
theorem Zld {place : Nat -> Option (Nat × Nat)} : ∀ (parts : List (Nat × Operand)) (cs r : List CV), Zmg place fr parts cs = some r -> r.length = cs.length
 | [], cs, r, h => by cases h; rfl
 | (i, x) :: rest, cs, r, h => by
  unfold Zmg at h
  split at h
  ·obtain ⟨_, h⟩ := Zbt h
   split at h
   ·rename_i q hq
    rw [Zld rest _ _ h, Zzw hq]
   ·cases h
  ·cases h
theorem ZqI {c : Nat} (h : c <= 140737488355328) : IntKind.i64.wrap (c : Int) = c := by
 simp [IntKind.wrap, IntKind.bits, IntKind.signed]; omega
theorem ZEk (hR : Rel w0 σ hp n w) (hL : ∀ x, VR σ (lk fr x) (ev x)) {t : Nat} {x y : Operand} (h : Zv (Zqj P fr hp n t x y k) φ) :
  LR P w0 σ n w (do pure (Next.value (<- Instr.makeSlice t (ev x) (ev y))) : Sem Next) k φ := by
 unfold Zqj at h
 have hx := hL x
 have hy := hL y
 split at h
 ·rename_i k1 l k2 c e1 e2
  rw [e1] at hx; rw [e2] at hy
  simp only [VR] at hx hy
  obtain ⟨g1, h2⟩ := h.bif
  clear h
  have g1 := ZJA g1
  split at h2
  ·rename_i e hd
   have hu := Zf hd
   split at h2
   ·rename_i i hi
    have hi := YQ hi
    obtain ⟨g2, h3⟩ := h2.bif
    obtain ⟨g3, h4⟩ := h3.bif
    obtain ⟨g4, h5⟩ := h4.bif
    clear h2 h3 h4
    have g2 := ZJA g2
    have g3 := ZJA g3
    have g4 := ZJA g4
    split at h5
    ·rename_i ck hck
     obtain ⟨i', zv, z1, z2, z3, z4⟩ := Zrs hck
     rw [hi] at z1; cases z1
     have hcells : ((Array.range (c * i.size)).map (fun j => zv.cells[j % zv.cells.size]!)).toList = (List.replicate c zv.cells.toList).flatten := by
      rw [<- z3]; exact Z4 zv.cells c
     obtain ⟨σ', s1, s2, s3, s4, s5⟩ := ZT hR h5 (.cells ((Array.range (c * i.size)).map (fun j => zv.cells[j % zv.cells.size]!)) e) (c * i.size)
      (fun τ hle _ => z4 τ _ _ _ (by
       have := Row.new (w := w) (vs := (List.replicate c zv.cells.toList).flatten) (arr := (Array.range (c * i.size)).map (fun j => zv.cells[j % zv.cells.size]!)) (ty := e) (fz := false) (spare := []) (by rw [hcells]; simp)
       simpa using this) ⟨_, _, ZN w _⟩)
     refine LR.val (v := .slice (some ⟨w.heap.size, 0, none⟩) l c) ?_ ?_ s2 s3 s4 s5
     ·rw [hx, hy]
      have hz : (zeroValue e).run P w = .ok zv w := Zu hi z2 w
      have hsz : (sizeOf e).run P w = .ok i.size w := by simp [sizeOf, typeInfo, hi]
      have big : ¬ ((i.bytes : Int) * (c : Int) > 281474976710656) := by
       have : ((i.bytes * c : Nat) : Int) = (i.bytes : Int) * (c : Int) := by push_cast; rfl
       omega
      by_cases hc0 : c * i.size = 0
      ·have hc : c = 0 := by
        rcases Nat.mul_eq_zero.1 hc0 with h | h
        ·exact h
        ·omega
       subst hc
       have hl : l = 0 := by omega
       subst hl
       have w0' : IntKind.i64.wrap (Int.ofNat 0) = 0 := rfl
       simp only [Instr.makeSlice, Sem.run_bind, run_underlying hu, Result.andThen_ok, asInt, asIntOf, Sem.run_pure, typeInfo, run_program, hi, w0']
       simp [hsz, YK]
       rw [show Array.range 0 = #[] from rfl]; simp
      ·have w1 : IntKind.i64.wrap (Int.ofNat c) = (c : Int) := ZqI g2
       have w2 : IntKind.i64.wrap (Int.ofNat l) = (l : Int) := ZqI (by omega)
       simp only [Instr.makeSlice, Sem.run_bind, run_underlying hu, Result.andThen_ok, asInt, asIntOf, Sem.run_pure, typeInfo, run_program, hi, w1, w2]
       have hcl : ¬ ((c : Int) < (l : Int)) := by omega
       have hneg : ∀ m : Nat, ¬ ((m : Int) < 0) := fun m => by omega
       have hc0' : ¬ (c = 0 \/ i.size = 0) := fun h => hc0 (by rcases h with h | h <;> rw [h] <;> simp)
       simp [hsz, hz, YK, show ¬ (281474976710656 < (i.bytes : Int) * (c : Int)) by omega, hneg, hcl, hc0']
       exact fun h => absurd h hc0
     ·simp only [VR]
      exact ⟨_, _, _, _, s1, rfl, g1, ZJd _, fun _ => rfl, fun _ => rfl, by omega, fun e => (by cases e)⟩
    ·exact h5.no.elim
   ·exact h2.no.elim
  ·exact h2.no.elim
 ·exact h.no.elim
theorem ZCg (hR : Rel w0 σ hp n w) (hL : ∀ x, VR σ (lk fr x) (ev x)) {t : Nat} {r : Option Operand} (h : Zv (Zox P fr hp n t r k) φ) :
  LR P w0 σ n w (do pure (Next.value (<- Instr.makeMap t (r.map ev))) : Sem Next) k φ := by
 unfold Zox at h
 split at h
 ·rename_i kt et hd
  have hu := Zf hd
  have mk : ∀ {h : Zv (Zar hp n (.map [] 0) (fun b => .map b) k) φ}, (Instr.makeMap t (r.map ev)).run P w = .ok (.map (some w.heap.size)) { w with heap := w.heap.push (.map #[] 0) } -> LR P w0 σ n w (do pure (Next.value (<- Instr.makeMap t (r.map ev))) : Sem Next) k φ := fun {h} hrun => by
   obtain ⟨σ', s1, s2, s3, s4, s5⟩ := ZT hR h (.map #[] 0) 0 (fun τ hle _ => ⟨[], rfl, ZN w _⟩)
   exact LR.val hrun (by simp only [VR]; exact ⟨_, _, s1, rfl⟩) s2 s3 s4 s5
  split at h
  ·exact mk (h := h) (by simp [Instr.makeMap, newObj, Sem.run])
  ·rename_i x
   split at h
   ·rename_i kd i e
    exact mk (h := h) (by simp [Instr.makeMap, newObj, Sem.run, run_underlying hu, Zlj hL e, asInt, asIntOf])
   ·exact h.no.elim
 ·exact h.no.elim
theorem Zz1 (hR : Rel w0 σ hp n w) (hL : ∀ x, VR σ (lk fr x) (ev x)) {t len : Nat} {parts : Array (Nat × Operand)} (h : Zv (ZjI P fr hp n t len parts k) φ) :
  LR P w0 σ n w (do pure (Next.value (<- Instr.buildSlice t len (parts.map fun (i, x) => (i, ev x)))) : Sem Next) k φ := by
 unfold ZjI at h
 have hparts : (parts.map fun (i, x) => (i, ev x)).toList = parts.toList.map fun (i, x) => (i, ev x) := by simp
 split at h
 ·rename_i e hd
  have hu := Zf hd
  split at h
  ·rename_i s hs
   obtain ⟨g1, h2⟩ := h.bif
   obtain ⟨g2, h3⟩ := h2.bif
   clear h h2
   have g1 := ZJA g1
   have g2 := ZJA g2
   split at h3
   ·rename_i z hz
    obtain ⟨g3, h4⟩ := h3.bif
    clear h3
    have g3 := ZJo g3
    obtain ⟨i, zv, z1, z2, z3⟩ := Y1 (σ := σ) hz
    have hsz : zv.cells.size = s := by rw [<- Array.length_toList, <- z3.len, g3]
    split at h4
    ·rename_i cs hcs
     obtain ⟨ws, f1, f2⟩ := ZbN hL _ _ _ _ (z3.rep len) hcs
     have hfl := f2.len
     have hcells : ((Array.range (len * s)).map (fun j => zv.cells[j % zv.cells.size]!)) = (List.replicate len zv.cells.toList).flatten.toArray := by
      apply Array.ext'; rw [<- hsz]; simpa using Z4 zv.cells len
     have hrun : (Instr.buildSlice t len (parts.map fun (i, x) => (i, ev x))).run P w = .ok (.slice (some ⟨w.heap.size, 0, none⟩) len len) { w with heap := w.heap.push (.cells ws.toArray e) } := by
      have hzr : (zeroValue e).run P w = .ok zv w := Zu z1 z2 w
      by_cases h0 : len * s = 0
      ·have hl : len = 0 := by
        rcases Nat.mul_eq_zero.1 h0 with h | h
        ·exact h
        ·omega
       subst hl
       simp only [List.replicate_zero, List.flatten_nil] at f1
       have f1' : Instr.fill (fun i => some (i * s, s)) #[] (List.map (fun x => (x.1, ev x.2)) parts.toList) = some ws.toArray := f1
       simp [Instr.buildSlice, run_underlying hu, YF hs, hparts, YK]
       rw [show Array.range 0 = #[] from rfl, Array.map_empty, f1']
       simp [YK]
      ·rw [<- hcells] at f1
       have h0' : ¬ (len = 0 \/ s = 0) := fun h => h0 (by rcases h with h | h <;> rw [h] <;> simp)
       simp [Instr.buildSlice, run_underlying hu, YF hs, hparts, hzr, h0', show ¬ (16777216 < len * s) by omega, YK, f1]
       exact fun h => absurd h h0
     have hlen : ws.length = len * s := by
      rw [<- f2.len]
      have e1 := Zld _ _ _ hcs
      have : ∀ m, (ZAA z m).length = m * z.length := fun m => by
       induction m with
       | zero => simp [ZAA]
       | succ m ih => simp only [ZAA, ZJs, ih, Nat.succ_mul]; omega
      rw [e1, this, g3]
     cases hu8 : Zem P e
     ·rw [hu8] at h4; simp only [cond_false] at h4
      obtain ⟨σ', s1, s2, s3, s4, s5⟩ := ZT hR h4 (.cells ws.toArray e) ws.length (fun τ hle _ => ⟨ws, f2.mono hle, by simpa using Row.new (w := w) (vs := ws) (arr := ws.toArray) (ty := e) (fz := false) (spare := []) (by simp)⟩)
      exact LR.val hrun (by simp only [VR]; exact ⟨_, _, _, _, s1, rfl, ZJd _, ZJd _, fun _ => rfl, fun _ => rfl, by omega, fun e => (by cases e)⟩) s2 s3 s4 s5
     ·rw [hu8] at h4; simp only [cond_true] at h4
      split at h4
      ·rename_i x hx
       obtain ⟨hs1, hx⟩ := Zbt hx
       have hb := Zb7 hx f2
       have hs1 := ZJo hs1
       subst hs1
       obtain ⟨σ', s1, s2, s3, s4, s5⟩ := ZT hR h4 (.cells ws.toArray e) ws.length (fun τ hle _ => by
        have := Row.new (w := w) (vs := ws) (arr := ws.toArray) (ty := e) (fz := true) (spare := []) (by simp)
        refine ⟨?_, by rw [<- Zds hu8]; exact ⟨_, _, ZN w _⟩⟩
        show Row _ _ _ ((bys len x).map ZdF) true
        have hcl : cs.length = len := by rw [hfl, hlen]; omega
        rw [<- hcl, <- hb]; simpa using this)
       exact LR.val hrun (by simp only [VR]; exact ⟨_, _, _, _, s1, rfl, ZJd _, ZJd _, fun _ => rfl, fun _ => rfl, by omega, fun e => (by cases e)⟩) s2 s3 s4 s5
      ·exact h4.no.elim
    ·exact h4.no.elim
   ·exact h3.no.elim
  ·exact h.no.elim
 ·exact h.no.elim
end
end Go.Cx
namespace Go.Cx
open Go.RowKit (Below)
def ZiD (w : World) (r : Nat) (o : Obj) : World := { w with heap := w.heap.setIfInBounds r o }
section
variable {P : Program} {w0 : World} {σ : Sg} {hp : H} {n : Nat} {w : World} {fr : F} {ev : Operand -> Value} {k : KS} {φ : Out -> Prop}
theorem Zt0 {r : Nat} (o : Obj) (h : r < w.heap.size) : (ZiD w r o).heap[r]? = some o := by
 show (w.heap.setIfInBounds r o)[r]? = _; simp [Array.getElem?_setIfInBounds, h]
theorem Rel.put (hR : Rel w0 σ hp n w) {i p t : Nat} (hs : σ i = some (p, t)) (hl : ZL hp i ≠ .no) {o : Obj} {c : Ck} (hc : (ZiD w p o).heap[p]? = some o -> Y2 σ (ZiD w p o) p t c) : Rel w0 σ (YZ hp i c) n (ZiD w p o) :=
 hR.upd (w' := ZiD w p o) hs hl (by simp [ZiD]) (fun k hk => by show (w.heap.setIfInBounds p o)[k]? = _; rw [Array.getElem?_setIfInBounds, if_neg (fun e => hk e.symm)]) rfl rfl rfl (hc (Zt0 o (hR.old _ _ _ hs).2.2))
theorem Yt {r c : Nat} {es : Array MapEntry} (hb : w.heap[r]? = some (.map es c)) : (getObj r).run P w = .ok (.map es c) w := by simp [getObj, Sem.run, hb]
theorem YI {r c : Nat} {es : Array MapEntry} (hb : w.heap[r]? = some (.map es c)) (o : Obj) : (setObj r o).run P w = .ok () (ZiD w r o) := by simp [setObj, Sem.run, hb, ZiD]
theorem Zxd {d : TypeDesc} {x y : CV} {vx vy : Value} (hx : VR σ x vx) (hy : VR σ y vy) (h : Znc x y = some true) : vx = vy /\ Instr.sameBits 10000 vy vx = true := by
 unfold Znc at h
 split at h
 ·obtain ⟨h1, h2⟩ := Zbt h
  have := ZJo h1; subst this
  rw [Zbd] at h2
  simp only [Option.some.injEq, beq_iff_eq] at h2; subst h2
  simp only [VR] at hx hy; subst hx; subst hy
  exact ⟨rfl, by simp [Instr.sameBits]⟩
 ·rw [ZfO] at h
  simp only [Option.some.injEq, beq_iff_eq] at h; subst h
  simp only [VR] at hx hy; subst hx; subst hy
  exact ⟨rfl, by simp [Instr.sameBits]⟩
 ·rw [Zf8] at h
  simp only [Option.some.injEq, beq_iff_eq] at h
  simp only [VR] at hx hy; subst hx; subst hy
  rw [h]
  exact ⟨rfl, by simp only [Instr.sameBits]; rw [beq_toListBytes]; simp⟩
 ·cases h
theorem Zjv {x : CV} {vx : Value} (hx : VR σ x vx) : ∀ {es : List Ent} {ms : List MapEntry} {i j : Nat} {v : CV}, ZG σ es ms -> ZiP x es i = some (some (j, v)) →
  i <= j /\ ∃ e m, es[j - i]? = some e /\ ms[j - i]? = some m /\ m.key = vx /\ Instr.sameBits 10000 m.key vx = true /\ e.val = v /\ VR σ e.val m.val /\ m.born = e.born
 | [], ms, i, j, v, he, h => by cases h
 | e :: es, ms, i, j, v, he, h => by
  unfold ZG at he
  obtain ⟨m, ns, rfl, h1, h2, h3, h4⟩ := he
  unfold ZiP at h
  split at h
  ·rename_i hk
   cases h
   obtain ⟨e1, e2⟩ := Zxd (d := .bool) hx h1 hk
   refine ⟨ZJd _, e, m, by simp, by simp, e1.symm, e2, rfl, h2, h3⟩
  ·rename_i hk
   obtain ⟨a, e', m', b1, b2, b3⟩ := Zjv hx h4 h
   refine ⟨by omega, e', m', ?_, ?_, b3⟩
   ·rw [show j - i = (j - (i + 1)) + 1 by omega, List.getElem?_cons_succ]; exact b1
   ·rw [show j - i = (j - (i + 1)) + 1 by omega, List.getElem?_cons_succ]; exact b2
  ·cases h
theorem ZtT {x v : CV} {vx vv : Value} (hx : VR σ x vx) (hv : VR σ v vv) (f : MapEntry -> MapEntry) (hf : ∀ m, (f m).key = vx /\ (f m).born = m.born) : ∀ {es : List Ent} {ms : List MapEntry} {i : Nat}, ZG σ es ms -> (∀ m, ms[i]? = some m -> (f m).val = vv) -> ZG σ (ZBj x v i es) (ms.modify i f)
 | [], ms, i, he, _ => by cases he; cases i <;> rfl
 | e :: es, ms, i, he, hm => by
  unfold ZG at he
  obtain ⟨m, ns, rfl, h1, h2, h3, h4⟩ := he
  cases i with
  | zero =>
   have := hm m (by simp)
   simp only [ZBj, ZG, List.modify_cons, if_true]
   exact ⟨f m, ns, by simp [List.modify], by rw [(hf m).1]; exact hx, by rw [this]; exact hv, by rw [(hf m).2]; exact h3, h4⟩
  | succ i =>
   simp only [ZBj, ZG]
   exact ⟨m, ns.modify i f, by simp [List.modify], h1, h2, h3, ZtT hx hv f hf h4 (fun m' hm' => hm m' (by simpa using hm'))⟩
theorem ZG.app {es fs : List Ent} {ms ns : List MapEntry} : ZG σ es ms -> ZG σ fs ns -> ZG σ (es ++ fs) (ms ++ ns) := by
 induction es generalizing ms with
 | nil => intro h k; cases h; simpa using k
 | cons e es ih =>
  intro h k
  unfold ZG at h
  obtain ⟨m, ns', rfl, h1, h2, h3, h4⟩ := h
  simp only [List.cons_append, ZG]
  exact ⟨m, _, rfl, h1, h2, h3, ih h4 k⟩
theorem ZBu : ∀ {es : List Ent} {ms : List MapEntry} {i : Nat}, ZG σ es ms -> ZG σ (ZDT i es) (ms.eraseIdx i)
 | [], ms, i, he => by cases he; simp [ZDT, ZG]
 | e :: es, ms, i, he => by
  unfold ZG at he
  obtain ⟨m, ns, rfl, h1, h2, h3, h4⟩ := he
  cases i with
  | zero => simpa [ZDT] using h4
  | succ i =>
   simp only [ZDT, ZG, List.eraseIdx_cons_succ]
   exact ⟨m, _, rfl, h1, h2, h3, ZBu h4⟩
theorem Za8 (ms : List MapEntry) (i : Nat) (f : MapEntry -> MapEntry) : ms.toArray.modify i f = (ms.modify i f).toArray := by
 apply Array.ext'; simp
theorem ZwJ (hR : Rel w0 σ hp n w) (hL : ∀ x, VR σ (lk fr x) (ev x)) {t : Nat} {m x v : Operand} (h : Zv (Zhz P fr hp n t m x v k) φ) :
  LR P w0 σ n w (do Instr.mapUpdate t (ev m) (ev x) (ev v); pure Next.skip : Sem Next) k φ := by
 unfold Zhz at h
 split at h
 ·rename_i kt et ht
  have ht := Zf ht
  obtain ⟨hkk, h2⟩ := h.bif
  clear h
  obtain ⟨d, hk, hd⟩ := ZaX hkk
  have hm := hL m
  split at h2
  ·rename_i b e; rw [e] at hm; simp only [VR] at hm
   obtain ⟨p, u, hs, hv⟩ := hm
   split at h2
   ·rename_i es clock hb
    obtain ⟨ms, g1, g2⟩ := hR.at hs hb (by simp)
    have hck := fun b w => ZaQ (P := P) (b := b) hk hd (ev x) w
    split at h2
    ·exact h2.no.elim
    ·rename_i hj
     split at h2
     ·rename_i i u hf
      obtain ⟨r', f1, f2⟩ := Z8 (hL x) hd g1 hf
      cases r' with
      | none => exact f2.elim
      | some q =>
       obtain ⟨j', mv⟩ := q
       obtain ⟨e1, f2⟩ := f2
       subst e1
       obtain ⟨_, e', m', b1, b2, b3, b4, b5, b6, b7⟩ := Zjv (hL x) g1 hf
       simp only [Nat.sub_zero] at b1 b2
       have hfk := fun w => Yq (P := P) hk f1 w
       have hkey : ((ms.toArray[i]?).map (·.key)).getD (ev x) = m'.key := by simp [b2]
       have hstay : (Instr.keyThatStays m'.key (ev x)).run P w = .ok (ev x) w := by
        simp [Instr.keyThatStays, b4]
       refine LR.unit (w' := ZiD w p (.map (ms.toArray.modify i fun e => { e with key := ev x, val := ev v }) clock)) ?_ (hR.put (c := .map (ZBj (lk fr x) (lk fr v) i es) clock) hs (by rw [hb]; simp) (fun hh => ⟨_, ?_, by rw [hh, Za8]⟩)) (Ex.refl _ _) (Nle.refl _) h2
       ·rw [hv]
        simp only [Instr.mapUpdate, Sem.run_bind, run_underlying ht, Result.andThen_ok, Yt g2, hck, hfk, hkey, hstay, YI g2]
       ·exact ZtT (hL x) (hL v) (fun e => { e with key := ev x, val := ev v }) (fun m => ⟨rfl, rfl⟩) g1 (fun m hm => rfl)
     ·rename_i hf
      obtain ⟨r', f1, f2⟩ := Z8 (hL x) hd g1 hf
      cases r' with
      | some q => exact f2.elim
      | none =>
       have hfk := fun w => Yq (P := P) hk f1 w
       refine LR.unit (w' := ZiD w p (.map (ms.toArray.push { key := ev x, val := ev v, born := clock }) (clock + 1))) ?_ (hR.put (c := .map (es ++ [⟨lk fr x, lk fr v, clock⟩]) (clock + 1)) hs (by rw [hb]; simp) (fun hh => ⟨ms ++ [{ key := ev x, val := ev v, born := clock }], ?_, by rw [hh]; simp⟩)) (Ex.refl _ _) (Nle.refl _) h2
       ·rw [hv]
        simp only [Instr.mapUpdate, Sem.run_bind, run_underlying ht, Result.andThen_ok, Yt g2, hck, hfk, YI g2]
       ·exact g1.app (by unfold ZG; exact ⟨_, [], rfl, hL x, hL v, rfl, rfl⟩)
     ·exact h2.no.elim
   ·exact h2.no.elim
  ·exact h2.no.elim
 ·exact h.no.elim
theorem Zzx (hR : Rel w0 σ hp n w) (hL : ∀ x, VR σ (lk fr x) (ev x)) {t ty : Nat} {ts : Array Nat} (h0 : ts[0]? = some t) {m x : Operand} (h : Zv (Zm7 P fr hp n t m x k) φ) :
  LR P w0 σ n w (do pure (Next.value (<- Builtin.delete_ ts ty #[ev m, ev x])) : Sem Next) k φ := by
 unfold Zm7 at h
 split at h
 ·rename_i kt et ht
  have ht := Zf ht
  obtain ⟨hkk, h2⟩ := h.bif
  clear h
  obtain ⟨d, hk, hd⟩ := ZaX hkk
  have hm := hL m
  have hck := fun b w => ZaQ (P := P) (b := b) hk hd (ev x) w
  split at h2
  ·rename_i e; rw [e] at hm; simp only [VR] at hm
   refine LR.val (v := .tuple #[]) ?_ (by simp only [VR, VRs]; exact ⟨[], rfl, rfl⟩) hR (Ex.refl _ _) (Nle.refl _) h2
   rw [hm]; simp [Builtin.delete_, h0, run_underlying ht, hck]
  ·rename_i b e; rw [e] at hm; simp only [VR] at hm
   obtain ⟨p, u, hs, hv⟩ := hm
   split at h2
   ·rename_i es clock hb
    obtain ⟨ms, g1, g2⟩ := hR.at hs hb (by simp)
    have hself : ZiD w p (.map ms.toArray clock) = w := by
     obtain ⟨hlt, hval⟩ := Array.getElem?_eq_some_iff.1 g2
     unfold ZiD
     have : w.heap.setIfInBounds p (.map ms.toArray clock) = w.heap := by
      apply Array.ext (by simp)
      intro i h1 h2
      rw [Array.getElem_setIfInBounds]
      split
      ·rename_i e; subst e; exact hval.symm
      ·rfl
     rw [this]
    split at h2
    ·rename_i i u hf
     obtain ⟨r', f1, f2⟩ := Z8 (hL x) hd g1 hf
     cases r' with
     | none => exact f2.elim
     | some q =>
      obtain ⟨j', mv⟩ := q
      obtain ⟨e1, f2⟩ := f2
      subst e1
      have hfk := fun w => Yq (P := P) hk f1 w
      refine LR.val (v := .tuple #[]) (w' := ZiD w p (.map (ms.toArray.eraseIdxIfInBounds i) clock)) ?_ (by simp only [VR, VRs]; exact ⟨[], rfl, rfl⟩) (hR.put (c := .map (ZDT i es) clock) hs (by rw [hb]; simp) (fun hh => ⟨ms.eraseIdx i, ZBu g1, by rw [hh]; congr 2; apply Array.ext'; simp⟩)) (Ex.refl _ _) (Nle.refl _) h2
      rw [hv]
      simp [Builtin.delete_, h0, run_underlying ht, Yt g2, hck, hfk, YI g2]
    ·rename_i hf
     obtain ⟨r', f1, f2⟩ := Z8 (hL x) hd g1 hf
     cases r' with
     | some q => exact f2.elim
     | none =>
      have hfk := fun w => Yq (P := P) hk f1 w
      refine LR.val (v := .tuple #[]) (w' := w) ?_ (by simp only [VR, VRs]; exact ⟨[], rfl, rfl⟩) hR (Ex.refl _ _) (Nle.refl _) h2
      rw [hv]
      simp [Builtin.delete_, h0, run_underlying ht, Yt g2, hck, hfk, YI g2, hself]
    ·exact h2.no.elim
   ·exact h2.no.elim
  ·exact h2.no.elim
 ·exact h.no.elim
end
end Go.Cx
namespace Go.Cx
open Go.RowKit (Below)
section
variable {P : Program} {w0 : World} {σ : Sg} {hp : H} {n : Nat} {w : World} {fr : F} {ev : Operand -> Value} {k : KS} {φ : Out -> Prop}
theorem ZpO : ∀ (es : List Ent) (i : Nat), Zrb i es = es[i]?
 | [], i => by simp [Zrb]
 | e :: es, 0 => by simp [Zrb]
 | e :: es, i + 1 => by simp [Zrb, ZpO es i]
theorem ZnK {a b : CV} {va vb : Value} (ha : VR σ a va) (hb : VR σ b vb) : VR σ (.tup [a, b]) (.tuple #[va, vb]) := by
 simp only [VR, VRs]; exact ⟨_, ⟨_, _, rfl, ha, _, _, rfl, hb, rfl⟩, rfl⟩
theorem ZBx {a b c : CV} {va vb vc : Value} (ha : VR σ a va) (hb : VR σ b vb) (hc : VR σ c vc) : VR σ (.tup [a, b, c]) (.tuple #[va, vb, vc]) := by
 simp only [VR, VRs]; exact ⟨_, ⟨_, _, rfl, ha, _, _, rfl, hb, _, _, rfl, hc, rfl⟩, rfl⟩
theorem ZbB : VR σ (.tup []) (.tuple #[]) := by simp only [VR, VRs]; exact ⟨[], rfl, rfl⟩
theorem ZiH (m : Nat) : VR σ (.int 3 (.ofNat m)) (goInt m) := by simp only [VR]; rfl
theorem Zrc (hR : Rel w0 σ hp n w) (hL : ∀ x, VR σ (lk fr x) (ev x)) {t : Nat} {m x : Operand} (h : Zv (ZdE P fr hp n t m x k) φ) :
  LR P w0 σ n w (do pure (Next.value (<- Instr.mapEntry t (ev m) (ev x))) : Sem Next) k φ := by
 unfold ZdE at h
 split at h
 ·rename_i kt et ht
  have ht := Zf ht
  obtain ⟨hkk, h2⟩ := h.bif
  clear h
  obtain ⟨d, hk, hd⟩ := ZaX hkk
  have hm := hL m
  split at h2
  ·rename_i b e; rw [e] at hm; simp only [VR] at hm
   obtain ⟨p, u, hs, hv⟩ := hm
   split at h2
   ·rename_i es clock hb
    obtain ⟨ms, g1, g2⟩ := hR.at hs hb (by simp)
    have hck := fun b w => ZaQ (P := P) (b := b) hk hd (ev x) w
    split at h2
    ·rename_i i v hf
     obtain ⟨r', f1, f2⟩ := Z8 (hL x) hd g1 hf
     cases r' with
     | none => exact f2.elim
     | some q =>
      obtain ⟨j', mv⟩ := q
      obtain ⟨e1, f2⟩ := f2
      subst e1
      obtain ⟨_, e', m', b1, b2, b3, b4, b5, b6, b7⟩ := Zjv (hL x) g1 hf
      simp only [Nat.sub_zero] at b1 b2
      rw [ZpO, b1] at h2
      simp only at h2
      have hfk := fun w => Yq (P := P) hk f1 w
      have hkey : ((ms.toArray[i]?).map (·.key)).getD (ev x) = m'.key := by simp [b2]
      have hborn : ((ms.toArray[i]?).map (fun x => (x.born : Int))).getD 0 = (e'.born : Int) := by simp [b2, b7]
      have hstay : (Instr.keyThatStays m'.key (ev x)).run P w = .ok (ev x) w := by
       simp [Instr.keyThatStays, b4]
      refine LR.val (v := .tuple #[mv, goInt e'.born]) (w' := ZiD w p (.map (ms.toArray.modify i fun e => { e with key := ev x }) clock)) ?_ (ZnK f2 (ZiH _)) (hR.put (c := .map (ZBj (lk fr x) v i es) clock) hs (by rw [hb]; simp) (fun hh => ⟨_, ?_, by rw [hh, Za8]⟩)) (Ex.refl _ _) (Nle.refl _) h2
      ·rw [hv]
       simp only [Instr.mapEntry, Sem.run_bind, run_underlying ht, Result.andThen_ok, Yt g2, hck, hfk, hkey, hstay, YI g2, hborn]
       rfl
      ·subst b5
       exact ZtT (vv := m'.val) (hL x) b6 (fun e => { e with key := ev x }) (fun m => ⟨rfl, rfl⟩) g1 (fun m hm => by rw [b2] at hm; cases hm; rfl)
    ·rename_i hf
     obtain ⟨r', f1, f2⟩ := Z8 (hL x) hd g1 hf
     cases r' with
     | some q => exact f2.elim
     | none =>
      split at h2
      ·rename_i v hz
       obtain ⟨i, zv, z1, z2, z3⟩ := Zen (σ := σ) hz
       have hzr := fun w => Zu (P := P) z1 z2 w
       have hfk := fun w => Yq (P := P) hk f1 w
       refine LR.val (v := .tuple #[zv, goInt clock]) (w' := ZiD w p (.map (ms.toArray.push { key := ev x, val := zv, born := clock }) (clock + 1))) ?_ (ZnK z3 (ZiH _)) (hR.put (c := .map (es ++ [⟨lk fr x, v, clock⟩]) (clock + 1)) hs (by rw [hb]; simp) (fun hh => ⟨ms ++ [{ key := ev x, val := zv, born := clock }], ?_, by rw [hh]; simp⟩)) (Ex.refl _ _) (Nle.refl _) h2
       ·rw [hv]
        simp only [Instr.mapEntry, Sem.run_bind, run_underlying ht, Result.andThen_ok, Yt g2, hck, hfk, hzr, YI g2]
        rfl
       ·exact g1.app (by unfold ZG; exact ⟨_, [], rfl, hL x, z3, rfl, rfl⟩)
      ·exact h2.no.elim
    ·exact h2.no.elim
   ·exact h2.no.elim
  ·exact h2.no.elim
 ·exact h.no.elim
theorem Zor {s : Nat} {v : CV} {vv : Value} (hv : VR σ v vv) : ∀ {es es' : List Ent} {ms : List MapEntry}, ZG σ es ms -> ZoC s v es = some es' →
  ∃ i, ms.findIdx? (fun e => (e.born : Int) == (s : Int)) = some i /\ ZG σ es' (ms.modify i fun e => { e with val := vv })
 | [], es', ms, he, h => by cases h
 | e :: es, es', ms, he, h => by
  unfold ZG at he
  obtain ⟨m, ns, rfl, h1, h2, h3, h4⟩ := he
  unfold ZoC at h
  cases hb : Nat.beq e.born s
  ·rw [hb] at h; simp only [cond_false] at h
   have hne : ¬ ((m.born : Int) = (s : Int)) := by rw [h3]; intro e'; have : e.born = s := (by omega); rw [this, Nat.beq_refl] at hb; cases hb
   split at h
   ·rename_i r hr
    cases h
    obtain ⟨i, i1, i2⟩ := Zor hv h4 hr
    refine ⟨i + 1, ?_, ?_⟩
    ·rw [List.findIdx?_cons]; simp only [beq_iff_eq, hne, Bool.false_eq_true, if_false]; rw [i1]; rfl
    ·simp only [List.modify_succ_cons, ZG]; exact ⟨m, _, rfl, h1, h2, h3, i2⟩
   ·cases h
  ·rw [hb] at h; cases h
   have := ZJo hb
   refine ⟨0, ?_, ?_⟩
   ·rw [List.findIdx?_cons]; simp [h3, this]
   ·simp only [List.modify_zero_cons, ZG]; exact ⟨_, _, rfl, h1, hv, h3, h4⟩
theorem Zkd (hR : Rel w0 σ hp n w) (hL : ∀ x, VR σ (lk fr x) (ev x)) {t : Nat} {m s v : Operand} (h : Zv (ZbF fr hp n m s v k) φ) :
  LR P w0 σ n w (do Instr.entryStore t (ev m) (ev s) (ev v); pure Next.skip : Sem Next) k φ := by
 unfold ZbF at h
 have hm := hL m
 split at h
 ·rename_i b e; rw [e] at hm; simp only [VR] at hm
  obtain ⟨p, u, hs, hv⟩ := hm
  split at h
  ·rename_i es clock hb
   obtain ⟨ms, g1, g2⟩ := hR.at hs hb (by simp)
   split at h
   ·rename_i kd st hst
    have hst := Zlj hL hst
    split at h
    ·exact h.no.elim
    ·rename_i hj
     split at h
     ·rename_i es' hb'
      obtain ⟨i, i1, i2⟩ := Zor (hL v) g1 hb'
      refine LR.unit (w' := ZiD w p (.map (ms.toArray.modify i fun e => { e with val := ev v }) clock)) ?_ (hR.put (c := .map es' clock) hs (by rw [hb]; simp) (fun hh => ⟨_, i2, by rw [hh, Za8]⟩)) (Ex.refl _ _) (Nle.refl _) h
      rw [hv, hst]
      have hfi : ms.toArray.findIdx? (fun e => (e.born : Int) == Int.ofNat st) = some i := by
       rw [List.findIdx?_toArray]; exact i1
      simp only [Instr.entryStore, Sem.run_bind, Result.andThen_ok, Yt g2, asInt, asIntOf, Sem.run_pure, hfi, YI g2]
     ·exact h.no.elim
   ·exact h.no.elim
  ·exact h.no.elim
 ·exact h.no.elim
theorem ZCj (hR : Rel w0 σ hp n w) (hL : ∀ x, VR σ (lk fr x) (ev x)) {t : Nat} {x : Operand} (h : Zv (Zqm P fr hp n t x k) φ) :
  LR P w0 σ n w (do pure (Next.value (<- Instr.range t (ev x))) : Sem Next) k φ := by
 unfold Zqm at h
 have hx := hL x
 have mk : ∀ {c : Ck} (o : Obj), (∀ τ, Le σ τ -> τ (idN n) = some (w.heap.size, 0) -> Y2 τ { w with heap := w.heap.push o } w.heap.size 0 c) -> Zv (Zar hp n c (fun b => .ptr b 0) k) φ →
   (Instr.range t (ev x)).run P w = .ok (.pointer (some ⟨w.heap.size, 0, none⟩)) { w with heap := w.heap.push o } -> LR P w0 σ n w (do pure (Next.value (<- Instr.range t (ev x))) : Sem Next) k φ := fun o hc h hrun => by
  obtain ⟨σ', s1, s2, s3, s4, s5⟩ := ZT hR h o 0 hc
  exact LR.val hrun (by simp only [VR]; exact ⟨_, _, s1, rfl⟩) s2 s3 s4 s5
 split at h
 ·rename_i l m hd e; rw [e] at hx; simp only [VR] at hx
  exact mk (c := .siter l m 0) (.stringIter ⟨(bys l m).toArray⟩ 0) (fun τ hle _ => ZN w _) h (by rw [hx]; simp [Instr.range, run_underlying (Zf hd), newObj, Sem.run])
 ·rename_i kt et hd e; rw [e] at hx; simp only [VR] at hx
  exact mk (c := .iter0) (.mapIter none 0 #[] 0) (fun τ hle _ => ZN w _) h (by rw [hx]; simp [Instr.range, run_underlying (Zf hd), newObj, Sem.run])
 ·rename_i kt et b hd e; rw [e] at hx; simp only [VR] at hx
  obtain ⟨p, u, hs, hv⟩ := hx
  split at h
  ·rename_i es clock hb
   obtain ⟨ms, g1, g2⟩ := hR.at hs hb (by simp)
   exact mk (c := .iter b clock [] clock) (.mapIter (some p) clock #[] clock) (fun τ hle _ => ⟨p, u, hle _ _ hs, ZN w _⟩) h (by rw [hv]; simp [Instr.range, run_underlying (Zf hd), Yt g2, newObj, Sem.run])
  ·exact h.no.elim
 ·exact h.no.elim
theorem ZBo (x : Nat) : ∀ l : List Nat, has x l = l.contains x
 | [] => rfl
 | a :: l => by
  unfold has
  rw [ZBo x l, List.contains_cons]
  by_cases h : a = x
  ·subst h; simp
  ·have : Nat.beq a x = false := by cases hq : Nat.beq a x; rfl; exact absurd (ZJo hq) h
   rw [this]; simp [Ne.symm h]
theorem Zni (seen : List Nat) : ∀ {es : List Ent} {ms : List MapEntry}, ZG σ es ms -> ZG σ (ZkC seen es) (ms.filter fun e => !seen.contains e.born)
 | [], ms, he => by cases he; rfl
 | e :: es, ms, he => by
  unfold ZG at he
  obtain ⟨m, ns, rfl, h1, h2, h3, h4⟩ := he
  unfold ZkC
  rw [ZBo, List.filter_cons, h3]
  cases seen.contains e.born
  ·simp only [cond_false, Bool.not_false, if_true, ZG]; exact ⟨m, _, rfl, h1, h2, h3, Zni seen h4⟩
  ·simp only [cond_true, Bool.not_true, Bool.false_eq_true, if_false]; exact Zni seen h4
theorem ZnR {since : Nat} : ∀ {es : List Ent} {ms : List MapEntry}, ZG σ es ms -> Zl8 since es = true -> ∀ m ∈ ms, m.born < since
 | [], ms, he, _, m, hm => by cases he; cases hm
 | e :: es, ms, he, h, m, hm => by
  unfold ZG at he
  obtain ⟨m', ns, rfl, h1, h2, h3, h4⟩ := he
  unfold Zl8 at h
  cases hb : Nat.blt e.born since
  ·rw [hb] at h; cases h
  ·rw [hb] at h; simp only [cond_true] at h
   rcases List.mem_cons.1 hm with rfl | hm
   ·rw [h3]; simpa [Nat.blt_eq] using hb
   ·exact ZnR h4 h m hm
theorem ZhO {f : Ent -> Res} : ∀ {l : List Ent}, Zv (ZyD f l) φ -> ∀ e ∈ l, Zv (f e) φ
 | [], _, e, he => by cases he
 | [a], h, e, he => by
  simp only [ZJg] at he; subst he; exact h
 | a :: b :: l, h, e, he => by
  simp only [ZyD] at h
  obtain ⟨h1, h2⟩ := h.cat
  rcases List.mem_cons.1 he with rfl | he
  ·exact h1
  ·exact ZhO h2 e he
theorem ZG.get : ∀ {es : List Ent} {ms : List MapEntry} {i : Nat} {m : MapEntry}, ZG σ es ms -> ms[i]? = some m -> ∃ e, e ∈ es /\ VR σ e.key m.key /\ VR σ e.val m.val /\ m.born = e.born
 | [], ms, i, m, he, h => by cases he; cases h
 | e :: es, ms, i, m, he, h => by
  unfold ZG at he
  obtain ⟨m', ns, rfl, h1, h2, h3, h4⟩ := he
  cases i with
  | zero => simp at h; subst h; exact ⟨e, ZJv, h1, h2, h3⟩
  | succ i =>
   obtain ⟨e', a, b⟩ := ZG.get h4 (by simpa using h)
   exact ⟨e', ZJt _ a, b⟩
end
end Go.Cx
namespace Go.Cx
open Go.RowKit (Below)
open Go.ChangeMaps (setBlock)
section
variable {P : Program} {w0 : World} {σ : Sg} {hp : H} {n : Nat} {w : World} {fr : F} {ev : Operand -> Value} {k : KS} {φ : Out -> Prop}
theorem ZHn (hR : Rel w0 σ hp n w) (hL : ∀ x, VR σ (lk fr x) (ev x)) {x : Operand} {str : Bool} {ty : TypeId} (h : Zv (ZAc fr hp n x str k) φ) :
  LR P w0 σ n w (do pure (Next.value (<- Instr.next (ev x) str ty)) : Sem Next) k φ := by
 unfold ZAc at h
 have hx := hL x
 split at h
 ·rename_i r e; rw [e] at hx; simp only [VR] at hx
  obtain ⟨p, u, hs, hv⟩ := hx
  rw [hv]
  split at h
  ·rename_i m since seen stepped hit
   cases str
   ·simp only [cond_false] at h
    split at h
    ·rename_i es clock hm
     obtain ⟨hcond, h2⟩ := h.bif
     clear h
     obtain ⟨hss, hold⟩ : since <= stepped /\ Zl8 since es = true := by
      cases hq : Nat.ble since stepped
      ·rw [hq] at hcond; cases hcond
      ·rw [hq] at hcond; exact ⟨ZJA hq, hcond⟩
     obtain ⟨q, v, hsm, hitw⟩ := hR.at hs hit (by simp)
     obtain ⟨ms, g1, g2⟩ := hR.at hsm hm (by simp)
     have hcr := Zni seen g1
     have hleft : (leftOf ms.toArray seen.toArray) = (ms.filter fun e => !seen.contains e.born).toArray := by
      unfold leftOf; simp
     have key := run_next_at (P := P) w ty p q since stepped seen.toArray ms.toArray clock hitw g2 (fun x hx => ZnR g1 hold x (by simpa using hx)) hss
     rw [hleft] at key
     rcases key with ⟨k1, k2⟩ | ⟨e, k1, w1, k2, k3⟩
     ·have hnil : (ms.filter fun e => !seen.contains e.born) = [] := ZJC (by simpa using k1)
      rw [hnil] at hcr
      have : ZkC seen es = [] := by
       cases hc : ZkC seen es with
       | nil => rfl
       | cons a l => rw [hc] at hcr; unfold ZG at hcr; obtain ⟨_, _, hcc, _⟩ := hcr; cases hcc
      rw [this] at h2
      exact LR.val k2 (by simp only [VR, VRs]; exact ⟨_, ⟨_, _, rfl, rfl, rfl⟩, rfl⟩) hR (Ex.refl _ _) (Nle.refl _) h2
     ·obtain ⟨i, hi⟩ := List.getElem?_of_mem (show e ∈ (ms.filter fun e => !seen.contains e.born) by simpa using k1)
      obtain ⟨e', m1, m2, m3, m4⟩ := hcr.get hi
      have h3 : Zv (ZyD (fun e => k (.tup [.bool true, e.key, e.val]) (YZ hp r (.iter m since (seen ++ [e.born]) clock)) n) (ZkC seen es)) φ := by
       split at h2
       ·rename_i hc; rw [hc] at m1; cases m1
       ·exact h2
      have h4 := ZhO h3 e' m1
      have hR1 : Rel w0 σ hp n w1 := by
       rcases k2 with rfl | rfl
       ·exact hR
       ·exact hR.drew _
      refine LR.val k3 (ZBx (by simp only [VR]) m2 m3) (hR1.put (c := .iter m since (seen ++ [e'.born]) clock) hs (by rw [hit]; simp) (fun hh => ⟨q, v, hsm, ?_⟩)) (Ex.refl _ _) (Nle.refl _) h4
      rw [hh, <- m4]; simp
    ·exact h.no.elim
   ·exact h.no.elim
  ·rename_i hit
   cases str
   ·simp only [cond_false] at h
    have hitw := hR.at hs hit (by simp)
    have hitw : w.heap[p]? = some (.mapIter none 0 #[] 0) := hitw
    refine LR.val (v := .tuple #[.bool false]) ?_ (by simp only [VR, VRs]; exact ⟨_, ⟨_, _, rfl, rfl, rfl⟩, rfl⟩) hR (Ex.refl _ _) (Nle.refl _) h
    simp [Instr.next, getObj, Sem.run, hitw]
   ·exact h.no.elim
  ·rename_i l m pos hit
   cases str
   ·exact h.no.elim
   ·simp only [cond_true] at h
    have hitw : w.heap[p]? = some (.stringIter ⟨(bys l m).toArray⟩ pos) := hR.at hs hit (by simp)
    have hsz : (⟨(bys l m).toArray⟩ : ByteArray).size = l := by simp [ByteArray.size, Zp]
    cases hlt : Nat.blt pos l
    ·rw [hlt] at h; simp only [cond_false] at h
     have hlt' : ¬ pos < l := by intro h'; have := Nat.blt_eq.symm ▸ h'; rw [this] at hlt; cases hlt
     refine LR.val (v := .tuple #[.bool false]) ?_ (by simp only [VR, VRs]; exact ⟨_, ⟨_, _, rfl, rfl, rfl⟩, rfl⟩) hR (Ex.refl _ _) (Nle.refl _) h
     simp [Instr.next, getObj, Sem.run, hitw, hsz, hlt']
    ·rw [hlt] at h; simp only [cond_true] at h
     have hlt' : pos < l := by simpa [Nat.blt_eq] using hlt
     obtain ⟨ha, h2⟩ := h.bif
     clear h
     have ha : Zhd m pos < 128 := by simpa [Nat.blt_eq] using ha
     have hlt2 : pos < (⟨(bys l m).toArray⟩ : ByteArray).size := by rw [hsz]; exact hlt'
     have ZL : ((⟨(bys l m).toArray⟩ : ByteArray)[pos]'hlt2) = UInt8.ofNat (Zhd m pos) := by
      have := Zkv l m pos hlt'
      rw [getElem?_pos (⟨(bys l m).toArray⟩ : ByteArray) pos hlt2] at this
      exact Option.some.inj this
     have hdec := decode_ascii ⟨(bys l m).toArray⟩ pos hlt2 (by rw [ZL, Ze3 _ (Zjj m pos)]; exact ha)
     rw [ZL, Ze3 _ (Zjj m pos)] at hdec
     refine LR.val (v := .tuple #[.bool true, goInt pos, .int .i32 (Zhd m pos : Nat)]) (w' := ZiD w p (.stringIter ⟨(bys l m).toArray⟩ (pos + 1))) ?_ (ZBx (by simp only [VR]) (ZiH _) (by simp only [VR]; rfl))
      (hR.put (c := .siter l m (pos + 1)) hs (by rw [hit]; simp) (fun hh => hh)) (Ex.refl _ _) (Nle.refl _) h2
     simp [Instr.next, getObj, setObj, Sem.run, hitw, hsz, hlt', hdec, ZiD]
  ·exact h.no.elim
 ·exact h.no.elim
theorem ZqB : ∀ l : List Nat, Zzk l = l.getLast?
 | [] => rfl
 | [a] => rfl
 | a :: b :: l => by simp only [Zzk]; rw [ZqB (b :: l)]; simp
theorem Zie {s : Nat} : ∀ {es : List Ent} {ms : List MapEntry} {e : Ent}, ZG σ es ms -> Zfl s es = some e -> ∃ m, ms.find? (fun x => x.born == s) = some m /\ VR σ e.key m.key /\ VR σ e.val m.val
 | [], ms, e, he, h => by cases h
 | a :: es, ms, e, he, h => by
  unfold ZG at he
  obtain ⟨m, ns, rfl, h1, h2, h3, h4⟩ := he
  unfold Zfl at h
  cases hb : Nat.beq a.born s
  ·rw [hb] at h; simp only [cond_false] at h
   obtain ⟨m', k1, k2⟩ := Zie h4 h
   refine ⟨m', ?_, k2⟩
   have : ¬ (m.born = s) := by rw [h3]; intro e'; rw [e', Nat.beq_refl] at hb; cases hb
   rw [List.find?_cons_of_neg (by simpa using this)]; exact k1
  ·rw [hb] at h; cases h
   have := ZJo hb
   exact ⟨m, by rw [List.find?_cons_of_pos (by simp [h3, this])], h1, h2⟩
theorem ZC8 (hR : Rel w0 σ hp n w) (hL : ∀ x, VR σ (lk fr x) (ev x)) {x : Operand} (h : Zv (ZpI fr hp n x k) φ) :
  LR P w0 σ n w (do pure (Next.value (<- Instr.entry (ev x))) : Sem Next) k φ := by
 unfold ZpI at h
 have hx := hL x
 split at h
 ·rename_i r e; rw [e] at hx; simp only [VR] at hx
  obtain ⟨p, u, hs, hv⟩ := hx
  split at h
  ·rename_i m since seen stepped hit
   split at h
   ·rename_i es clock hm
    obtain ⟨hcl, h2⟩ := h.bif
    clear h
    have hcl := ZJo hcl
    subst hcl
    split at h2
    ·rename_i s hlast
     rw [ZqB] at hlast
     split at h2
     ·rename_i en hen
      obtain ⟨q, v, hsm, hitw⟩ := hR.at hs hit (by simp)
      obtain ⟨ms, g1, g2⟩ := hR.at hsm hm (by simp)
      obtain ⟨m', k1, k2, k3⟩ := Zie g1 hen
      refine LR.val (v := .tuple #[m'.key, m'.val]) ?_ (ZnK k2 k3) hR (Ex.refl _ _) (Nle.refl _) h2
      rw [hv]
      have hf : ms.toArray.find? (fun x => x.born == s) = some m' := by rw [<- Array.find?_toList]; exact k1
      have hbk : seen.toArray.back? = some s := by simpa using hlast
      simp only [Instr.entry, getObj, Sem.run_bind, Sem.run, hitw, g2, Result.andThen, hbk, bne_self_eq_false, Bool.false_eq_true, if_false, hf]
      rfl
     ·exact h2.no.elim
    ·exact h2.no.elim
   ·exact h.no.elim
  ·exact h.no.elim
 ·exact h.no.elim
end
end Go.Cx
namespace Go.Cx
open Go.RowKit (Below)
theorem Zb9 {need : Nat} : ∀ (r c : Nat), 256 <= c -> c <= 2 * need -> Builtin.growBy need r c <= 2 * need
 | 0, c, _, h => h
 | r + 1, c, h0, h => by
  simp only [Builtin.growBy]
  split
  ·exact h
  ·exact Zb9 r _ (by omega) (by omega)
theorem ZcJ {need old : Nat} (h : old < need) : Builtin.nextslicecap need old <= 2 * need := by
 unfold Builtin.nextslicecap
 split
 ·omega
 ·split
  ·omega
  ·exact Zb9 _ _ (by omega) (by omega)
def Zan (d : TypeDesc) : Bool := match d with | .int _ => false | _ => true
theorem Zct {d : TypeDesc} : Zan d = true -> Builtin.append_.match_1 (fun _ => Bool) d (fun _ => true) (fun _ => false) = false := by
 intro h
 cases d <;> first | rfl | (simp [Zan] at h; done)
section
variable {P : Program} {w0 : World} {σ : Sg} {hp : H} {n : Nat} {w : World} {fr : F} {ev : Operand -> Value} {k : KS} {φ : Out -> Prop}
theorem YL {ts : Array TypeId} {t t2 et ty : TypeId} {d2 : TypeDesc} {sz m sLen sCap : Nat} {base : Option Addr} {x : Value} {cells : List Value} {w w' : World} (h0 : ts[0]? = some t) (h1 : ts[1]? = some t2)
  (ht : P.underlying t = some (.slice et)) (ht2 : P.underlying t2 = some d2) (hd : Zan d2 = true) (hsz : (sizeOf et).run P w = .ok sz w) (hx : (Builtin.lenOf x).run P w = .ok m w) (hf : (Builtin.firstCells sz m x).run P w = .ok cells.toArray w) (hfit : sLen + m <= sCap)
  (hrun : match base with | some a => (storeCells (a.add (sLen * sz)) cells).run P w = .ok () w' | none => w' = w) :
  (Builtin.append_ ts ty #[.slice base sLen sCap, x]).run P w = .ok (.slice base (sLen + m) sCap) w' := by
 have hd' := Zct hd
 cases base with
 | none => subst hrun; simp [Builtin.append_, h0, h1, run_underlying ht, run_underlying ht2, hsz, hx, hfit, hf, hd']
 | some a => simp [Builtin.append_, h0, h1, run_underlying ht, run_underlying ht2, hsz, hx, hfit, hf, hrun, hd']
theorem ZaF {ts : Array TypeId} {t t2 et ty : TypeId} {d2 : TypeDesc} {m sLen sCap : Nat} {base : Option Addr} {x z : Value} {i : TypeInfo} {cells old : List Value} {w : World} (h0 : ts[0]? = some t) (h1 : ts[1]? = some t2)
  (ht : P.underlying t = some (.slice et)) (ht2 : P.underlying t2 = some d2) (hd : Zan d2 = true) (hi : P.info? et = some i) (hz : i.zero = some z) (hzs : z.cells.size = i.size) (hb : 1 <= i.bytes)
  (hx : (Builtin.lenOf x).run P w = .ok m w) (hf : (Builtin.firstCells i.size m x).run P w.drew = .ok cells.toArray w.drew) (hfit : ¬ sLen + m <= sCap)
  (hold : (Builtin.firstCells i.size sLen (.slice base sLen sCap)).run P w.drew = .ok old.toArray w.drew) (hroom : i.bytes * (sLen + m) <= 140737488355328) :
  ∃ c spare, sLen + m <= c /\ spare.length = (c - (sLen + m)) * i.size /\ (Builtin.append_ ts ty #[.slice base sLen sCap, x]).run P w =
   .ok (.slice (some ⟨w.heap.size, 0, none⟩) (sLen + m) c) { w.drew with heap := w.heap.push (.cells (old ++ cells ++ spare).toArray et) } := by
 refine ⟨(Question.appendCap (sLen + m) sCap et).cut (w.tape w.drawn (.appendCap (sLen + m) sCap et)), (Builtin.zeroCells z.cells ((Question.appendCap (sLen + m) sCap et).cut (w.tape w.drawn (.appendCap (sLen + m) sCap et)) - (sLen + m))).toList, by simp [Question.cut], by simp [Builtin.zeroCells, hzs], ?_⟩
 have hsz : ∀ w, (sizeOf et).run P w = .ok i.size w := fun w => by simp [sizeOf, typeInfo, hi]
 have hcap := ZcJ (show sCap < sLen + m by omega)
 have hcapb : ¬ (281474976710656 < Builtin.nextslicecap (sLen + m) sCap * i.bytes) := by
  have : Builtin.nextslicecap (sLen + m) sCap * i.bytes <= 2 * (sLen + m) * i.bytes := ZJe _ hcap
  have e : 2 * (sLen + m) * i.bytes = 2 * (i.bytes * (sLen + m)) := by rw [Nat.mul_assoc, Nat.mul_comm (sLen + m)]
  omega
 have hnb : ¬ i.bytes = 0 := by omega
 have hd' := Zct hd
 have hzr : ∀ w, (zeroValue et).run P w = .ok z w := fun w => Zu hi hz w
 have harr : ∀ Z : Array Value, old.toArray ++ (cells.toArray ++ Z) = (old ++ (cells ++ Z.toList)).toArray := fun Z => by apply Array.ext'; simp
 simp [Builtin.append_, h0, h1, run_underlying ht, run_underlying ht2, hsz, hx, hfit, typeInfo, hi, hnb, hcapb, hd', Question.forced, hold, hf, hzr, YK]
 rw [harr]
 rfl
theorem ZdS {ts : Array TypeId} {t et ty : TypeId} {sz m l cap : Nat} {base : Option Addr} {x : Value} {cells : List Value} {w w' : World} (h0 : ts[0]? = some t) (ht : P.underlying t = some (.slice et)) (hsz : (sizeOf et).run P w = .ok sz w)
  (hx : (Builtin.lenOf x).run P w = .ok m w) (hf : (Builtin.firstCells sz (min m l) x).run P w = .ok cells.toArray w)
  (hrun : match base with | some a => (storeCells a cells).run P w = .ok () w' | none => w' = w) :
  (Builtin.copy_ ts ty #[.slice base l cap, x]).run P w = .ok (goInt (min m l : Nat)) w' := by
 have hmin : m.min l = min m l := rfl
 cases base with
 | none => subst hrun; simp [Builtin.copy_, h0, run_underlying ht, hx, hsz, hmin, hf]
 | some a => simp [Builtin.copy_, h0, run_underlying ht, hx, hsz, hmin, hf, hrun]
theorem Zeg {ts : Array TypeId} {t et ty : TypeId} {l cap : Nat} {a : Addr} {i : TypeInfo} {zv : Value} {w w' : World} (h0 : ts[0]? = some t) (ht : P.underlying t = some (.slice et)) (hi : P.info? et = some i) (hz : i.zero = some zv)
  (hrun : (storeCells a (List.replicate (l + 1) zv.cells.toList).flatten).run P w = .ok () w') :
  (Builtin.clear_ ts ty #[.slice (some a) (l + 1) cap]).run P w = .ok (.tuple #[]) w' := by
 have hc : (Builtin.zeroCells zv.cells (l + 1)).toList = (List.replicate (l + 1) zv.cells.toList).flatten := Z4 _ _
 simp [Builtin.clear_, h0, run_underlying ht, Zu hi hz, hc, hrun]
/-! ### Elements -/
def Zl5 (σ : Sg) : Els -> List Value -> Prop
 | .cs l, vs => VRs σ l vs
 | .bs l m, vs => vs = (bys l m).map ZdF
theorem Zl5.mono {τ : Sg} (h : Le σ τ) {e : Els} {vs : List Value} (k : Zl5 σ e vs) : Zl5 τ e vs := by
 cases e with
 | cs l => exact VRs.mono h k
 | bs l m => exact k
theorem ZgG {c : CV} {v : Value} (hv : VR σ c v) {m : Nat} (h : lenOf c = some m) (w : World) : (Builtin.lenOf v).run P w = .ok m w := by
 unfold lenOf at h
 split at h
 ·simp only [VR] at hv; subst hv; cases h; rfl
 ·rename_i l x; simp only [VR] at hv; subst hv; cases h; simp [Builtin.lenOf, ByteArray.size, Zp]
 ·simp only [VR] at hv; obtain ⟨_, _, _, _, _, rfl, _⟩ := hv; cases h; rfl
 ·cases h
theorem Zdw (hR : Rel w0 σ hp n w) {c : CV} {v : Value} (hv : VR σ c v) {u8 : Bool} {s m : Nat} {e : Els} (h : Zho hp u8 s c m = some e) (h1 : 1 <= s) (h8 : u8 = true -> s = 1) :
  ∃ vs, Zl5 σ e vs /\ vs.length = m * s /\ ∀ w', (∀ a, w'.cell? a = w.cell? a) -> (Builtin.firstCells s m v).run P w' = .ok vs.toArray w' := by
 unfold Zho at h
 split at h
 ·obtain ⟨h2, h3⟩ := Zbt h
  have := ZJo h2; subst this
  simp only [VR] at hv; subst hv
  refine ⟨[], ?_, by simp, fun w' _ => rfl⟩
  cases h3; cases u8 <;> simp [Zl5, VRs, bys]
 ·rename_i l x
  obtain ⟨h2, h3⟩ := Zbt h
  obtain ⟨h4, h5⟩ := Zbt h3
  cases h5
  have h4 := ZJA h4
  have := h8 h2; subst this
  simp only [VR] at hv; subst hv
  refine ⟨(bys m x).map ZdF, rfl, by simp [Zp], fun w' _ => ?_⟩
  have e := Zdk l x 0 m h4 (Nat.zero_le _)
  simp only [Builtin.firstCells, Sem.run_pure]
  rw [e]
  congr 1
  simp only [Nat.sub_zero]
  have e2 : bys m (Zng x 0 m) = bys m x := by unfold Zng; rw [ZbU, Zsw, Nat.div_one]
  rw [e2]
  apply Array.ext'; simp [ZdF]
 ·rename_i b o s' l kk ex
  obtain ⟨h2, h3⟩ := Zbt h
  have := ZJo h2; subst this
  obtain ⟨h4, h5⟩ := Zbt h3
  have h4 := ZJA h4
  simp only [VR] at hv; obtain ⟨p, t, o', C, hs, rfl, hlk, hkc, hex, ho, hle, heq⟩ := hv
  cases hm0 : Nat.beq m 0
  ·rw [hm0] at h5; simp only [cond_false] at h5
   have hm : m ≠ 0 := fun e => by rw [e] at hm0; cases hm0
   have hoo := ho (.inl (by omega)); subst hoo
   have rd : ∀ (vs ws : List Value) (fz : Bool), Row w p t ws fz -> vs.length = m * s -> (∀ j v, vs[j]? = some v -> ws[o' + j]? = some v) -> ∀ w', (∀ a, w'.cell? a = w.cell? a) -> (Builtin.firstCells s m (.slice (some ⟨p, o', none⟩) l C)).run P w' = .ok vs.toArray w' := by
    intro vs ws fz hrow hl hj w' hw'
    simp only [Builtin.firstCells]
    rw [<- hl]
    exact Zbw _ vs w' (fun j v hv => by rw [hw', add_eq]; exact (hrow.cell (hj j v hv)).1)
   cases hu : u8
   ·rw [hu] at h5; simp only [cond_false] at h5
    split at h5
    ·rename_i cs hc
     split at h5
     ·rename_i r hr
      cases h5
      obtain ⟨ws, g1, g2⟩ := hR.at hs hc (by simp)
      obtain ⟨a1, a2, a3⟩ := (g1.drop (n := o')).take hr
      refine ⟨_, a1, by rw [ZJp]; omega, rd _ ws _ g2 (by rw [ZJp]; omega) (fun j v hj => ?_)⟩
      have hlt := (List.getElem?_eq_some_iff.1 hj).1
      rw [List.getElem?_take_of_lt (by simp at hlt; omega), ZJM] at hj
      exact hj
     ·cases h5
    ·cases h5
   ·rw [hu] at h5; simp only [cond_true] at h5
    have := h8 hu; subst this
    split at h5
    ·rename_i kk2 x hc
     obtain ⟨h6, h7⟩ := Zbt h5
     cases h7
     have h6 := ZJA h6
     have g2 : Row w p t ((bys kk2 x).map ZdF) true := (hR.at hs hc (by simp)).1
     refine ⟨(bys m (Zng x o' m)).map ZdF, rfl, by simp [Zp], rd _ _ _ g2 (by simp [Zp]) (fun j v hj => ?_)⟩
     have hlt := (List.getElem?_eq_some_iff.1 hj).1
     rw [ZJx, Zp] at hlt
     rw [<- ZmB kk2 x o' m h6, ZJj, List.getElem?_take_of_lt hlt, ZJM, <- ZJj] at hj
     exact hj
    ·cases h5
  ·rw [hm0] at h5; simp only [cond_true] at h5
   have := ZJo hm0; subst this
   refine ⟨[], ?_, by simp, fun w' _ => by simp [Builtin.firstCells, loadCells, loadCellsFrom]⟩
   cases h5; cases u8 <;> simp [Zl5, VRs, bys]
 ·cases h
theorem Row.len {p t : Nat} {vs : List Value} {fz : Bool} (h : Row w p t vs fz) : vs.length <= t := by
 obtain ⟨arr, _, _, _, _, q1, ⟨sp, q2⟩, _⟩ := h; have := congrArg List.length q2; simp at this; omega
end
end Go.Cx
