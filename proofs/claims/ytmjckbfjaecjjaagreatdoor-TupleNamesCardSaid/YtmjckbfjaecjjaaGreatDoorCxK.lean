/- A run with written-out values: what several outcomes have in common. -/
import Derived.Test.YtmjckbfjaecjjaaGreatDoorCxJg
set_option linter.unusedVariables false
set_option linter.unusedSimpArgs false
set_option linter.unnecessarySimpa false
namespace Go.Cx
open Go.RowKit (Below)
theorem bbq_t {a b : Bool} (h : bbq a b = true) : a = b := by cases a <;> cases b <;> first | rfl | cases h
theorem ibq_t {a b : Int} (h : ibq a b = true) : a = b := by rw [ibq_iff] at h; simpa using h
theorem nbq {a b : Nat} (h : Nat.beq a b = true) : a = b := Nat.eq_of_beq_eq_true h
theorem bif_t {a b : Bool} (h : (bif a then b else false) = true) : a = true ∧ b = true := by cases a <;> cases b <;> first | exact ⟨rfl, rfl⟩ | cases h
mutual
theorem CV.bq_t : ∀ {a b : CV}, CV.bq a b = true → a = b
  | .int k a, .int j b, h => by simp only [CV.bq] at h; obtain ⟨h1, h2⟩ := bif_t h; rw [nbq h1, ibq_t h2]
  | .bool a, .bool b, h => by simp only [CV.bq] at h; rw [bbq_t h]
  | .str l n, .str k m, h => by simp only [CV.bq] at h; obtain ⟨h1, h2⟩ := bif_t h; rw [nbq h1, nbq h2]
  | .ptr b o, .ptr c p, h => by simp only [CV.bq] at h; obtain ⟨h1, h2⟩ := bif_t h; rw [nbq h1, nbq h2]
  | .nilp, .nilp, _ => rfl
  | .slice b o s l k e, .slice b' o' s' l' k' e', h => by
    simp only [CV.bq] at h
    obtain ⟨h1, h⟩ := bif_t h; obtain ⟨h2, h⟩ := bif_t h; obtain ⟨h3, h⟩ := bif_t h; obtain ⟨h4, h⟩ := bif_t h; obtain ⟨h5, h6⟩ := bif_t h
    rw [nbq h1, nbq h2, nbq h3, nbq h4, nbq h5, bbq_t h6]
  | .nils, .nils, _ => rfl
  | .map b, .map c, h => by simp only [CV.bq] at h; rw [nbq h]
  | .nilm, .nilm, _ => rfl
  | .fn f l l', .fn g m m', h => by
    simp only [CV.bq] at h
    obtain ⟨h1, h⟩ := bif_t h; obtain ⟨h2, h3⟩ := bif_t h
    rw [nbq h1, CVs.bq_t h2, CVs.bq_t h3]
  | .mth a v, .mth b w, h => by
    simp only [CV.bq] at h
    obtain ⟨h1, h2⟩ := bif_t h
    rw [CV.bq_t h2, show a = b by simpa using h1]
  | .yld a, .yld b, h => by simp only [CV.bq] at h; rw [nbq h]
  | .nilf, .nilf, _ => rfl
  | .ifc t v, .ifc u w, h => by simp only [CV.bq] at h; obtain ⟨h1, h2⟩ := bif_t h; rw [nbq h1, CV.bq_t h2]
  | .nili, .nili, _ => rfl
  | .agg l, .agg m, h => by simp only [CV.bq] at h; rw [CVs.bq_t h]
  | .tup l, .tup m, h => by simp only [CV.bq] at h; rw [CVs.bq_t h]
theorem CVs.bq_t : ∀ {a b : List CV}, CVs.bq a b = true → a = b
  | [], [], _ => rfl
  | a :: l, b :: m, h => by simp only [CVs.bq] at h; obtain ⟨h1, h2⟩ := bif_t h; rw [CV.bq_t h1, CVs.bq_t h2]
end
mutual
theorem VR_det {σ : Sg} : ∀ {c : CV} {v v' : Value}, CV.det c = true → VR σ c v → VR σ c v' → v = v'
  | .int _ _, _, _, _, h, k => by simp only [VR] at h k; rw [h, k]
  | .bool _, _, _, _, h, k => by simp only [VR] at h k; rw [h, k]
  | .str _ _, _, _, _, h, k => by simp only [VR] at h k; rw [h, k]
  | .ptr _ _, _, _, _, h, k => by
    simp only [VR] at h k; obtain ⟨p, t, h1, h2⟩ := h; obtain ⟨q, u, k1, k2⟩ := k
    rw [h1] at k1; cases k1; rw [h2, k2]
  | .nilp, _, _, _, h, k => by simp only [VR] at h k; rw [h, k]
  | .slice b o s l kk ex, _, _, hd, h, k => by
    simp only [VR] at h k
    obtain ⟨p, t, o1, c1, h1, h2, h3, h4, h5, h6, h7, h8⟩ := h
    obtain ⟨q, u, o2, c2, k1, k2, k3, k4, k5, k6, k7, k8⟩ := k
    rw [h1] at k1; cases k1
    simp only [CV.det] at hd
    cases ex
    · simp only [cond_false] at hd
      obtain ⟨d1, d2⟩ := bif_t hd
      have d1 := Nat.le_of_ble_eq_true d1
      have d2 := Nat.le_of_ble_eq_true d2
      have e1 := h6 (.inl (by omega)); have e2 := k6 (.inl (by omega))
      subst e1; subst e2
      have g1 := h8 rfl (by omega); have g2 := k8 rfl (by omega)
      have : c1 * s = c2 * s := by omega
      have := Nat.eq_of_mul_eq_mul_right (by omega) this
      rw [h2, k2, this]
    · have e1 := h6 (.inr rfl); have e2 := k6 (.inr rfl)
      have g1 := h5 rfl; have g2 := k5 rfl
      rw [h2, k2, e1, e2, g1, g2]
  | .nils, _, _, _, h, k => by simp only [VR] at h k; rw [h, k]
  | .map _, _, _, _, h, k => by
    simp only [VR] at h k; obtain ⟨p, t, h1, h2⟩ := h; obtain ⟨q, u, k1, k2⟩ := k
    rw [h1] at k1; cases k1; rw [h2, k2]
  | .nilm, _, _, _, h, k => by simp only [VR] at h k; rw [h, k]
  | .fn _ a b, _, _, hd, h, k => by
    simp only [CV.det] at hd; obtain ⟨d1, d2⟩ := bif_t hd
    simp only [VR] at h k; obtain ⟨u, v, h1, h2, h3⟩ := h; obtain ⟨u', v', k1, k2, k3⟩ := k
    rw [h3, k3, VRs_det d1 h1 k1, VRs_det d2 h2 k2]
  | .mth _ c, _, _, hd, h, k => by
    simp only [CV.det] at hd
    simp only [VR] at h k; obtain ⟨u, h1, h3⟩ := h; obtain ⟨u', k1, k3⟩ := k
    rw [h3, k3, VR_det hd h1 k1]
  | .yld _, _, _, _, h, k => by
    simp only [VR] at h k; obtain ⟨p, t, h1, h2⟩ := h; obtain ⟨q, u, k1, k2⟩ := k
    rw [h1] at k1; cases k1; rw [h2, k2]
  | .nilf, _, _, _, h, k => by simp only [VR] at h k; rw [h, k]
  | .ifc _ c, _, _, hd, h, k => by
    simp only [CV.det] at hd
    simp only [VR] at h k; obtain ⟨u, h1, h3⟩ := h; obtain ⟨u', k1, k3⟩ := k
    rw [h3, k3, VR_det hd h1 k1]
  | .nili, _, _, _, h, k => by simp only [VR] at h k; rw [h, k]
  | .agg c, _, _, hd, h, k => by
    simp only [CV.det] at hd
    simp only [VR] at h k; obtain ⟨u, h1, h3⟩ := h; obtain ⟨u', k1, k3⟩ := k
    rw [h3, k3, VRs_det hd h1 k1]
  | .tup c, _, _, hd, h, k => by
    simp only [CV.det] at hd
    simp only [VR] at h k; obtain ⟨u, h1, h3⟩ := h; obtain ⟨u', k1, k3⟩ := k
    rw [h3, k3, VRs_det hd h1 k1]
  | .junk, _, _, hd, _, _ => by simp only [CV.det] at hd; cases hd
theorem VRs_det {σ : Sg} : ∀ {c : List CV} {v v' : List Value}, CVs.det c = true → VRs σ c v → VRs σ c v' → v = v'
  | [], _, _, _, h, k => by simp only [VRs] at h k; rw [h, k]
  | a :: c, _, _, hd, h, k => by
    simp only [CVs.det] at hd; obtain ⟨d1, d2⟩ := bif_t hd
    simp only [VRs] at h k; obtain ⟨u, v, rfl, h1, h2⟩ := h; obtain ⟨u', v', rfl, k1, k2⟩ := k
    rw [VR_det d1 h1 k1, VRs_det d2 h2 k2]
end
theorem Ents.bq_t : ∀ {a b : List Ent}, Ents.bq a b = true → a = b
  | [], [], _ => rfl
  | ⟨k, v, s⟩ :: l, ⟨k', v', s'⟩ :: m, h => by
    simp only [Ents.bq] at h
    obtain ⟨h1, h⟩ := bif_t h; obtain ⟨h2, h⟩ := bif_t h; obtain ⟨h3, h4⟩ := bif_t h
    rw [nbq h1, CV.bq_t h2, CV.bq_t h3, Ents.bq_t h4]
theorem nats_t : ∀ {a b : List Nat}, nats a b = true → a = b
  | [], [], _ => rfl
  | a :: l, b :: m, h => by simp only [nats] at h; obtain ⟨h1, h2⟩ := bif_t h; rw [nbq h1, nats_t h2]
theorem Ck.bq_t {a b : Ck} (h : Ck.bq a b = true) : a = b := by
  unfold Ck.bq at h
  split at h
  · rw [CVs.bq_t h]
  · obtain ⟨h1, h2⟩ := bif_t h; rw [nbq h1, nbq h2]
  · obtain ⟨h1, h2⟩ := bif_t h; rw [nbq h1, Ents.bq_t h2]
  · obtain ⟨h1, h⟩ := bif_t h; obtain ⟨h2, h⟩ := bif_t h; obtain ⟨h3, h4⟩ := bif_t h; rw [nbq h1, nbq h2, nats_t h3, nbq h4]
  · obtain ⟨h1, h⟩ := bif_t h; obtain ⟨h2, h3⟩ := bif_t h; rw [nbq h1, nbq h2, nbq h3]
  · rfl
  · rfl
  · rfl
  · rw [CVs.bq_t h]
  · cases h
/-- What the second says, the first says too. -/
structure Wk (x y : Out) : Prop where
  v : ∀ σ v, VR σ x.v v → VR σ y.v v
  hp : ∀ i, hget y.hp i = hget x.hp i ∨ hget y.hp i = .no
  n : x.n ≤ y.n
theorem Wk.refl (x : Out) : Wk x x := ⟨fun _ _ h => h, fun _ => .inl rfl, Nat.le_refl _⟩
theorem Wk.trans {x y z : Out} (h : Wk x y) (k : Wk y z) : Wk x z :=
  ⟨fun σ v hv => k.v σ v (h.v σ v hv), fun i => by
    rcases k.hp i with e | e
    · rw [e]; exact h.hp i
    · exact .inr e, Nat.le_trans h.n k.n⟩
theorem og_om {α : Type} (f : α → α → α) (a b : O α) (d : Nat) : og (om f a b) d = f (og a d) (og b d) := by
  obtain ⟨c0, c1, c2, c3, c4, c5, c6, c7⟩ := a
  obtain ⟨e0, e1, e2, e3, e4, e5, e6, e7⟩ := b
  match d with
  | 0 => rfl | 1 => rfl | 2 => rfl | 3 => rfl | 4 => rfl | 5 => rfl | 6 => rfl | 7 => rfl | _ + 8 => rfl
theorem hget_meet (a b : H) (i : Nat) : hget (H.meet a b) i = Ck.meet (hget a i) (hget b i) := by
  unfold hget H.meet
  rw [og_om, og_om, og_om, og_om, og_om]
theorem Ck.meet_l (a b : Ck) : Ck.meet a b = a ∨ Ck.meet a b = .no := by
  unfold Ck.meet; cases Ck.bq a b <;> simp
theorem Ck.meet_r (a b : Ck) : Ck.meet a b = b ∨ Ck.meet a b = .no := by
  unfold Ck.meet
  cases h : Ck.bq a b
  · exact .inr rfl
  · exact .inl (Ck.bq_t h)
theorem meet1_l {σ : Sg} {a b : CV} {v : Value} (h : VR σ a v) : VR σ (CV.meet1 a b) v := by
  unfold CV.meet1; cases CV.bq a b
  · simp only [cond_false, VR]
  · exact h
theorem meet1_r {σ : Sg} {a b : CV} {v : Value} (h : VR σ b v) : VR σ (CV.meet1 a b) v := by
  unfold CV.meet1; cases hb : CV.bq a b
  · simp only [cond_false, VR]
  · simp only [cond_true]; rw [CV.bq_t hb]; exact h
theorem meets_l {σ : Sg} : ∀ {a b : List CV} {v : List Value}, a.length = b.length → VRs σ a v → VRs σ (CVs.meet a b) v
  | [], [], _, _, h => h
  | x :: a, y :: b, v, hl, h => by
    simp only [VRs] at h; obtain ⟨u, ws, rfl, h1, h2⟩ := h
    simp only [CVs.meet, VRs]; exact ⟨u, ws, rfl, meet1_l h1, meets_l (by simpa using hl) h2⟩
theorem meets_r {σ : Sg} : ∀ {a b : List CV} {v : List Value}, a.length = b.length → VRs σ b v → VRs σ (CVs.meet a b) v
  | [], [], _, _, h => h
  | x :: a, y :: b, v, hl, h => by
    simp only [VRs] at h; obtain ⟨u, ws, rfl, h1, h2⟩ := h
    simp only [CVs.meet, VRs]; exact ⟨u, ws, rfl, meet1_r h1, meets_r (by simpa using hl) h2⟩
theorem CV.meet_l {σ : Sg} {a b : CV} {v : Value} (h : VR σ a v) : VR σ (CV.meet a b) v := by
  unfold CV.meet
  split
  · rename_i l m
    cases hl : Nat.beq l.length m.length
    · simp only [cond_false, VR]
    · simp only [VR] at h; obtain ⟨vs, h1, h2⟩ := h
      simp only [cond_true, VR]; exact ⟨vs, meets_l (nbq hl) h1, h2⟩
  · exact meet1_l h
theorem CV.meet_r {σ : Sg} {a b : CV} {v : Value} (h : VR σ b v) : VR σ (CV.meet a b) v := by
  unfold CV.meet
  split
  · rename_i l m
    cases hl : Nat.beq l.length m.length
    · simp only [cond_false, VR]
    · simp only [VR] at h; obtain ⟨vs, h1, h2⟩ := h
      simp only [cond_true, VR]; exact ⟨vs, meets_r (nbq hl) h1, h2⟩
  · exact meet1_r h
theorem meet_n (a b : Out) : a.n ≤ (Out.meet a b).n ∧ b.n ≤ (Out.meet a b).n := by
  show a.n ≤ (bif Nat.ble a.n b.n then b.n else a.n) ∧ b.n ≤ (bif Nat.ble a.n b.n then b.n else a.n)
  cases h : Nat.ble a.n b.n
  · have := ble_no h; simp only [cond_false]; omega
  · have := Nat.le_of_ble_eq_true h; simp only [cond_true]; omega
theorem Wk.meet_l (a b : Out) : Wk a (Out.meet a b) :=
  ⟨fun σ v h => CV.meet_l h, fun i => by show hget (H.meet a.hp b.hp) i = _ ∨ hget (H.meet a.hp b.hp) i = _; rw [hget_meet]; exact Ck.meet_l _ _, (meet_n a b).1⟩
theorem Wk.meet_r (a b : Out) : Wk b (Out.meet a b) :=
  ⟨fun σ v h => CV.meet_r h, fun i => by show hget (H.meet a.hp b.hp) i = _ ∨ hget (H.meet a.hp b.hp) i = _; rw [hget_meet]; exact Ck.meet_r _ _, (meet_n a b).2⟩
theorem Wk.meets : ∀ (l : List Out) (o x : Out), x ∈ o :: l → Wk x (meets o l)
  | [], o, x, h => by simp only [List.mem_singleton] at h; subst h; exact Wk.refl _
  | p :: l, o, x, h => by
    simp only [Go.Cx.meets]
    rcases List.mem_cons.1 h with rfl | h
    · exact (Wk.meet_l x p).trans (Wk.meets l _ _ List.mem_cons_self)
    · rcases List.mem_cons.1 h with rfl | h
      · exact (Wk.meet_r o x).trans (Wk.meets l _ _ List.mem_cons_self)
      · exact Wk.meets l _ _ (List.mem_cons_of_mem _ h)
theorem Rel.weak {w0 : World} {σ : Sg} {hp hp' : H} {n m : Nat} {w : World} (h : Rel w0 σ hp n w) (hh : ∀ i, hget hp' i = hget hp i ∨ hget hp' i = .no) (hm : Nle n m) : Rel w0 σ hp' m w := by
  have key : ∀ i, hget hp' i ≠ .no → hget hp' i = hget hp i ∧ hget hp i ≠ .no := fun i hi => by
    rcases hh i with e | e
    · exact ⟨e, by rw [← e]; exact hi⟩
    · exact absurd e hi
  refine ⟨fun i hi hc => ?_, fun i j p t q u hi hj h1 h2 => h.apart i j p t q u hi hj (key i h1).2 (key j h2).2, h.old, fun i h1 h2 => h.fresh i (Nat.le_trans hm.1 h1) (by rw [← hm.2]; exact h2), by rw [hm.2]; exact h.lim, h.below⟩
  obtain ⟨e, hc'⟩ := key i hc
  obtain ⟨p, t, h1, h2⟩ := h.hold i hi hc'
  exact ⟨p, t, h1, by rw [e]; exact h2⟩

/-! ### Behind a call -/
section
variable {P : Program} {w0 : World} {σ : Sg} {hp : H} {n : Nat} {w : World} {k : KS} {φ : Out → Prop}
/-- One of these outcomes is the world's. -/
def Ret (w0 : World) (σ : Sg) (n : Nat) (l : List Out) (v : Value) (w' : World) : Prop := ∃ o σ', o ∈ l ∧ VR σ' o.v v ∧ Rel w0 σ' o.hp o.n w' ∧ Ex n σ σ' ∧ Nle n o.n
/-- The run goes on behind an answer. -/
def Goes (w0 : World) (σ : Sg) (n : Nat) (k : KS) (φ : Out → Prop) (v : Value) (w' : World) : Prop := ∃ c hp' n' σ', VR σ' c v ∧ Rel w0 σ' hp' n' w' ∧ Ex n σ σ' ∧ Nle n n' ∧ Good (k c hp' n') φ
theorem eachO_good : ∀ {l : List Out} {o : Out}, Good (eachO k o l) φ → ∀ x ∈ o :: l, Good (k x.v x.hp x.n) φ
  | [], o, h, x, hx => by simp only [List.mem_singleton] at hx; subst hx; exact h
  | p :: l, o, h, x, hx => by
    simp only [eachO] at h
    obtain ⟨h1, h2⟩ := h.cat
    rcases List.mem_cons.1 hx with rfl | hx
    · exact h1
    · exact eachO_good h2 x hx
theorem after_sound {mg : Bool} {r : Res} (h : Good (after mg n r k) φ) : ∃ l, r = some l ∧ ∀ v w', Ret w0 σ n l v w' → Goes w0 σ n k φ v w' := by
  unfold after at h
  split at h
  · exact h.no.elim
  · rename_i l
    refine ⟨l, rfl, ?_⟩
    rintro v w' ⟨o, σ', ho, hv, hR, hx, hn⟩
    split at h
    · exact h.no.elim
    · rename_i o1 os
      split at h
      · simp only [List.mem_singleton] at ho; subst ho
        exact ⟨_, _, _, _, hv, hR, hx, hn, h⟩
      · rename_i p os
        cases mg
        · exact ⟨_, _, _, _, hv, hR, hx, hn, eachO_good h o ho⟩
        · simp only [cond_true] at h
          obtain ⟨hl, h2⟩ := h.bif
          have hw := Wk.meets (p :: os) o1 o ho
          have hl := nbq hl
          have hnm : Nle o.n (meets o1 (p :: os)).n := by
            refine ⟨?_, by rw [hl, hn.2]⟩
            have h1 := hw.n
            have h3 := hn.2
            unfold limN at hl h3; unfold idN; omega
          exact ⟨_, _, _, _, hw.v _ _ hv, hR.weak hw.hp hnm, hx, hn.trans hnm, h2⟩
end
end Go.Cx
