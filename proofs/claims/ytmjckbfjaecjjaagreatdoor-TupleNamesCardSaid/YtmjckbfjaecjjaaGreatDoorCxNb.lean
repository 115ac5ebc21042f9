/- Regions that draw their order: names set aside. -/
import Derived.Test.YtmjckbfjaecjjaaGreatDoorCxN
set_option linter.unusedVariables false
set_option linter.unusedSimpArgs false
set_option linter.unnecessarySimpa false
namespace Go.Cx
open Go.RowKit (Below)
theorem idN_mk {lim id : Nat} (h : id < 1048576) : idN (mkN lim id) = id ∧ limN (mkN lim id) = lim := by unfold idN limN mkN; omega
theorem Rel.renum {w0 : World} {σ : Sg} {hp : H} {n m : Nat} {w : World} (h : Rel w0 σ hp n w) (hf : ∀ i, idN m ≤ i → i < limN m → σ i = none) (hl : limN m ≤ 32768) : Rel w0 σ hp m w :=
  ⟨h.hold, h.apart, h.old, hf, hl, h.below⟩
theorem rankA_lt : ∀ {l : List Oper} {j : Nat} {o : Oper}, l[j]? = some o → allocLike o.op = true → rankA l j < countA l
  | [], j, o, h, _ => by cases h
  | x :: l, 0, o, h, ha => by
    simp at h; subst h
    simp only [rankA, countA, ha, cond_true]; omega
  | x :: l, j + 1, o, h, ha => by
    have := rankA_lt (l := l) (j := j) (by simpa using h) ha
    simp only [rankA, countA]
    cases allocLike x.op
    · simpa using this
    · simp only [cond_true]; omega
theorem rankA_inj : ∀ {l : List Oper} {j k : Nat} {o p : Oper}, l[j]? = some o → l[k]? = some p → allocLike o.op = true → allocLike p.op = true → j ≠ k → rankA l j ≠ rankA l k
  | [], j, k, o, p, h, _, _, _, _ => by cases h
  | x :: l, 0, 0, o, p, _, _, _, _, hne => absurd rfl hne
  | x :: l, 0, k + 1, o, p, h, hk, ha, hb, _ => by
    simp at h; subst h
    simp only [rankA, ha, cond_true]; omega
  | x :: l, j + 1, 0, o, p, h, hk, ha, hb, _ => by
    simp at hk; subst hk
    simp only [rankA, hb, cond_true]; omega
  | x :: l, j + 1, k + 1, o, p, h, hk, ha, hb, hne => by
    have := rankA_inj (l := l) (j := j) (k := k) (by simpa using h) (by simpa using hk) ha hb (by omega)
    simp only [rankA]
    cases allocLike x.op
    · simpa using this
    · simp only [cond_true]; omega
theorem assoc_mem {α : Type} : ∀ {l : List (Nat × α)} {i : Nat} {x : α}, assoc l i = some x → (i, x) ∈ l
  | [], i, x, h => by cases h
  | (j, y) :: l, i, x, h => by
    unfold assoc at h
    cases hb : Nat.beq j i
    · rw [hb] at h; exact List.mem_cons_of_mem _ (assoc_mem h)
    · rw [hb] at h; cases h; rw [nbq hb]; exact List.mem_cons_self
theorem assoc_none {α : Type} : ∀ {l : List (Nat × α)} {i : Nat} {x : α}, assoc l i = none → (i, x) ∈ l → False
  | (j, y) :: l, i, x, h, hm => by
    unfold assoc at h
    cases hb : Nat.beq j i
    · rw [hb] at h
      rcases List.mem_cons.1 hm with e | hm
      · cases e; rw [Nat.beq_refl] at hb; cases hb
      · exact assoc_none h hm
    · rw [hb] at h; cases h
/-- The names set aside, for what has not been carried out, are free. -/
structure Inv (ops : Array Oper) (n0 : Nat) (listed : Array Bool) (rs : List (Nat × Nat)) (σ : Sg) (n : Nat) : Prop where
  lo : n0 + countA ops.toList ≤ idN n
  fa : ∀ j o, ops[j]? = some o → listed.getD j true = false → allocLike o.op = true → σ (n0 + rankA ops.toList j) = none
  fr : ∀ j i, (j, i) ∈ rs → listed.getD j true = false → ∀ x, i ≤ x → x < i + wRange → σ x = none
  rb : ∀ j i, (j, i) ∈ rs → n0 + countA ops.toList ≤ i ∧ i + wRange ≤ idN n
  dj : ∀ j i j' i', (j, i) ∈ rs → (j', i') ∈ rs → j ≠ j' → i + wRange ≤ i' ∨ i' + wRange ≤ i
theorem Inv.less {ops : Array Oper} {n0 : Nat} {listed : Array Bool} {rs : List (Nat × Nat)} {σ : Sg} {n : Nat} (h : Inv ops n0 listed rs σ n) (i : Nat) : Inv ops n0 (listed.setIfInBounds i true) rs σ n := by
  have key : ∀ j, (listed.setIfInBounds i true).getD j true = false → listed.getD j true = false := fun j hj => by
    by_cases e : i = j
    · subst e
      by_cases hlt : i < listed.size
      · simp [hlt] at hj
      · simp [hlt] at hj
    · rwa [getD_set_ne true e] at hj
  exact ⟨h.lo, fun j o hj hl ha => h.fa j o hj (key j hl) ha, fun j i hm hl => h.fr j i hm (key j hl), h.rb, h.dj⟩
theorem unl {listed : Array Bool} {i j : Nat} (h : (listed.setIfInBounds i true).getD j true = false) : j ≠ i ∧ listed.getD j true = false := by
  by_cases e : i = j
  · subst e
    by_cases hlt : i < listed.size
    · simp [hlt] at h
    · simp [hlt] at h
  · exact ⟨fun x => e x.symm, by rwa [getD_set_ne true e] at h⟩
section
variable {P : Program} {w0 : World} {σ : Sg} {hp : H} {n : Nat} {w : World} {fr : F} {ev : Operand → Value} {k : KS} {φ : Out → Prop} {ctrs : List (Nat × Option Cn)} {bd rd : Nat → Cn}
/-- The run goes on behind an operation of a region that draws its order. -/
def GoesA (w0 : World) (ops : Array Oper) (n0 : Nat) (listed : Array Bool) (rs : List (Nat × Nat)) (σ : Sg) (n : Nat) (k : KS) (φ : Out → Prop) (v : Value) (w' : World) : Prop :=
  ∃ c hp' n' σ', VR σ' c v ∧ Rel w0 σ' hp' n' w' ∧ Le σ σ' ∧ (∀ i, ¬ (n0 ≤ i ∧ i < limN n) → σ' i = σ i) ∧ Nle n n' ∧ Inv ops n0 listed rs σ' n' ∧ Good (k c hp' n') φ
theorem levA_sound (hC : CsOk P w0 ctrs bd rd) {ops : Array Oper} {n0 : Nat} {listed : Array Bool} {rs : List (Nat × Nat)} (hI : Inv ops n0 listed rs σ n) (hhi : idN n ≤ limN n) (hR : Rel w0 σ hp n w) (hL : ∀ x, VR σ (lk fr x) (ev x))
    {j : Nat} {o : Oper} (hj : ops[j]? = some o) (hun : listed.getD j true = false) (h : Good (levA P ctrs bd rd ops.toList n0 j rs o.op fr hp n k) φ) :
    ∃ ns ks, Leads P w0 σ ns ks φ w ((execOp ev o).run P w) ∧ ∀ v w', Goes w0 σ ns ks φ v w' → GoesA w0 ops n0 (listed.setIfInBounds j true) rs σ n k φ v w' := by
  have hlim := hR.lim
  have hlo := hI.lo
  have hjl : ops.toList[j]? = some o := by rw [Array.getElem?_toList]; exact hj
  unfold levA at h
  cases ha : allocLike o.op
  · rw [ha] at h; simp only [cond_false] at h
    split at h
    · rename_i i hi
      have hm := assoc_mem hi
      obtain ⟨b1, b2⟩ := hI.rb _ _ hm
      obtain ⟨e1, e2⟩ := idN_mk (lim := i + wRange) (id := i) (by omega)
      have hR' : Rel w0 σ hp (mkN (i + wRange) i) w := hR.renum (fun x h1 h2 => hI.fr _ _ hm hun x (by rw [e1] at h1; exact h1) (by rw [e2] at h2; exact h2)) (by rw [e2]; omega)
      refine ⟨_, _, lev_sound hC hR' hL h, ?_⟩
      rintro v w' ⟨c, hp', n', σ', g1, g2, g3, g4, g5⟩
      have same : ∀ x, ¬ (i ≤ x ∧ x < i + wRange) → σ' x = σ x := fun x hx => g3.2 x (by rw [e1, e2]; exact hx)
      refine ⟨c, hp', n, σ', g1, g2.renum (fun x h1 h2 => by rw [same x (by omega)]; exact hR.fresh x h1 h2) hlim, g3.1, fun x hx => same x (by omega), Nle.refl _, ⟨hlo, fun j' o' hj' hl' ha' => ?_, fun j' i' hm' hl' x h1 h2 => ?_, hI.rb, hI.dj⟩, g5⟩
      · obtain ⟨hne, hl'⟩ := unl hl'
        have := rankA_lt (l := ops.toList) (j := j') (by rw [Array.getElem?_toList]; exact hj') ha'
        rw [same _ (by omega)]; exact hI.fa j' o' hj' hl' ha'
      · obtain ⟨hne, hl'⟩ := unl hl'
        have := hI.dj _ _ _ _ hm hm' (Ne.symm hne)
        rw [same _ (by omega)]; exact hI.fr j' i' hm' hl' x h1 h2
    · refine ⟨_, _, lev_sound hC hR hL h, ?_⟩
      rintro v w' ⟨c, hp', n', σ', g1, g2, g3, g4, g5⟩
      refine ⟨c, hp', n', σ', g1, g2, g3.1, fun x hx => g3.2 x (by omega), g4, ⟨by have := g4.1; omega, fun j' o' hj' hl' ha' => ?_, fun j' i' hm' hl' x h1 h2 => ?_, fun j' i' hm' => ⟨(hI.rb _ _ hm').1, by have := (hI.rb _ _ hm').2; have := g4.1; omega⟩, hI.dj⟩, g5⟩
      · obtain ⟨hne, hl'⟩ := unl hl'
        have := rankA_lt (l := ops.toList) (j := j') (by rw [Array.getElem?_toList]; exact hj') ha'
        rw [g3.2 _ (by omega)]; exact hI.fa j' o' hj' hl' ha'
      · obtain ⟨hne, hl'⟩ := unl hl'
        have := hI.rb _ _ hm'
        rw [g3.2 _ (by omega)]; exact hI.fr j' i' hm' hl' x h1 h2
  · rw [ha] at h; simp only [cond_true] at h
    have hr := rankA_lt hjl ha
    obtain ⟨e1, e2⟩ := idN_mk (lim := n0 + rankA ops.toList j + 1) (id := n0 + rankA ops.toList j) (by omega)
    have hR' : Rel w0 σ hp (mkN (n0 + rankA ops.toList j + 1) (n0 + rankA ops.toList j)) w := hR.renum (fun x h1 h2 => by
      rw [e1] at h1; rw [e2] at h2
      have : x = n0 + rankA ops.toList j := by omega
      rw [this]; exact hI.fa j o hj hun ha) (by rw [e2]; omega)
    refine ⟨_, _, lev_sound hC hR' hL h, ?_⟩
    rintro v w' ⟨c, hp', n', σ', g1, g2, g3, g4, g5⟩
    have same : ∀ x, x ≠ n0 + rankA ops.toList j → σ' x = σ x := fun x hx => g3.2 x (by rw [e1, e2]; omega)
    refine ⟨c, hp', n, σ', g1, g2.renum (fun x h1 h2 => by rw [same x (by omega)]; exact hR.fresh x h1 h2) hlim, g3.1, fun x hx => same x (by omega), Nle.refl _, ⟨hlo, fun j' o' hj' hl' ha' => ?_, fun j' i' hm' hl' x h1 h2 => ?_, hI.rb, hI.dj⟩, g5⟩
    · obtain ⟨hne, hl'⟩ := unl hl'
      have := rankA_inj (l := ops.toList) (by rw [Array.getElem?_toList]; exact hj') hjl ha' ha hne
      rw [same _ (by omega)]; exact hI.fa j' o' hj' hl' ha'
    · obtain ⟨hne, hl'⟩ := unl hl'
      have := hI.rb _ _ hm'
      rw [same _ (by omega)]; exact hI.fr j' i' hm' hl' x h1 h2
end
theorem giveR_le (ops : List Oper) : ∀ (l : List Nat) (rs : List (Nat × Nat)) (n : Nat), n ≤ (giveR ops l rs n).2
  | [], rs, n => Nat.le_refl _
  | j :: l, rs, n => by
    unfold giveR
    split
    · rename_i o ho
      cases isCall o.op
      · exact giveR_le ops l rs n
      · simp only [cond_true]
        split
        · exact giveR_le ops l rs n
        · exact Nat.le_trans (Nat.le_add_right _ _) (giveR_le ops l _ (n + wRange))
    · exact giveR_le ops l rs n
theorem giveR_sound {ops : Array Oper} {n0 : Nat} {listed : Array Bool} {σ : Sg} : ∀ (l : List Nat) (rs : List (Nat × Nat)) (n : Nat), Inv ops n0 listed rs σ n → limN (giveR ops.toList l rs n).2 = limN n →
    (∀ x, idN n ≤ x → x < idN (giveR ops.toList l rs n).2 → σ x = none) → Inv ops n0 listed (giveR ops.toList l rs n).1 σ (giveR ops.toList l rs n).2
  | [], rs, n, h, _, _ => h
  | j :: l, rs, n, h, hl, hf => by
    unfold giveR at hl hf ⊢
    split at hl
    · rename_i o ho
      simp only [ho] at hf ⊢
      cases hc : isCall o.op
      · rw [hc] at hl hf; exact giveR_sound l rs n h hl hf
      · rw [hc] at hl hf
        simp only [cond_true] at hl hf ⊢
        cases has : assoc rs j with
        | some i => rw [has] at hl hf; exact giveR_sound l rs n h hl hf
        | none =>
          rw [has] at hl hf
          simp only at hl hf ⊢
          have hle := giveR_le ops.toList l ((j, idN n) :: rs) (n + wRange)
          generalize hg : giveR ops.toList l ((j, idN n) :: rs) (n + wRange) = g at hl hf hle
          have e1 : limN (n + wRange) = limN n := by unfold limN wRange at *; omega
          have e2 : idN (n + wRange) = idN n + wRange := by unfold idN limN wRange at *; omega
          have e3 : idN (n + wRange) ≤ idN g.2 := by unfold idN limN wRange at *; omega
          have := giveR_sound (listed := listed) (σ := σ) (n0 := n0) l ((j, idN n) :: rs) (n + wRange) ⟨by have := h.lo; omega, h.fa, fun j' i' hm hl' x h1 h2 => ?_, fun j' i' hm => ?_, fun j1 i1 j2 i2 h1 h2 hne => ?_⟩ (by rw [hg, hl, e1]) (by rw [hg]; exact fun x h1 h2 => hf x (by omega) h2)
          · rw [hg] at this; exact this
          · rcases List.mem_cons.1 hm with e | hm
            · cases e; exact hf x h1 (by omega)
            · exact h.fr j' i' hm hl' x h1 h2
          · rcases List.mem_cons.1 hm with e | hm
            · cases e; exact ⟨h.lo, by omega⟩
            · have := h.rb _ _ hm; exact ⟨this.1, by omega⟩
          · rcases List.mem_cons.1 h1 with e | h1
            · cases e
              rcases List.mem_cons.1 h2 with e | h2
              · cases e; exact absurd rfl hne
              · have := h.rb _ _ h2; right; exact this.2
            · rcases List.mem_cons.1 h2 with e | h2
              · cases e; have := h.rb _ _ h1; left; exact this.2
              · exact h.dj _ _ _ _ h1 h2 hne
    · rename_i ho
      simp only [ho] at hf ⊢
      exact giveR_sound l rs n h hl hf
end Go.Cx
