/- A run with written-out values: the loud operations' soundness (fifth part: next, entry). -/
import Derived.Test.YtmjckbfjaecjjaaGreatDoorCxJd
import Derived.Maps.RangeRun
set_option linter.unusedVariables false
set_option linter.unusedSimpArgs false
set_option linter.unnecessarySimpa false
namespace Go.Cx
open Go.RowKit (Below)
open Go.ChangeMaps (setBlock)
section
variable {P : Program} {w0 : World} {σ : Sg} {hp : H} {n : Nat} {w : World} {fr : F} {ev : Operand → Value} {k : KS} {φ : Out → Prop}
theorem l_next (hR : Rel w0 σ hp n w) (hL : ∀ x, VR σ (lk fr x) (ev x)) {x : Operand} {str : Bool} {ty : TypeId} (h : Good (lNext fr hp n x str k) φ) :
    LR P w0 σ n w (do pure (Next.value (← Instr.next (ev x) str ty)) : Sem Next) k φ := by
  unfold lNext at h
  have hx := hL x
  split at h
  · rename_i r e; rw [e] at hx; simp only [VR] at hx
    obtain ⟨p, u, hs, hv⟩ := hx
    rw [hv]
    split at h
    · rename_i m since seen stepped hit
      cases str
      · simp only [cond_false] at h
        split at h
        · rename_i es clock hm
          obtain ⟨hcond, h2⟩ := h.bif
          clear h
          obtain ⟨hss, hold⟩ : since ≤ stepped ∧ allOld since es = true := by
            cases hq : Nat.ble since stepped
            · rw [hq] at hcond; cases hcond
            · rw [hq] at hcond; exact ⟨Nat.le_of_ble_eq_true hq, hcond⟩
          obtain ⟨q, v, hsm, hitw⟩ := hR.at hs hit (by simp)
          obtain ⟨ms, g1, g2⟩ := hR.at hsm hm (by simp)
          have hcr := cands_R seen g1
          have hleft : (leftOf ms.toArray seen.toArray) = (ms.filter fun e => !seen.contains e.born).toArray := by
            unfold leftOf; simp
          have key := run_next_at (P := P) w ty p q since stepped seen.toArray ms.toArray clock hitw g2 (fun x hx => allOld_R g1 hold x (by simpa using hx)) hss
          rw [hleft] at key
          rcases key with ⟨k1, k2⟩ | ⟨e, k1, w1, k2, k3⟩
          · have hnil : (ms.filter fun e => !seen.contains e.born) = [] := List.eq_nil_of_length_eq_zero (by simpa using k1)
            rw [hnil] at hcr
            have : cands seen es = [] := by
              cases hc : cands seen es with
              | nil => rfl
              | cons a l => rw [hc] at hcr; unfold EntsR at hcr; obtain ⟨_, _, hcc, _⟩ := hcr; cases hcc
            rw [this] at h2
            exact LR.val k2 (by simp only [VR, VRs]; exact ⟨_, ⟨_, _, rfl, rfl, rfl⟩, rfl⟩) hR (Ex.refl _ _) (Nle.refl _) h2
          · obtain ⟨i, hi⟩ := List.getElem?_of_mem (show e ∈ (ms.filter fun e => !seen.contains e.born) by simpa using k1)
            obtain ⟨e', m1, m2, m3, m4⟩ := hcr.get hi
            have h3 : Good (eachE (fun e => k (.tup [.bool true, e.key, e.val]) (hset hp r (.iter m since (seen ++ [e.born]) clock)) n) (cands seen es)) φ := by
              split at h2
              · rename_i hc; rw [hc] at m1; cases m1
              · exact h2
            have h4 := eachE_good h3 e' m1
            have hR1 : Rel w0 σ hp n w1 := by
              rcases k2 with rfl | rfl
              · exact hR
              · exact hR.drew _
            refine LR.val k3 (VR_tri (by simp only [VR]) m2 m3) (hR1.put (c := .iter m since (seen ++ [e'.born]) clock) hs (by rw [hit]; simp) (fun hh => ⟨q, v, hsm, ?_⟩)) (Ex.refl _ _) (Nle.refl _) h4
            rw [hh, ← m4]; simp
        · exact h.no.elim
      · exact h.no.elim
    · rename_i hit
      cases str
      · simp only [cond_false] at h
        have hitw := hR.at hs hit (by simp)
        have hitw : w.heap[p]? = some (.mapIter none 0 #[] 0) := hitw
        refine LR.val (v := .tuple #[.bool false]) ?_ (by simp only [VR, VRs]; exact ⟨_, ⟨_, _, rfl, rfl, rfl⟩, rfl⟩) hR (Ex.refl _ _) (Nle.refl _) h
        simp [Instr.next, getObj, Sem.run, hitw]
      · exact h.no.elim
    · rename_i l m pos hit
      cases str
      · exact h.no.elim
      · simp only [cond_true] at h
        have hitw : w.heap[p]? = some (.stringIter ⟨(bys l m).toArray⟩ pos) := hR.at hs hit (by simp)
        have hsz : (⟨(bys l m).toArray⟩ : ByteArray).size = l := by simp [ByteArray.size, bys_len]
        cases hlt : Nat.blt pos l
        · rw [hlt] at h; simp only [cond_false] at h
          have hlt' : ¬ pos < l := by intro h'; have := Nat.blt_eq.symm ▸ h'; rw [this] at hlt; cases hlt
          refine LR.val (v := .tuple #[.bool false]) ?_ (by simp only [VR, VRs]; exact ⟨_, ⟨_, _, rfl, rfl, rfl⟩, rfl⟩) hR (Ex.refl _ _) (Nle.refl _) h
          simp [Instr.next, getObj, Sem.run, hitw, hsz, hlt']
        · rw [hlt] at h; simp only [cond_true] at h
          have hlt' : pos < l := by simpa [Nat.blt_eq] using hlt
          obtain ⟨ha, h2⟩ := h.bif
          clear h
          have ha : bnth m pos < 128 := by simpa [Nat.blt_eq] using ha
          have hlt2 : pos < (⟨(bys l m).toArray⟩ : ByteArray).size := by rw [hsz]; exact hlt'
          have hget : ((⟨(bys l m).toArray⟩ : ByteArray)[pos]'hlt2) = UInt8.ofNat (bnth m pos) := by
            have := bval_bnth l m pos hlt'
            rw [getElem?_pos (⟨(bys l m).toArray⟩ : ByteArray) pos hlt2] at this
            exact Option.some.inj this
          have hdec := decode_ascii ⟨(bys l m).toArray⟩ pos hlt2 (by rw [hget, u8_nat _ (bnth_lt m pos)]; exact ha)
          rw [hget, u8_nat _ (bnth_lt m pos)] at hdec
          refine LR.val (v := .tuple #[.bool true, goInt pos, .int .i32 (bnth m pos : Nat)]) (w' := putO w p (.stringIter ⟨(bys l m).toArray⟩ (pos + 1))) ?_ (VR_tri (by simp only [VR]) (VR_goInt _) (by simp only [VR]; rfl))
            (hR.put (c := .siter l m (pos + 1)) hs (by rw [hit]; simp) (fun hh => hh)) (Ex.refl _ _) (Nle.refl _) h2
          simp [Instr.next, getObj, setObj, Sem.run, hitw, hsz, hlt', hdec, putO]
    · exact h.no.elim
  · exact h.no.elim
theorem lastN_eq : ∀ l : List Nat, lastN l = l.getLast?
  | [] => rfl
  | [a] => rfl
  | a :: b :: l => by simp only [lastN]; rw [lastN_eq (b :: l)]; simp
theorem findBorn_R {s : Nat} : ∀ {es : List Ent} {ms : List MapEntry} {e : Ent}, EntsR σ es ms → findBorn s es = some e → ∃ m, ms.find? (fun x => x.born == s) = some m ∧ VR σ e.key m.key ∧ VR σ e.val m.val
  | [], ms, e, he, h => by cases h
  | a :: es, ms, e, he, h => by
    unfold EntsR at he
    obtain ⟨m, ns, rfl, h1, h2, h3, h4⟩ := he
    unfold findBorn at h
    cases hb : Nat.beq a.born s
    · rw [hb] at h; simp only [cond_false] at h
      obtain ⟨m', k1, k2⟩ := findBorn_R h4 h
      refine ⟨m', ?_, k2⟩
      have : ¬ (m.born = s) := by rw [h3]; intro e'; rw [e', Nat.beq_refl] at hb; cases hb
      rw [List.find?_cons_of_neg (by simpa using this)]; exact k1
    · rw [hb] at h; cases h
      have := Nat.eq_of_beq_eq_true hb
      exact ⟨m, by rw [List.find?_cons_of_pos (by simp [h3, this])], h1, h2⟩
theorem l_entry (hR : Rel w0 σ hp n w) (hL : ∀ x, VR σ (lk fr x) (ev x)) {x : Operand} (h : Good (lEntry fr hp n x k) φ) :
    LR P w0 σ n w (do pure (Next.value (← Instr.entry (ev x))) : Sem Next) k φ := by
  unfold lEntry at h
  have hx := hL x
  split at h
  · rename_i r e; rw [e] at hx; simp only [VR] at hx
    obtain ⟨p, u, hs, hv⟩ := hx
    split at h
    · rename_i m since seen stepped hit
      split at h
      · rename_i es clock hm
        obtain ⟨hcl, h2⟩ := h.bif
        clear h
        have hcl := Nat.eq_of_beq_eq_true hcl
        subst hcl
        split at h2
        · rename_i s hlast
          rw [lastN_eq] at hlast
          split at h2
          · rename_i en hen
            obtain ⟨q, v, hsm, hitw⟩ := hR.at hs hit (by simp)
            obtain ⟨ms, g1, g2⟩ := hR.at hsm hm (by simp)
            obtain ⟨m', k1, k2, k3⟩ := findBorn_R g1 hen
            refine LR.val (v := .tuple #[m'.key, m'.val]) ?_ (VR_pair k2 k3) hR (Ex.refl _ _) (Nle.refl _) h2
            rw [hv]
            have hf : ms.toArray.find? (fun x => x.born == s) = some m' := by rw [← Array.find?_toList]; exact k1
            have hbk : seen.toArray.back? = some s := by simpa using hlast
            simp only [Instr.entry, getObj, Sem.run_bind, Sem.run, hitw, g2, Result.andThen, hbk, bne_self_eq_false, Bool.false_eq_true, if_false, hf]
            rfl
          · exact h2.no.elim
        · exact h2.no.elim
      · exact h.no.elim
    · exact h.no.elim
  · exact h.no.elim
end
end Go.Cx
