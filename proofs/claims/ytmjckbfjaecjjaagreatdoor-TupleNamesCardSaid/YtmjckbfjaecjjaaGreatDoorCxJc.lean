/- A run with written-out values: the loud operations' soundness (third part: maps). -/
import Derived.Test.YtmjckbfjaecjjaaGreatDoorCxJb
import Derived.Laws.RangeString
set_option linter.unusedVariables false
set_option linter.unusedSimpArgs false
set_option linter.unnecessarySimpa false
namespace Go.Cx
open Go.RowKit (Below)
def putO (w : World) (r : Nat) (o : Obj) : World := { w with heap := w.heap.setIfInBounds r o }
section
variable {P : Program} {w0 : World} {σ : Sg} {hp : H} {n : Nat} {w : World} {fr : F} {ev : Operand → Value} {k : KS} {φ : Out → Prop}
theorem putO_self {r : Nat} (o : Obj) (h : r < w.heap.size) : (putO w r o).heap[r]? = some o := by
  show (w.heap.setIfInBounds r o)[r]? = _; simp [Array.getElem?_setIfInBounds, h]
theorem Rel.put (hR : Rel w0 σ hp n w) {i p t : Nat} (hs : σ i = some (p, t)) (hl : hget hp i ≠ .no) {o : Obj} {c : Ck} (hc : (putO w p o).heap[p]? = some o → holds σ (putO w p o) p t c) : Rel w0 σ (hset hp i c) n (putO w p o) :=
  hR.upd (w' := putO w p o) hs hl (by simp [putO]) (fun k hk => by show (w.heap.setIfInBounds p o)[k]? = _; rw [Array.getElem?_setIfInBounds, if_neg (fun e => hk e.symm)]) rfl rfl rfl (hc (putO_self o (hR.old _ _ _ hs).2.2))
theorem run_getMap {r c : Nat} {es : Array MapEntry} (hb : w.heap[r]? = some (.map es c)) : (getObj r).run P w = .ok (.map es c) w := by simp [getObj, Sem.run, hb]
theorem run_setMap {r c : Nat} {es : Array MapEntry} (hb : w.heap[r]? = some (.map es c)) (o : Obj) : (setObj r o).run P w = .ok () (putO w r o) := by simp [setObj, Sem.run, hb, putO]
theorem keyEq_val {d : TypeDesc} {x y : CV} {vx vy : Value} (hx : VR σ x vx) (hy : VR σ y vy) (h : keyEq x y = some true) : vx = vy ∧ Instr.sameBits 10000 vy vx = true := by
  unfold keyEq at h
  split at h
  · obtain ⟨h1, h2⟩ := cbif h
    have := Nat.eq_of_beq_eq_true h1; subst this
    rw [ibq_iff] at h2
    simp only [Option.some.injEq, beq_iff_eq] at h2; subst h2
    simp only [VR] at hx hy; subst hx; subst hy
    exact ⟨rfl, by simp [Instr.sameBits]⟩
  · rw [bbq_eq] at h
    simp only [Option.some.injEq, beq_iff_eq] at h; subst h
    simp only [VR] at hx hy; subst hx; subst hy
    exact ⟨rfl, by simp [Instr.sameBits]⟩
  · rw [bys_beq] at h
    simp only [Option.some.injEq, beq_iff_eq] at h
    simp only [VR] at hx hy; subst hx; subst hy
    rw [h]
    exact ⟨rfl, by simp only [Instr.sameBits]; rw [beq_toListBytes]; simp⟩
  · cases h
/-- What is found: the entry there has this very key. -/
theorem findE_at {x : CV} {vx : Value} (hx : VR σ x vx) : ∀ {es : List Ent} {ms : List MapEntry} {i j : Nat} {v : CV}, EntsR σ es ms → findE x es i = some (some (j, v)) →
    i ≤ j ∧ ∃ e m, es[j - i]? = some e ∧ ms[j - i]? = some m ∧ m.key = vx ∧ Instr.sameBits 10000 m.key vx = true ∧ e.val = v ∧ VR σ e.val m.val ∧ m.born = e.born
  | [], ms, i, j, v, he, h => by cases h
  | e :: es, ms, i, j, v, he, h => by
    unfold EntsR at he
    obtain ⟨m, ns, rfl, h1, h2, h3, h4⟩ := he
    unfold findE at h
    split at h
    · rename_i hk
      cases h
      obtain ⟨e1, e2⟩ := keyEq_val (d := .bool) hx h1 hk
      refine ⟨Nat.le_refl _, e, m, by simp, by simp, e1.symm, e2, rfl, h2, h3⟩
    · rename_i hk
      obtain ⟨a, e', m', b1, b2, b3⟩ := findE_at hx h4 h
      refine ⟨by omega, e', m', ?_, ?_, b3⟩
      · rw [show j - i = (j - (i + 1)) + 1 by omega, List.getElem?_cons_succ]; exact b1
      · rw [show j - i = (j - (i + 1)) + 1 by omega, List.getElem?_cons_succ]; exact b2
    · cases h
theorem setE_R {x v : CV} {vx vv : Value} (hx : VR σ x vx) (hv : VR σ v vv) (f : MapEntry → MapEntry) (hf : ∀ m, (f m).key = vx ∧ (f m).born = m.born) : ∀ {es : List Ent} {ms : List MapEntry} {i : Nat}, EntsR σ es ms → (∀ m, ms[i]? = some m → (f m).val = vv) → EntsR σ (setE x v i es) (ms.modify i f)
  | [], ms, i, he, _ => by cases he; cases i <;> rfl
  | e :: es, ms, i, he, hm => by
    unfold EntsR at he
    obtain ⟨m, ns, rfl, h1, h2, h3, h4⟩ := he
    cases i with
    | zero =>
      have := hm m (by simp)
      simp only [setE, EntsR, List.modify_cons, if_true]
      exact ⟨f m, ns, by simp [List.modify], by rw [(hf m).1]; exact hx, by rw [this]; exact hv, by rw [(hf m).2]; exact h3, h4⟩
    | succ i =>
      simp only [setE, EntsR]
      exact ⟨m, ns.modify i f, by simp [List.modify], h1, h2, h3, setE_R hx hv f hf h4 (fun m' hm' => hm m' (by simpa using hm'))⟩
theorem EntsR.app {es fs : List Ent} {ms ns : List MapEntry} : EntsR σ es ms → EntsR σ fs ns → EntsR σ (es ++ fs) (ms ++ ns) := by
  induction es generalizing ms with
  | nil => intro h k; cases h; simpa using k
  | cons e es ih =>
    intro h k
    unfold EntsR at h
    obtain ⟨m, ns', rfl, h1, h2, h3, h4⟩ := h
    simp only [List.cons_append, EntsR]
    exact ⟨m, _, rfl, h1, h2, h3, ih h4 k⟩
theorem delE_R : ∀ {es : List Ent} {ms : List MapEntry} {i : Nat}, EntsR σ es ms → EntsR σ (delE i es) (ms.eraseIdx i)
  | [], ms, i, he => by cases he; simp [delE, EntsR]
  | e :: es, ms, i, he => by
    unfold EntsR at he
    obtain ⟨m, ns, rfl, h1, h2, h3, h4⟩ := he
    cases i with
    | zero => simpa [delE] using h4
    | succ i =>
      simp only [delE, EntsR, List.eraseIdx_cons_succ]
      exact ⟨m, _, rfl, h1, h2, h3, delE_R h4⟩
theorem toArray_modify (ms : List MapEntry) (i : Nat) (f : MapEntry → MapEntry) : ms.toArray.modify i f = (ms.modify i f).toArray := by
  apply Array.ext'; simp
theorem l_mapUp (hR : Rel w0 σ hp n w) (hL : ∀ x, VR σ (lk fr x) (ev x)) {t : Nat} {m x v : Operand} (h : Good (lMapUp P fr hp n t m x v k) φ) :
    LR P w0 σ n w (do Instr.mapUpdate t (ev m) (ev x) (ev v); pure Next.skip : Sem Next) k φ := by
  unfold lMapUp at h
  split at h
  · rename_i kt et ht
    have ht := tyD_und ht
    obtain ⟨hkk, h2⟩ := h.bif
    clear h
    obtain ⟨d, hk, hd⟩ := keyKind_spec hkk
    have hm := hL m
    split at h2
    · rename_i b e; rw [e] at hm; simp only [VR] at hm
      obtain ⟨p, u, hs, hv⟩ := hm
      split at h2
      · rename_i es clock hb
        obtain ⟨ms, g1, g2⟩ := hR.at hs hb (by simp)
        have hck := fun b w => checkKey_ok (P := P) (b := b) hk hd (ev x) w
        split at h2
        · exact h2.no.elim
        · rename_i hj
          split at h2
          · rename_i i u hf
            obtain ⟨r', f1, f2⟩ := findE_sound (hL x) hd g1 hf
            cases r' with
            | none => exact f2.elim
            | some q =>
              obtain ⟨j', mv⟩ := q
              obtain ⟨e1, f2⟩ := f2
              subst e1
              obtain ⟨_, e', m', b1, b2, b3, b4, b5, b6, b7⟩ := findE_at (hL x) g1 hf
              simp only [Nat.sub_zero] at b1 b2
              have hfk := fun w => findKey_run (P := P) hk f1 w
              have hkey : ((ms.toArray[i]?).map (·.key)).getD (ev x) = m'.key := by simp [b2]
              have hstay : (Instr.keyThatStays m'.key (ev x)).run P w = .ok (ev x) w := by
                simp [Instr.keyThatStays, b4]
              refine LR.unit (w' := putO w p (.map (ms.toArray.modify i fun e => { e with key := ev x, val := ev v }) clock)) ?_ (hR.put (c := .map (setE (lk fr x) (lk fr v) i es) clock) hs (by rw [hb]; simp) (fun hh => ⟨_, ?_, by rw [hh, toArray_modify]⟩)) (Ex.refl _ _) (Nle.refl _) h2
              · rw [hv]
                simp only [Instr.mapUpdate, Sem.run_bind, run_underlying ht, Result.andThen_ok, run_getMap g2, hck, hfk, hkey, hstay, run_setMap g2]
              · exact setE_R (hL x) (hL v) (fun e => { e with key := ev x, val := ev v }) (fun m => ⟨rfl, rfl⟩) g1 (fun m hm => rfl)
          · rename_i hf
            obtain ⟨r', f1, f2⟩ := findE_sound (hL x) hd g1 hf
            cases r' with
            | some q => exact f2.elim
            | none =>
              have hfk := fun w => findKey_run (P := P) hk f1 w
              refine LR.unit (w' := putO w p (.map (ms.toArray.push { key := ev x, val := ev v, born := clock }) (clock + 1))) ?_ (hR.put (c := .map (es ++ [⟨lk fr x, lk fr v, clock⟩]) (clock + 1)) hs (by rw [hb]; simp) (fun hh => ⟨ms ++ [{ key := ev x, val := ev v, born := clock }], ?_, by rw [hh]; simp⟩)) (Ex.refl _ _) (Nle.refl _) h2
              · rw [hv]
                simp only [Instr.mapUpdate, Sem.run_bind, run_underlying ht, Result.andThen_ok, run_getMap g2, hck, hfk, run_setMap g2]
              · exact g1.app (by unfold EntsR; exact ⟨_, [], rfl, hL x, hL v, rfl, rfl⟩)
          · exact h2.no.elim
      · exact h2.no.elim
    · exact h2.no.elim
  · exact h.no.elim
theorem l_delete (hR : Rel w0 σ hp n w) (hL : ∀ x, VR σ (lk fr x) (ev x)) {t ty : Nat} {ts : Array Nat} (h0 : ts[0]? = some t) {m x : Operand} (h : Good (lDelete P fr hp n t m x k) φ) :
    LR P w0 σ n w (do pure (Next.value (← Builtin.delete_ ts ty #[ev m, ev x])) : Sem Next) k φ := by
  unfold lDelete at h
  split at h
  · rename_i kt et ht
    have ht := tyD_und ht
    obtain ⟨hkk, h2⟩ := h.bif
    clear h
    obtain ⟨d, hk, hd⟩ := keyKind_spec hkk
    have hm := hL m
    have hck := fun b w => checkKey_ok (P := P) (b := b) hk hd (ev x) w
    split at h2
    · rename_i e; rw [e] at hm; simp only [VR] at hm
      refine LR.val (v := .tuple #[]) ?_ (by simp only [VR, VRs]; exact ⟨[], rfl, rfl⟩) hR (Ex.refl _ _) (Nle.refl _) h2
      rw [hm]; simp [Builtin.delete_, h0, run_underlying ht, hck]
    · rename_i b e; rw [e] at hm; simp only [VR] at hm
      obtain ⟨p, u, hs, hv⟩ := hm
      split at h2
      · rename_i es clock hb
        obtain ⟨ms, g1, g2⟩ := hR.at hs hb (by simp)
        have hself : putO w p (.map ms.toArray clock) = w := by
          obtain ⟨hlt, hval⟩ := Array.getElem?_eq_some_iff.1 g2
          unfold putO
          have : w.heap.setIfInBounds p (.map ms.toArray clock) = w.heap := by
            apply Array.ext (by simp)
            intro i h1 h2
            rw [Array.getElem_setIfInBounds]
            split
            · rename_i e; subst e; exact hval.symm
            · rfl
          rw [this]
        split at h2
        · rename_i i u hf
          obtain ⟨r', f1, f2⟩ := findE_sound (hL x) hd g1 hf
          cases r' with
          | none => exact f2.elim
          | some q =>
            obtain ⟨j', mv⟩ := q
            obtain ⟨e1, f2⟩ := f2
            subst e1
            have hfk := fun w => findKey_run (P := P) hk f1 w
            refine LR.val (v := .tuple #[]) (w' := putO w p (.map (ms.toArray.eraseIdxIfInBounds i) clock)) ?_ (by simp only [VR, VRs]; exact ⟨[], rfl, rfl⟩) (hR.put (c := .map (delE i es) clock) hs (by rw [hb]; simp) (fun hh => ⟨ms.eraseIdx i, delE_R g1, by rw [hh]; congr 2; apply Array.ext'; simp⟩)) (Ex.refl _ _) (Nle.refl _) h2
            rw [hv]
            simp [Builtin.delete_, h0, run_underlying ht, run_getMap g2, hck, hfk, run_setMap g2]
        · rename_i hf
          obtain ⟨r', f1, f2⟩ := findE_sound (hL x) hd g1 hf
          cases r' with
          | some q => exact f2.elim
          | none =>
            have hfk := fun w => findKey_run (P := P) hk f1 w
            refine LR.val (v := .tuple #[]) (w' := w) ?_ (by simp only [VR, VRs]; exact ⟨[], rfl, rfl⟩) hR (Ex.refl _ _) (Nle.refl _) h2
            rw [hv]
            simp [Builtin.delete_, h0, run_underlying ht, run_getMap g2, hck, hfk, run_setMap g2, hself]
        · exact h2.no.elim
      · exact h2.no.elim
    · exact h2.no.elim
  · exact h.no.elim
end
end Go.Cx
