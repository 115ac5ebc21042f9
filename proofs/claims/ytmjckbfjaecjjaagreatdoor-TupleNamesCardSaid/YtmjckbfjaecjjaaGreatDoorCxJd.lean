/- A run with written-out values: the loud operations' soundness (fourth part: entries, ranges). -/
import Derived.Test.YtmjckbfjaecjjaaGreatDoorCxJc
set_option linter.unusedVariables false
set_option linter.unusedSimpArgs false
set_option linter.unnecessarySimpa false
namespace Go.Cx
open Go.RowKit (Below)
section
variable {P : Program} {w0 : World} {σ : Sg} {hp : H} {n : Nat} {w : World} {fr : F} {ev : Operand → Value} {k : KS} {φ : Out → Prop}
theorem entAt_eq : ∀ (es : List Ent) (i : Nat), entAt i es = es[i]?
  | [], i => by simp [entAt]
  | e :: es, 0 => by simp [entAt]
  | e :: es, i + 1 => by simp [entAt, entAt_eq es i]
theorem VR_pair {a b : CV} {va vb : Value} (ha : VR σ a va) (hb : VR σ b vb) : VR σ (.tup [a, b]) (.tuple #[va, vb]) := by
  simp only [VR, VRs]; exact ⟨_, ⟨_, _, rfl, ha, _, _, rfl, hb, rfl⟩, rfl⟩
theorem VR_tri {a b c : CV} {va vb vc : Value} (ha : VR σ a va) (hb : VR σ b vb) (hc : VR σ c vc) : VR σ (.tup [a, b, c]) (.tuple #[va, vb, vc]) := by
  simp only [VR, VRs]; exact ⟨_, ⟨_, _, rfl, ha, _, _, rfl, hb, _, _, rfl, hc, rfl⟩, rfl⟩
theorem VR_unit : VR σ (.tup []) (.tuple #[]) := by simp only [VR, VRs]; exact ⟨[], rfl, rfl⟩
theorem VR_goInt (m : Nat) : VR σ (.int 3 (.ofNat m)) (goInt m) := by simp only [VR]; rfl
theorem l_mapEntry (hR : Rel w0 σ hp n w) (hL : ∀ x, VR σ (lk fr x) (ev x)) {t : Nat} {m x : Operand} (h : Good (lMapEntry P fr hp n t m x k) φ) :
    LR P w0 σ n w (do pure (Next.value (← Instr.mapEntry t (ev m) (ev x))) : Sem Next) k φ := by
  unfold lMapEntry at h
  split at h
  · rename_i kt et ht
    have ht := tyD_und ht
    obtain ⟨hkk, h2⟩ := h.bif
    clear h
    obtain ⟨d, hk, hd⟩ := keyKind_spec hkk
    have hm := hL m
    split at h2
    · rename_i b e; rw [e] at hm; simp only [VR] at hm
      obtain ⟨p, u, hs, hv⟩ := hm
      split at h2
      · rename_i es clock hb
        obtain ⟨ms, g1, g2⟩ := hR.at hs hb (by simp)
        have hck := fun b w => checkKey_ok (P := P) (b := b) hk hd (ev x) w
        split at h2
        · rename_i i v hf
          obtain ⟨r', f1, f2⟩ := findE_sound (hL x) hd g1 hf
          cases r' with
          | none => exact f2.elim
          | some q =>
            obtain ⟨j', mv⟩ := q
            obtain ⟨e1, f2⟩ := f2
            subst e1
            obtain ⟨_, e', m', b1, b2, b3, b4, b5, b6, b7⟩ := findE_at (hL x) g1 hf
            simp only [Nat.sub_zero] at b1 b2
            rw [entAt_eq, b1] at h2
            simp only at h2
            have hfk := fun w => findKey_run (P := P) hk f1 w
            have hkey : ((ms.toArray[i]?).map (·.key)).getD (ev x) = m'.key := by simp [b2]
            have hborn : ((ms.toArray[i]?).map (fun x => (x.born : Int))).getD 0 = (e'.born : Int) := by simp [b2, b7]
            have hstay : (Instr.keyThatStays m'.key (ev x)).run P w = .ok (ev x) w := by
              simp [Instr.keyThatStays, b4]
            refine LR.val (v := .tuple #[mv, goInt e'.born]) (w' := putO w p (.map (ms.toArray.modify i fun e => { e with key := ev x }) clock)) ?_ (VR_pair f2 (VR_goInt _)) (hR.put (c := .map (setE (lk fr x) v i es) clock) hs (by rw [hb]; simp) (fun hh => ⟨_, ?_, by rw [hh, toArray_modify]⟩)) (Ex.refl _ _) (Nle.refl _) h2
            · rw [hv]
              simp only [Instr.mapEntry, Sem.run_bind, run_underlying ht, Result.andThen_ok, run_getMap g2, hck, hfk, hkey, hstay, run_setMap g2, hborn]
              rfl
            · subst b5
              exact setE_R (vv := m'.val) (hL x) b6 (fun e => { e with key := ev x }) (fun m => ⟨rfl, rfl⟩) g1 (fun m hm => by rw [b2] at hm; cases hm; rfl)
        · rename_i hf
          obtain ⟨r', f1, f2⟩ := findE_sound (hL x) hd g1 hf
          cases r' with
          | some q => exact f2.elim
          | none =>
            split at h2
            · rename_i v hz
              obtain ⟨i, zv, z1, z2, z3⟩ := zeroV_spec (σ := σ) hz
              have hzr := fun w => zeroValue_run (P := P) z1 z2 w
              have hfk := fun w => findKey_run (P := P) hk f1 w
              refine LR.val (v := .tuple #[zv, goInt clock]) (w' := putO w p (.map (ms.toArray.push { key := ev x, val := zv, born := clock }) (clock + 1))) ?_ (VR_pair z3 (VR_goInt _)) (hR.put (c := .map (es ++ [⟨lk fr x, v, clock⟩]) (clock + 1)) hs (by rw [hb]; simp) (fun hh => ⟨ms ++ [{ key := ev x, val := zv, born := clock }], ?_, by rw [hh]; simp⟩)) (Ex.refl _ _) (Nle.refl _) h2
              · rw [hv]
                simp only [Instr.mapEntry, Sem.run_bind, run_underlying ht, Result.andThen_ok, run_getMap g2, hck, hfk, hzr, run_setMap g2]
                rfl
              · exact g1.app (by unfold EntsR; exact ⟨_, [], rfl, hL x, z3, rfl, rfl⟩)
            · exact h2.no.elim
        · exact h2.no.elim
      · exact h2.no.elim
    · exact h2.no.elim
  · exact h.no.elim
theorem bornAt_R {s : Nat} {v : CV} {vv : Value} (hv : VR σ v vv) : ∀ {es es' : List Ent} {ms : List MapEntry}, EntsR σ es ms → bornAt s v es = some es' →
    ∃ i, ms.findIdx? (fun e => (e.born : Int) == (s : Int)) = some i ∧ EntsR σ es' (ms.modify i fun e => { e with val := vv })
  | [], es', ms, he, h => by cases h
  | e :: es, es', ms, he, h => by
    unfold EntsR at he
    obtain ⟨m, ns, rfl, h1, h2, h3, h4⟩ := he
    unfold bornAt at h
    cases hb : Nat.beq e.born s
    · rw [hb] at h; simp only [cond_false] at h
      have hne : ¬ ((m.born : Int) = (s : Int)) := by rw [h3]; intro e'; have : e.born = s := by omega
                                                      rw [this, Nat.beq_refl] at hb; cases hb
      split at h
      · rename_i r hr
        cases h
        obtain ⟨i, i1, i2⟩ := bornAt_R hv h4 hr
        refine ⟨i + 1, ?_, ?_⟩
        · rw [List.findIdx?_cons]; simp only [beq_iff_eq, hne, Bool.false_eq_true, if_false]; rw [i1]; rfl
        · simp only [List.modify_succ_cons, EntsR]; exact ⟨m, _, rfl, h1, h2, h3, i2⟩
      · cases h
    · rw [hb] at h; cases h
      have := Nat.eq_of_beq_eq_true hb
      refine ⟨0, ?_, ?_⟩
      · rw [List.findIdx?_cons]; simp [h3, this]
      · simp only [List.modify_zero_cons, EntsR]; exact ⟨_, _, rfl, h1, hv, h3, h4⟩
theorem l_entryStore (hR : Rel w0 σ hp n w) (hL : ∀ x, VR σ (lk fr x) (ev x)) {t : Nat} {m s v : Operand} (h : Good (lEntryStore fr hp n m s v k) φ) :
    LR P w0 σ n w (do Instr.entryStore t (ev m) (ev s) (ev v); pure Next.skip : Sem Next) k φ := by
  unfold lEntryStore at h
  have hm := hL m
  split at h
  · rename_i b e; rw [e] at hm; simp only [VR] at hm
    obtain ⟨p, u, hs, hv⟩ := hm
    split at h
    · rename_i es clock hb
      obtain ⟨ms, g1, g2⟩ := hR.at hs hb (by simp)
      split at h
      · rename_i kd st hst
        have hst := int_of hL hst
        split at h
        · exact h.no.elim
        · rename_i hj
          split at h
          · rename_i es' hb'
            obtain ⟨i, i1, i2⟩ := bornAt_R (hL v) g1 hb'
            refine LR.unit (w' := putO w p (.map (ms.toArray.modify i fun e => { e with val := ev v }) clock)) ?_ (hR.put (c := .map es' clock) hs (by rw [hb]; simp) (fun hh => ⟨_, i2, by rw [hh, toArray_modify]⟩)) (Ex.refl _ _) (Nle.refl _) h
            rw [hv, hst]
            have hfi : ms.toArray.findIdx? (fun e => (e.born : Int) == Int.ofNat st) = some i := by
              rw [List.findIdx?_toArray]; exact i1
            simp only [Instr.entryStore, Sem.run_bind, Result.andThen_ok, run_getMap g2, asInt, asIntOf, Sem.run_pure, hfi, run_setMap g2]
          · exact h.no.elim
      · exact h.no.elim
    · exact h.no.elim
  · exact h.no.elim
theorem l_range (hR : Rel w0 σ hp n w) (hL : ∀ x, VR σ (lk fr x) (ev x)) {t : Nat} {x : Operand} (h : Good (lRange P fr hp n t x k) φ) :
    LR P w0 σ n w (do pure (Next.value (← Instr.range t (ev x))) : Sem Next) k φ := by
  unfold lRange at h
  have hx := hL x
  have mk : ∀ {c : Ck} (o : Obj), (∀ τ, Le σ τ → τ (idN n) = some (w.heap.size, 0) → holds τ { w with heap := w.heap.push o } w.heap.size 0 c) → Good (newCk hp n c (fun b => .ptr b 0) k) φ →
      (Instr.range t (ev x)).run P w = .ok (.pointer (some ⟨w.heap.size, 0, none⟩)) { w with heap := w.heap.push o } → LR P w0 σ n w (do pure (Next.value (← Instr.range t (ev x))) : Sem Next) k φ := fun o hc h hrun => by
    obtain ⟨σ', s1, s2, s3, s4, s5⟩ := newCk_sound hR h o 0 hc
    exact LR.val hrun (by simp only [VR]; exact ⟨_, _, s1, rfl⟩) s2 s3 s4 s5
  split at h
  · rename_i l m hd e; rw [e] at hx; simp only [VR] at hx
    exact mk (c := .siter l m 0) (.stringIter ⟨(bys l m).toArray⟩ 0) (fun τ hle _ => heap_push w _) h (by rw [hx]; simp [Instr.range, run_underlying (tyD_und hd), newObj, Sem.run])
  · rename_i kt et hd e; rw [e] at hx; simp only [VR] at hx
    exact mk (c := .iter0) (.mapIter none 0 #[] 0) (fun τ hle _ => heap_push w _) h (by rw [hx]; simp [Instr.range, run_underlying (tyD_und hd), newObj, Sem.run])
  · rename_i kt et b hd e; rw [e] at hx; simp only [VR] at hx
    obtain ⟨p, u, hs, hv⟩ := hx
    split at h
    · rename_i es clock hb
      obtain ⟨ms, g1, g2⟩ := hR.at hs hb (by simp)
      exact mk (c := .iter b clock [] clock) (.mapIter (some p) clock #[] clock) (fun τ hle _ => ⟨p, u, hle _ _ hs, heap_push w _⟩) h (by rw [hv]; simp [Instr.range, run_underlying (tyD_und hd), run_getMap g2, newObj, Sem.run])
    · exact h.no.elim
  · exact h.no.elim
theorem has_eq (x : Nat) : ∀ l : List Nat, has x l = l.contains x
  | [] => rfl
  | a :: l => by
    unfold has
    rw [has_eq x l, List.contains_cons]
    by_cases h : a = x
    · subst h; simp
    · have : Nat.beq a x = false := by cases hq : Nat.beq a x; rfl; exact absurd (Nat.eq_of_beq_eq_true hq) h
      rw [this]; simp [Ne.symm h]
theorem cands_R (seen : List Nat) : ∀ {es : List Ent} {ms : List MapEntry}, EntsR σ es ms → EntsR σ (cands seen es) (ms.filter fun e => !seen.contains e.born)
  | [], ms, he => by cases he; rfl
  | e :: es, ms, he => by
    unfold EntsR at he
    obtain ⟨m, ns, rfl, h1, h2, h3, h4⟩ := he
    unfold cands
    rw [has_eq, List.filter_cons, h3]
    cases seen.contains e.born
    · simp only [cond_false, Bool.not_false, if_true, EntsR]; exact ⟨m, _, rfl, h1, h2, h3, cands_R seen h4⟩
    · simp only [cond_true, Bool.not_true, Bool.false_eq_true, if_false]; exact cands_R seen h4
theorem allOld_R {since : Nat} : ∀ {es : List Ent} {ms : List MapEntry}, EntsR σ es ms → allOld since es = true → ∀ m ∈ ms, m.born < since
  | [], ms, he, _, m, hm => by cases he; cases hm
  | e :: es, ms, he, h, m, hm => by
    unfold EntsR at he
    obtain ⟨m', ns, rfl, h1, h2, h3, h4⟩ := he
    unfold allOld at h
    cases hb : Nat.blt e.born since
    · rw [hb] at h; cases h
    · rw [hb] at h; simp only [cond_true] at h
      rcases List.mem_cons.1 hm with rfl | hm
      · rw [h3]; simpa [Nat.blt_eq] using hb
      · exact allOld_R h4 h m hm
theorem eachE_good {f : Ent → Res} : ∀ {l : List Ent}, Good (eachE f l) φ → ∀ e ∈ l, Good (f e) φ
  | [], _, e, he => by cases he
  | [a], h, e, he => by
    simp only [List.mem_singleton] at he; subst he; exact h
  | a :: b :: l, h, e, he => by
    simp only [eachE] at h
    obtain ⟨h1, h2⟩ := h.cat
    rcases List.mem_cons.1 he with rfl | he
    · exact h1
    · exact eachE_good h2 e he
theorem EntsR.get : ∀ {es : List Ent} {ms : List MapEntry} {i : Nat} {m : MapEntry}, EntsR σ es ms → ms[i]? = some m → ∃ e, e ∈ es ∧ VR σ e.key m.key ∧ VR σ e.val m.val ∧ m.born = e.born
  | [], ms, i, m, he, h => by cases he; cases h
  | e :: es, ms, i, m, he, h => by
    unfold EntsR at he
    obtain ⟨m', ns, rfl, h1, h2, h3, h4⟩ := he
    cases i with
    | zero => simp at h; subst h; exact ⟨e, List.mem_cons_self, h1, h2, h3⟩
    | succ i =>
      obtain ⟨e', a, b⟩ := EntsR.get h4 (by simpa using h)
      exact ⟨e', List.mem_cons_of_mem _ a, b⟩
end
end Go.Cx
