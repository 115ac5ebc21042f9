/- A run with written-out values: the loud operations' soundness (second part: slices, maps). -/
import Derived.Test.YtmjckbfjaecjjaaGreatDoorCxJ
set_option linter.unusedVariables false
set_option linter.unusedSimpArgs false
set_option linter.unnecessarySimpa false
namespace Go.Cx
open Go.RowKit (Below)
theorem range_mod (z : List Value) : ∀ n : Nat, (List.range (n * z.length)).map (fun i => z[i % z.length]!) = (List.replicate n z).flatten
  | 0 => by simp
  | n + 1 => by
    rw [Nat.succ_mul, Nat.add_comm, List.range_add, List.map_append, List.replicate_succ, List.flatten_cons, ← range_mod z n]
    congr 1
    · apply List.ext_getElem (by simp)
      intro i h1 h2
      simp at h1
      simp [Nat.mod_eq_of_lt h2, h2]
    · rw [List.map_map]
      apply List.map_congr_left
      intro i _
      simp
theorem range_mod_arr (z : Array Value) (n : Nat) : ((Array.range (n * z.size)).map (fun i => z[i % z.size]!)).toList = (List.replicate n z.toList).flatten := by
  rw [← range_mod]
  simp [Array.toList_map, Array.toList_range]
  intro a _
  rw [getElem!_def]
  split <;> simp_all
section
variable {P : Program} {w0 : World} {σ : Sg} {hp : H} {n : Nat} {w : World} {fr : F} {ev : Operand → Value} {k : KS} {φ : Out → Prop}
theorem bys_zero : ∀ m : Nat, (bys m 0).map bval = List.replicate m (.int .u8 0)
  | 0 => rfl
  | m + 1 => by simp only [bys, List.map_cons, List.replicate_succ]; rw [show (0 : Nat) / 256 = 0 from rfl, bys_zero m]; rfl
/-- Rows of zeros. -/
theorem zeroN_spec {e sz m : Nat} {ck : Ck} (h : zeroN P e sz m = some ck) : ∃ i zv, P.info? e = some i ∧ i.zero = some zv ∧ zv.cells.size = sz ∧
    ∀ (τ : Sg) (w : World) (p t : Nat), Row w p t (List.replicate m zv.cells.toList).flatten false → TyAt w p e → holds τ w p t ck := by
  unfold zeroN at h
  split at h
  · rename_i z hz
    obtain ⟨hl, h2⟩ := cbif h
    have hl := Nat.eq_of_beq_eq_true hl
    obtain ⟨i, zv, z1, z2, z3⟩ := zeroC_spec (σ := fun _ => none) hz
    have z3' : ∀ τ : Sg, VRs τ z zv.cells.toList := fun τ => by
      obtain ⟨i', zv', y1, y2, y3⟩ := zeroC_spec (σ := τ) hz
      rw [z1] at y1; cases y1; rw [z2] at y2; cases y2; exact y3
    have hsz : zv.cells.size = sz := by rw [← Array.length_toList, ← z3.len, hl]
    refine ⟨i, zv, z1, z2, hsz, fun τ w p t hr hty => ?_⟩
    cases hu : isU8 P e
    · rw [hu] at h2; cases h2
      exact ⟨_, (z3' τ).rep m, hr⟩
    · rw [hu] at h2; simp only [cond_true] at h2
      split at h2
      · rename_i c
        split at h2
        · rename_i hc
          cases h2
          obtain ⟨rfl, _⟩ := cvByte_spec hc
          have := z3' τ
          simp only [VRs, VR] at this
          obtain ⟨v, ws, e1, e2, e3⟩ := this
          subst e2; subst e3
          refine ⟨?_, by rw [← isU8_ty hu]; exact hty⟩
          show Row w p t ((bys m 0).map bval) true
          rw [bys_zero]
          rw [e1] at hr
          obtain ⟨arr, ty, lo, hi, q1, q2, q3, q4⟩ := hr
          refine ⟨arr, ty, lo, hi, q1, q2, ?_, ?_⟩
          · simpa [List.flatten_replicate_singleton, kc] using q3
          · rcases q4 with q4 | ⟨q4, _⟩
            · exact .inl q4
            · cases q4
        · cases h2
      · cases h2
  · cases h
theorem putC_len {cs : List CV} : ∀ {o : Nat} {l r : List CV}, putC cs o l = some r → r.length = l.length := by
  have h0 : ∀ {cs l r : List CV}, putC0 cs l = some r → r.length = l.length := by
    intro cs
    induction cs with
    | nil => intro l r h; simp only [putC0] at h; cases h; rfl
    | cons c cs ih =>
      intro l r h
      cases l with
      | nil => simp only [putC0] at h; cases h
      | cons x l =>
        simp only [putC0] at h
        split at h
        · rename_i q hq; cases h; simp [ih hq]
        · cases h
  intro o
  induction o with
  | zero => intro l r h; simp only [putC] at h; exact h0 h
  | succ o ih =>
    intro l r h
    cases l with
    | nil => simp only [putC] at h; cases h
    | cons x l =>
      simp only [putC] at h
      split at h
      · rename_i q hq; cases h; simp [ih hq]
      · cases h
theorem fillC_len {place : Nat → Option (Nat × Nat)} : ∀ (parts : List (Nat × Operand)) (cs r : List CV), fillC place fr parts cs = some r → r.length = cs.length
  | [], cs, r, h => by cases h; rfl
  | (i, x) :: rest, cs, r, h => by
    unfold fillC at h
    split at h
    · obtain ⟨_, h⟩ := cbif h
      split at h
      · rename_i q hq
        rw [fillC_len rest _ _ h, putC_len hq]
      · cases h
    · cases h
theorem wrap_nat {c : Nat} (h : c ≤ 140737488355328) : IntKind.i64.wrap (c : Int) = c := by
  simp [IntKind.wrap, IntKind.bits, IntKind.signed]; omega
theorem l_makeS (hR : Rel w0 σ hp n w) (hL : ∀ x, VR σ (lk fr x) (ev x)) {t : Nat} {x y : Operand} (h : Good (lMakeS P fr hp n t x y k) φ) :
    LR P w0 σ n w (do pure (Next.value (← Instr.makeSlice t (ev x) (ev y))) : Sem Next) k φ := by
  unfold lMakeS at h
  have hx := hL x
  have hy := hL y
  split at h
  · rename_i k1 l k2 c e1 e2
    rw [e1] at hx; rw [e2] at hy
    simp only [VR] at hx hy
    obtain ⟨g1, h2⟩ := h.bif
    clear h
    have g1 := Nat.le_of_ble_eq_true g1
    split at h2
    · rename_i e hd
      have hu := tyD_und hd
      split at h2
      · rename_i i hi
        have hi := tyI_info hi
        obtain ⟨g2, h3⟩ := h2.bif
        obtain ⟨g3, h4⟩ := h3.bif
        obtain ⟨g4, h5⟩ := h4.bif
        clear h2 h3 h4
        have g2 := Nat.le_of_ble_eq_true g2
        have g3 := Nat.le_of_ble_eq_true g3
        have g4 := Nat.le_of_ble_eq_true g4
        split at h5
        · rename_i ck hck
          obtain ⟨i', zv, z1, z2, z3, z4⟩ := zeroN_spec hck
          rw [hi] at z1; cases z1
          have hcells : ((Array.range (c * i.size)).map (fun j => zv.cells[j % zv.cells.size]!)).toList = (List.replicate c zv.cells.toList).flatten := by
            rw [← z3]; exact range_mod_arr zv.cells c
          obtain ⟨σ', s1, s2, s3, s4, s5⟩ := newCk_sound hR h5 (.cells ((Array.range (c * i.size)).map (fun j => zv.cells[j % zv.cells.size]!)) e) (c * i.size)
            (fun τ hle _ => z4 τ _ _ _ (by
              have := Row.new (w := w) (vs := (List.replicate c zv.cells.toList).flatten) (arr := (Array.range (c * i.size)).map (fun j => zv.cells[j % zv.cells.size]!)) (ty := e) (fz := false) (spare := []) (by rw [hcells]; simp)
              simpa using this) ⟨_, _, heap_push w _⟩)
          refine LR.val (v := .slice (some ⟨w.heap.size, 0, none⟩) l c) ?_ ?_ s2 s3 s4 s5
          · rw [hx, hy]
            have hz : (zeroValue e).run P w = .ok zv w := zeroValue_run hi z2 w
            have hsz : (sizeOf e).run P w = .ok i.size w := by simp [sizeOf, typeInfo, hi]
            have big : ¬ ((i.bytes : Int) * (c : Int) > 281474976710656) := by
              have : ((i.bytes * c : Nat) : Int) = (i.bytes : Int) * (c : Int) := by push_cast; rfl
              omega
            by_cases hc0 : c * i.size = 0
            · have hc : c = 0 := by
                rcases Nat.mul_eq_zero.1 hc0 with h | h
                · exact h
                · omega
              subst hc
              have hl : l = 0 := by omega
              subst hl
              have w0' : IntKind.i64.wrap (Int.ofNat 0) = 0 := rfl
              simp only [Instr.makeSlice, Sem.run_bind, run_underlying hu, Result.andThen_ok, asInt, asIntOf, Sem.run_pure, typeInfo, run_program, hi, w0']
              simp [hsz, run_newRow]
              rw [show Array.range 0 = #[] from rfl]; simp
            · have w1 : IntKind.i64.wrap (Int.ofNat c) = (c : Int) := wrap_nat g2
              have w2 : IntKind.i64.wrap (Int.ofNat l) = (l : Int) := wrap_nat (by omega)
              simp only [Instr.makeSlice, Sem.run_bind, run_underlying hu, Result.andThen_ok, asInt, asIntOf, Sem.run_pure, typeInfo, run_program, hi, w1, w2]
              have hcl : ¬ ((c : Int) < (l : Int)) := by omega
              have hneg : ∀ m : Nat, ¬ ((m : Int) < 0) := fun m => by omega
              have hc0' : ¬ (c = 0 ∨ i.size = 0) := fun h => hc0 (by rcases h with h | h <;> rw [h] <;> simp)
              simp [hsz, hz, run_newRow, show ¬ (281474976710656 < (i.bytes : Int) * (c : Int)) by omega, hneg, hcl, hc0']
              exact fun h => absurd h hc0
          · simp only [VR]
            exact ⟨_, _, _, _, s1, rfl, g1, Nat.le_refl _, fun _ => rfl, fun _ => rfl, by omega, fun e => (by cases e)⟩
        · exact h5.no.elim
      · exact h2.no.elim
    · exact h2.no.elim
  · exact h.no.elim
theorem l_makeM (hR : Rel w0 σ hp n w) (hL : ∀ x, VR σ (lk fr x) (ev x)) {t : Nat} {r : Option Operand} (h : Good (lMakeM P fr hp n t r k) φ) :
    LR P w0 σ n w (do pure (Next.value (← Instr.makeMap t (r.map ev))) : Sem Next) k φ := by
  unfold lMakeM at h
  split at h
  · rename_i kt et hd
    have hu := tyD_und hd
    have mk : ∀ {h : Good (newCk hp n (.map [] 0) (fun b => .map b) k) φ}, (Instr.makeMap t (r.map ev)).run P w = .ok (.map (some w.heap.size)) { w with heap := w.heap.push (.map #[] 0) } → LR P w0 σ n w (do pure (Next.value (← Instr.makeMap t (r.map ev))) : Sem Next) k φ := fun {h} hrun => by
      obtain ⟨σ', s1, s2, s3, s4, s5⟩ := newCk_sound hR h (.map #[] 0) 0 (fun τ hle _ => ⟨[], rfl, heap_push w _⟩)
      exact LR.val hrun (by simp only [VR]; exact ⟨_, _, s1, rfl⟩) s2 s3 s4 s5
    split at h
    · exact mk (h := h) (by simp [Instr.makeMap, newObj, Sem.run])
    · rename_i x
      split at h
      · rename_i kd i e
        exact mk (h := h) (by simp [Instr.makeMap, newObj, Sem.run, run_underlying hu, int_of hL e, asInt, asIntOf])
      · exact h.no.elim
  · exact h.no.elim
theorem l_buildS (hR : Rel w0 σ hp n w) (hL : ∀ x, VR σ (lk fr x) (ev x)) {t len : Nat} {parts : Array (Nat × Operand)} (h : Good (lBuildS P fr hp n t len parts k) φ) :
    LR P w0 σ n w (do pure (Next.value (← Instr.buildSlice t len (parts.map fun (i, x) => (i, ev x)))) : Sem Next) k φ := by
  unfold lBuildS at h
  have hparts : (parts.map fun (i, x) => (i, ev x)).toList = parts.toList.map fun (i, x) => (i, ev x) := by simp
  split at h
  · rename_i e hd
    have hu := tyD_und hd
    split at h
    · rename_i s hs
      obtain ⟨g1, h2⟩ := h.bif
      obtain ⟨g2, h3⟩ := h2.bif
      clear h h2
      have g1 := Nat.le_of_ble_eq_true g1
      have g2 := Nat.le_of_ble_eq_true g2
      split at h3
      · rename_i z hz
        obtain ⟨g3, h4⟩ := h3.bif
        clear h3
        have g3 := Nat.eq_of_beq_eq_true g3
        obtain ⟨i, zv, z1, z2, z3⟩ := zeroC_spec (σ := σ) hz
        have hsz : zv.cells.size = s := by rw [← Array.length_toList, ← z3.len, g3]
        split at h4
        · rename_i cs hcs
          obtain ⟨ws, f1, f2⟩ := fillC_sound hL _ _ _ _ (z3.rep len) hcs
          have hfl := f2.len
          have hcells : ((Array.range (len * s)).map (fun j => zv.cells[j % zv.cells.size]!)) = (List.replicate len zv.cells.toList).flatten.toArray := by
            apply Array.ext'; rw [← hsz]; simpa using range_mod_arr zv.cells len
          have hrun : (Instr.buildSlice t len (parts.map fun (i, x) => (i, ev x))).run P w = .ok (.slice (some ⟨w.heap.size, 0, none⟩) len len) { w with heap := w.heap.push (.cells ws.toArray e) } := by
            have hzr : (zeroValue e).run P w = .ok zv w := zeroValue_run z1 z2 w
            by_cases h0 : len * s = 0
            · have hl : len = 0 := by
                rcases Nat.mul_eq_zero.1 h0 with h | h
                · exact h
                · omega
              subst hl
              simp only [List.replicate_zero, List.flatten_nil] at f1
              have f1' : Instr.fill (fun i => some (i * s, s)) #[] (List.map (fun x => (x.1, ev x.2)) parts.toList) = some ws.toArray := f1
              simp [Instr.buildSlice, run_underlying hu, run_size hs, hparts, run_newRow]
              rw [show Array.range 0 = #[] from rfl, Array.map_empty, f1']
              simp [run_newRow]
            · rw [← hcells] at f1
              have h0' : ¬ (len = 0 ∨ s = 0) := fun h => h0 (by rcases h with h | h <;> rw [h] <;> simp)
              simp [Instr.buildSlice, run_underlying hu, run_size hs, hparts, hzr, h0', show ¬ (16777216 < len * s) by omega, run_newRow, f1]
              exact fun h => absurd h h0
          have hlen : ws.length = len * s := by
            rw [← f2.len]
            have e1 := fillC_len _ _ _ hcs
            have : ∀ m, (repC z m).length = m * z.length := fun m => by
              induction m with
              | zero => simp [repC]
              | succ m ih => simp only [repC, List.length_append, ih, Nat.succ_mul]; omega
            rw [e1, this, g3]
          cases hu8 : isU8 P e
          · rw [hu8] at h4; simp only [cond_false] at h4
            obtain ⟨σ', s1, s2, s3, s4, s5⟩ := newCk_sound hR h4 (.cells ws.toArray e) ws.length (fun τ hle _ => ⟨ws, f2.mono hle, by simpa using Row.new (w := w) (vs := ws) (arr := ws.toArray) (ty := e) (fz := false) (spare := []) (by simp)⟩)
            exact LR.val hrun (by simp only [VR]; exact ⟨_, _, _, _, s1, rfl, Nat.le_refl _, Nat.le_refl _, fun _ => rfl, fun _ => rfl, by omega, fun e => (by cases e)⟩) s2 s3 s4 s5
          · rw [hu8] at h4; simp only [cond_true] at h4
            split at h4
            · rename_i x hx
              obtain ⟨hs1, hx⟩ := cbif hx
              have hb := cvBytes_spec hx f2
              have hs1 := Nat.eq_of_beq_eq_true hs1
              subst hs1
              obtain ⟨σ', s1, s2, s3, s4, s5⟩ := newCk_sound hR h4 (.cells ws.toArray e) ws.length (fun τ hle _ => by
                have := Row.new (w := w) (vs := ws) (arr := ws.toArray) (ty := e) (fz := true) (spare := []) (by simp)
                refine ⟨?_, by rw [← isU8_ty hu8]; exact ⟨_, _, heap_push w _⟩⟩
                show Row _ _ _ ((bys len x).map bval) true
                have hcl : cs.length = len := by rw [hfl, hlen]; omega
                rw [← hcl, ← hb]; simpa using this)
              exact LR.val hrun (by simp only [VR]; exact ⟨_, _, _, _, s1, rfl, Nat.le_refl _, Nat.le_refl _, fun _ => rfl, fun _ => rfl, by omega, fun e => (by cases e)⟩) s2 s3 s4 s5
            · exact h4.no.elim
        · exact h4.no.elim
      · exact h3.no.elim
    · exact h.no.elim
  · exact h.no.elim
end
end Go.Cx
