/- A run with written-out values: the loud operations' soundness (first part: new blocks, stores). -/
import Derived.Test.YtmjckbfjaecjjaaGreatDoorCxIc
import Derived.Laws.CopyRow
set_option linter.unusedVariables false
set_option linter.unusedSimpArgs false
set_option linter.unnecessarySimpa false
namespace Go.Cx
open Go.RowKit (Below)
theorem run_u {P : Program} {s : Sem Unit} {w w' : World} (h : s.run P w = .ok () w') : (do s; pure Next.skip : Sem Next).run P w = .ok .skip w' := by
  have : (do s; pure Next.skip : Sem Next) = s.bind (fun _ => Sem.pure Next.skip) := rfl
  rw [this, Sem.run_bind', h]; rfl
def Nle (n m : Nat) : Prop := idN n ≤ idN m ∧ limN m = limN n
theorem Nle.refl (n : Nat) : Nle n n := ⟨Nat.le_refl _, rfl⟩
theorem Nle.trans {a b c : Nat} (h : Nle a b) (k : Nle b c) : Nle a c := ⟨Nat.le_trans h.1 k.1, k.2.trans h.2⟩
theorem Ex.trans {σ τ υ : Sg} {n m : Nat} (h : Ex n σ τ) (hn : Nle n m) (k : Ex m τ υ) : Ex n σ υ :=
  ⟨h.1.trans k.1, fun i hi => by rw [k.2 i (fun ⟨a, b⟩ => hi ⟨Nat.le_trans hn.1 a, by rw [← hn.2]; exact b⟩), h.2 i hi]⟩

section
variable {P : Program} {w0 : World} {σ : Sg} {hp : H} {n : Nat} {w : World} {fr : F} {ev : Operand → Value} {k : KS} {φ : Out → Prop}
/-- The operation answers in a world that the new memory tells, and the run goes on. -/
def LR (P : Program) (w0 : World) (σ : Sg) (n : Nat) (w : World) (s : Sem Next) (k : KS) (φ : Out → Prop) : Prop :=
  ∃ w' c hp' n' σ', ((∃ v, s.run P w = .ok (.value v) w' ∧ VR σ' c v) ∨ (s.run P w = .ok .skip w' ∧ c = .tup [])) ∧ Rel w0 σ' hp' n' w' ∧ Ex n σ σ' ∧ Nle n n' ∧ Good (k c hp' n') φ
theorem LR.val {s : Sem Value} {w' : World} {c : CV} {v : Value} {hp' : H} {n' : Nat} {σ' : Sg} (h : s.run P w = .ok v w') (hv : VR σ' c v) (hR : Rel w0 σ' hp' n' w') (hx : Ex n σ σ') (hn : Nle n n') (hk : Good (k c hp' n') φ) :
    LR P w0 σ n w (do pure (Next.value (← s)) : Sem Next) k φ := ⟨w', c, hp', n', σ', .inl ⟨v, run_v h, hv⟩, hR, hx, hn, hk⟩
theorem LR.unit {s : Sem Unit} {w' : World} {hp' : H} {n' : Nat} {σ' : Sg} (h : s.run P w = .ok () w') (hR : Rel w0 σ' hp' n' w') (hx : Ex n σ σ') (hn : Nle n n') (hk : Good (k (.tup []) hp' n') φ) :
    LR P w0 σ n w (do s; pure Next.skip : Sem Next) k φ := ⟨w', _, hp', n', σ', .inr ⟨run_u h, rfl⟩, hR, hx, hn, hk⟩
theorem newCk_sound (hR : Rel w0 σ hp n w) {c : Ck} {v : Nat → CV} (h : Good (newCk hp n c v k) φ) (o : Obj) (t : Nat)
    (hc : ∀ τ, Le σ τ → τ (idN n) = some (w.heap.size, t) → holds τ { w with heap := w.heap.push o } w.heap.size t c) :
    ∃ σ', σ' (idN n) = some (w.heap.size, t) ∧ Rel w0 σ' (hset hp (idN n) c) (n + 1) { w with heap := w.heap.push o } ∧ Ex n σ σ' ∧ Nle n (n + 1) ∧ Good (k (v (idN n)) (hset hp (idN n) c) (n + 1)) φ := by
  unfold newCk at h
  obtain ⟨h1, h2⟩ := h.bif
  have h1 : idN n < limN n := by simpa [Nat.blt_eq] using h1
  obtain ⟨e1, e2⟩ := idN_lt h1 hR.lim
  have hf : σ (idN n) = none := hR.fresh _ (Nat.le_refl _) h1
  refine ⟨_, updS_self _ _ _, hR.new (by have := hR.lim; omega) hf o hc e2 (fun j hj _ => ⟨by omega, by omega⟩), ⟨Le.upd hf, fun i hi => ?_⟩, ⟨by omega, e2⟩, h2⟩
  unfold updS
  rw [if_neg (fun e => hi ⟨by omega, by omega⟩)]
theorem Row.new {w : World} {vs : List Value} {arr : Array Value} {ty : TypeId} {fz : Bool} {spare : List Value} (h : arr.toList = vs ++ spare) : Row { w with heap := w.heap.push (.cells arr ty) } w.heap.size arr.size vs fz :=
  ⟨arr, ty, 0, 0, heap_push w _, rfl, ⟨spare, h⟩, .inl ⟨rfl, rfl⟩⟩
theorem run_newRow (t : TypeId) (cells : Array Value) (w : World) : (newRow t cells).run P w = .ok ⟨w.heap.size, 0, none⟩ { w with heap := w.heap.push (.cells cells t) } := by
  simp [newRow, newObj, Sem.run]
theorem run_newVar (t : TypeId) (v : Value) (w : World) : (newVar t v).run P w = .ok ⟨w.heap.size, 0, none⟩ { w with heap := w.heap.push (.cells v.cells t) } := run_newRow t v.cells w
theorem l_newPtr (hR : Rel w0 σ hp n w) {cs : List CV} {v : Value} {t : TypeId} (hc : VRs σ cs v.cells.toList) (h : Good (newPtr hp n cs k) φ) :
    LR P w0 σ n w (do pure (Next.value (← (do pure (.pointer (some (← newVar t v))) : Sem Value))) : Sem Next) k φ := by
  obtain ⟨σ', s1, s2, s3, s4, s5⟩ := newCk_sound hR h (.cells v.cells t) v.cells.size (fun τ hle _ => ⟨_, hc.mono hle, Row.new (spare := []) (by simp)⟩)
  exact LR.val (v := .pointer (some ⟨w.heap.size, 0, none⟩)) (by simp [run_newVar]) (by simp only [VR]; exact ⟨_, _, s1, rfl⟩) s2 s3 s4 s5
theorem l_newAlloc (hR : Rel w0 σ hp n w) {cs : List CV} {v : Value} {t : TypeId} (hc : VRs σ cs v.cells.toList) (h : Good (bif Nat.beq t bldT then newCk hp n (.tcells cs) (fun i => .ptr i 0) k else newPtr hp n cs k) φ) :
    LR P w0 σ n w (do pure (Next.value (← (do pure (.pointer (some (← newVar t v))) : Sem Value))) : Sem Next) k φ := by
  cases ht : Nat.beq t bldT
  · rw [ht] at h; exact l_newPtr hR hc h
  · rw [ht] at h; simp only [cond_true] at h
    have ht := Nat.eq_of_beq_eq_true ht
    obtain ⟨σ', s1, s2, s3, s4, s5⟩ := newCk_sound hR h (.cells v.cells t) v.cells.size (fun τ hle _ => ⟨_, hc.mono hle, Row.new (spare := []) (by simp), by rw [← ht]; exact ⟨_, _, heap_push w _⟩, by rw [hc.len, Array.length_toList]⟩)
    exact LR.val (v := .pointer (some ⟨w.heap.size, 0, none⟩)) (by simp [run_newVar]) (by simp only [VR]; exact ⟨_, _, s1, rfl⟩) s2 s3 s4 s5
theorem l_alloc (hR : Rel w0 σ hp n w) {t : Nat} (h : Good (lAlloc P hp n t k) φ) : LR P w0 σ n w (do pure (Next.value (← Instr.alloc t true (.tuple #[]))) : Sem Next) k φ := by
  unfold lAlloc at h
  split at h
  · rename_i cs hz
    obtain ⟨i, zv, z1, z2, z3⟩ := zeroC_spec (σ := σ) hz
    have := l_newAlloc (P := P) (t := t) hR z3 h
    have e : ∀ w, (Instr.alloc t true (.tuple #[])).run P w = (do pure (.pointer (some (← newVar t zv))) : Sem Value).run P w := by
      intro w; simp [Instr.alloc, zeroValue_run z1 z2]
    obtain ⟨w', c, hp', n', σ', h1, h2⟩ := this
    refine ⟨w', c, hp', n', σ', ?_, h2⟩
    rcases h1 with ⟨v, hv, hr⟩ | ⟨hv, hr⟩
    · refine .inl ⟨v, ?_, hr⟩
      rw [← hv]
      show (Sem.bind _ _).run P w = (Sem.bind _ _).run P w
      rw [Sem.run_bind', Sem.run_bind', e]
    · refine .inr ⟨?_, hr⟩
      rw [← hv]
      show (Sem.bind _ _).run P w = (Sem.bind _ _).run P w
      rw [Sem.run_bind', Sem.run_bind', e]
  · exact h.no.elim
theorem l_box (hR : Rel w0 σ hp n w) (hL : ∀ x, VR σ (lk fr x) (ev x)) {t : Nat} {x : Operand} (h : Good (lBox fr hp n t x k) φ) : LR P w0 σ n w (do pure (Next.value (← Instr.box t (ev x))) : Sem Next) k φ := by
  unfold lBox at h
  split at h
  · exact h.no.elim
  · rename_i hj
    exact l_newPtr hR (cells_VR hj (hL x)) h

/-! ### Writing -/
theorem oneCell_of : ∀ {cs : List CV} {vs : List Value}, VRs σ cs vs → allCell cs = true → ∀ v ∈ vs, v.oneCell' = true
  | [], vs, h, _, v, hv => by simp only [VRs] at h; subst h; cases hv
  | c :: cs, vs, h, ha, v, hv => by
    simp only [VRs] at h; obtain ⟨u, ws, rfl, h1, h2⟩ := h
    unfold allCell at ha
    cases hc : cellOk c
    · rw [hc] at ha; cases ha
    · rw [hc] at ha; simp only [cond_true] at ha
      rcases List.mem_cons.1 hv with rfl | hv
      · cases c <;> simp only [VR] at h1 <;> first | (cases hc; done) | (subst h1; rfl) | (obtain ⟨_, _, _, _, _, rfl, _⟩ := h1; rfl) | (obtain ⟨_, _, _, _, rfl⟩ := h1; rfl) | (obtain ⟨_, _, _, rfl⟩ := h1; rfl) | (obtain ⟨_, _, rfl⟩ := h1; rfl)
      · exact oneCell_of h2 ha v hv
theorem run_storeCells_row (g o : Nat) (t : TypeId) (fz : Nat × Nat) : ∀ (vs : List Value) (i : Nat) (cur : Array Value) (w : World), w.heap[g]? = some (.cells cur t fz) → (fz = (0, 0) ∨ cur.size ≤ fz.1) → o + i + vs.length ≤ cur.size → (∀ v ∈ vs, v.oneCell' = true) →
    (storeCells ⟨g, o, none⟩ vs i).run P w = .ok () (w.setRow g (cur.toList.take (o + i) ++ vs ++ cur.toList.drop (o + i + vs.length)).toArray)
  | [], i, cur, w, hg, _, _, _ => by
    simp only [storeCells, List.append_nil, List.length_nil, Nat.add_zero, List.take_append_drop, Array.toArray_toList]
    rw [setRow_self w g cur t fz hg]
    rfl
  | v :: rest, i, cur, w, hg, hfz, hl, h1 => by
    have hi : o + i < cur.size := by simp at hl; omega
    have hcell : w.cell? ⟨g, o + i, none⟩ = some cur[o + i] := by simp [World.cell?, hg, hi]
    have hfro : w.frozen? ⟨g, o + i, none⟩ = false := by
      obtain ⟨lo, hi'⟩ := fz
      simp only [World.frozen?, hg]
      rcases hfz with h | h
      · cases h; simp
      · simp at h ⊢; omega
    have hst : (store ((⟨g, o, none⟩ : Addr).add i) v).run P w = .ok () (w.setRow g (cur.setIfInBounds (o + i) v)) := by
      rw [add_eq, run_store P w _ v _ (h1 v (by simp)), hcell]
      simp [hfro, setCell_eq_setRow w g (o + i) cur t fz v hg]
    have ih := run_storeCells_row g o t fz rest (i + 1) (cur.setIfInBounds (o + i) v) (w.setRow g (cur.setIfInBounds (o + i) v)) (setRow_heap w g cur _ t _ hg) (by simpa using hfz) (by simp at hl ⊢; omega) (fun x hx => h1 x (by simp [hx]))
    simp only [storeCells, Sem.run_bind, hst, Result.andThen_ok, ih, setRow_setRow]
    congr 3
    have e := list_seg_step cur.toList (o + i) v rest (by simp at hl ⊢; omega)
    simpa [Array.toList_setIfInBounds, Nat.add_assoc] using e
theorem setRow_other (w : World) (g k : Nat) (cs : Array Value) (h : k ≠ g) : (w.setRow g cs).heap[k]? = w.heap[k]? := by
  unfold World.setRow
  show (w.heap.modify g _)[k]? = _
  rw [Array.getElem?_modify, if_neg (fun e => h e.symm)]
theorem setRow_size (w : World) (g : Nat) (cs : Array Value) : (w.setRow g cs).heap.size = w.heap.size := by
  unfold World.setRow; simp
/-- Writing into a row. -/
theorem Row.write' {p t : Nat} {vs : List Value} {fz : Bool} (h : Row w p t vs fz) {o : Nat} {new : List Value} (h1 : o ≤ vs.length) (hfit : o + new.length ≤ t) (hone : ∀ v ∈ new, v.oneCell' = true) :
    ∃ w', (storeCells ⟨p, o, none⟩ new).run P w = .ok () w' ∧ Row w' p t (vs.take o ++ new ++ vs.drop (o + new.length)) fz ∧ w'.heap.size = w.heap.size ∧ (∀ k, k ≠ p → w'.heap[k]? = w.heap[k]?) ∧
      w'.os = w.os ∧ w'.tape = w.tape ∧ w'.output = w.output ∧ (∀ T, TyAt w p T → TyAt w' p T) := by
  obtain ⟨arr, ty, lo, hi, g1, g2, ⟨sp, g3⟩, g4⟩ := h
  have hfz : (lo, hi) = (0, 0) ∨ arr.size ≤ (lo, hi).1 := by
    rcases g4 with ⟨rfl, rfl⟩ | ⟨_, g⟩
    · exact .inl rfl
    · exact .inr (by rw [g2]; exact g)
  have hr := run_storeCells_row (P := P) p o ty (lo, hi) new 0 arr w g1 hfz (by rw [g2]; omega) hone
  refine ⟨_, hr, ⟨_, ty, lo, hi, setRow_heap w p arr _ ty _ g1, ?_, ⟨sp.drop (o + new.length - vs.length), ?_⟩, g4⟩, setRow_size _ _ _, fun k hk => setRow_other _ _ _ _ hk, rfl, rfl, rfl, fun T ⟨a, z, ha⟩ => by rw [g1] at ha; cases ha; exact ⟨_, _, setRow_heap w p arr _ ty _ g1⟩⟩
  · have : arr.toList.length = t := by simpa using g2
    simp only [List.size_toArray, List.length_append, List.length_take, List.length_drop, Nat.add_zero]; omega
  · simp only [Nat.add_zero]
    rw [g3, List.take_append_of_le_length h1, List.drop_append, List.append_assoc, List.append_assoc, List.append_assoc]
theorem Row.write {p t : Nat} {vs : List Value} {fz : Bool} (h : Row w p t vs fz) {o : Nat} {new : List Value} (h1 : o ≤ vs.length) (hfit : o + new.length ≤ t) (hone : ∀ v ∈ new, v.oneCell' = true) :
    ∃ w', (storeCells ⟨p, o, none⟩ new).run P w = .ok () w' ∧ Row w' p t (vs.take o ++ new ++ vs.drop (o + new.length)) fz ∧ w'.heap.size = w.heap.size ∧ (∀ k, k ≠ p → w'.heap[k]? = w.heap[k]?) ∧
      w'.os = w.os ∧ w'.tape = w.tape ∧ w'.output = w.output := by
  obtain ⟨w', a, b, c, d, e, f, g, _⟩ := Row.write' (P := P) h h1 hfit hone
  exact ⟨w', a, b, c, d, e, f, g⟩
theorem cvByte_spec {c : CV} {x : Nat} (h : cvByte c = some x) : c = .int 4 (.ofNat x) ∧ x < 256 := by
  unfold cvByte at h
  split at h
  · rename_i m
    obtain ⟨h1, h2⟩ := cbif h
    cases h2
    have := Nat.le_of_ble_eq_true h1
    exact ⟨rfl, by omega⟩
  · cases h
theorem cvBytes_spec : ∀ {cs : List CV} {x : Nat} {vs : List Value}, cvBytes cs = some x → VRs σ cs vs → vs = (bys cs.length x).map bval
  | [], x, vs, h, hv => by simp only [VRs] at hv; subst hv; rfl
  | c :: cs, x, vs, h, hv => by
    simp only [VRs] at hv; obtain ⟨u, ws, rfl, h1, h2⟩ := hv
    unfold cvBytes at h
    split at h
    · rename_i y hy
      split at h
      · rename_i z hz
        cases h
        obtain ⟨rfl, hlt⟩ := cvByte_spec hy
        have ih := cvBytes_spec hz h2
        simp only [VR] at h1; subst h1
        simp only [List.length_cons, bys, List.map_cons]
        rw [show (y + 256 * z) % 256 = y by omega, show (y + 256 * z) / 256 = z by omega, ← ih]
        congr 1
        simp only [bval, kc]; congr 1; rw [u8_nat y hlt]; rfl
      · cases h
    · cases h
theorem bval_one (l : List UInt8) : ∀ v ∈ l.map bval, v.oneCell' = true := by
  intro v hv; obtain ⟨b, _, rfl⟩ := List.mem_map.1 hv; rfl
theorem wrN_sound (hR : Rel w0 σ hp n w) {b o p t : Nat} {cs : List CV} {vs : List Value} {hp' : H} (h : wrN hp b o cs = some hp') (hs : σ b = some (p, t)) (hv : VRs σ cs vs) :
    ∃ w', (storeCells ⟨p, o, none⟩ vs).run P w = .ok () w' ∧ Rel w0 σ hp' n w' := by
  unfold wrN at h
  split at h
  · rename_i old hc
    obtain ⟨ha, h⟩ := cbif h
    split at h
    · rename_i new hn
      cases h
      obtain ⟨ws, h1, h2⟩ := hR.at hs hc (by simp)
      obtain ⟨g1, g2⟩ := VRs.put hv h1 hn
      have hle : ws.length ≤ t := by obtain ⟨arr, _, _, _, _, q1, ⟨sp, q2⟩, _⟩ := h2; have := congrArg List.length q2; simp at this; omega
      obtain ⟨w', r1, r2, r3, r4, r5, r6, r7⟩ := h2.write (P := P) (o := o) (new := vs) (by omega) (by omega) (oneCell_of hv ha)
      exact ⟨w', r1, hR.upd hs (by rw [hc]; simp) r3 r4 r5 r6 r7 ⟨_, g1, r2⟩⟩
    · cases h
  · rename_i l m hc
    obtain ⟨ha, h⟩ := cbif h
    have ha := Nat.le_of_ble_eq_true ha
    split at h
    · rename_i x hx
      cases h
      obtain ⟨h2, hT⟩ := hR.at hs hc (by simp)
      have hvs := cvBytes_spec hx hv
      have hvl : vs.length = cs.length := hv.len.symm
      have hle : l ≤ t := by obtain ⟨arr, _, _, _, _, q1, ⟨sp, q2⟩, _⟩ := h2; have := congrArg List.length q2; simp [bys_len] at this; omega
      obtain ⟨w', r1, r2, r3, r4, r5, r6, r7, r8⟩ := Row.write' (P := P) (o := o) (new := vs) h2 (by simp [bys_len]; omega) (by omega) (by rw [hvs]; exact bval_one _)
      refine ⟨w', r1, hR.upd hs (by rw [hc]; simp) r3 r4 r5 r6 r7 ⟨?_, r8 _ hT⟩⟩
      show Row w' p t ((bys l (bput m o cs.length x l)).map bval) true
      rw [bys_put _ _ _ _ _ ha, List.map_append, List.map_append, ← hvs, List.map_take, List.map_drop, ← hvl]
      exact r2
    · cases h
  · rename_i old hc
    obtain ⟨ha, h⟩ := cbif h
    split at h
    · rename_i new hn
      cases h
      obtain ⟨ws, h1, h2, hT, hlen⟩ := hR.at hs hc (by simp)
      obtain ⟨g1, g2⟩ := VRs.put hv h1 hn
      have hle : ws.length ≤ t := by obtain ⟨arr, _, _, _, _, q1, ⟨sp, q2⟩, _⟩ := h2; have := congrArg List.length q2; simp at this; omega
      obtain ⟨w', r1, r2, r3, r4, r5, r6, r7, r8⟩ := h2.write' (P := P) (o := o) (new := vs) (by omega) (by omega) (oneCell_of hv ha)
      exact ⟨w', r1, hR.upd hs (by rw [hc]; simp) r3 r4 r5 r6 r7 ⟨_, g1, r2, r8 _ hT, by rw [g1.len]; have := h1.len; simp only [List.length_append, List.length_take, List.length_drop]; omega⟩⟩
    · cases h
  · cases h
theorem l_store (hR : Rel w0 σ hp n w) (hL : ∀ x, VR σ (lk fr x) (ev x)) {t : Nat} {a x : Operand} (h : Good (lStore P fr hp n t a x k) φ) : LR P w0 σ n w (do Instr.storeAt t (ev a) (ev x); pure Next.skip : Sem Next) k φ := by
  unfold lStore at h
  have ha := hL a
  split at h
  · rename_i b o he
    rw [he] at ha; simp only [VR] at ha
    obtain ⟨p, u, hs, hv⟩ := ha
    split at h
    · rename_i sz hsz
      split at h
      · exact h.no.elim
      · rename_i hj
        obtain ⟨h1, h2⟩ := h.bif
        clear h
        have h1 := Nat.eq_of_beq_eq_true h1
        have hc := cells_VR hj (hL x)
        split at h2
        · rename_i hp' hw
          obtain ⟨w', r1, r2⟩ := wrN_sound (P := P) hR hw hs hc
          refine LR.unit (w' := w') ?_ r2 (Ex.refl _ _) (Nle.refl _) h2
          rw [hv]
          have hsize : (ev x).cells.size = sz := by rw [← Array.length_toList, ← hc.len, h1]
          simp [Instr.storeAt, Instr.sureAddr, storeVar, run_size hsz, hsize, r1]
        · exact h2.no.elim
    · exact h.no.elim
  · exact h.no.elim
end
end Go.Cx
