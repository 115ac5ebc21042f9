/- A run with written-out values: the loud operations' soundness (seventh part: append, copy, clear). -/
import Derived.Test.YtmjckbfjaecjjaaGreatDoorCxJf
set_option linter.unusedVariables false
set_option linter.unusedSimpArgs false
set_option linter.unnecessarySimpa false
namespace Go.Cx
open Go.RowKit (Below)
theorem ble_no {a b : Nat} (h : Nat.ble a b = false) : ¬ (a ≤ b) := fun e => by have := Nat.ble_eq.symm ▸ e; rw [this] at h; cases h
section
variable {P : Program} {w0 : World} {σ : Sg} {hp : H} {n : Nat} {w : World} {fr : F} {ev : Operand → Value} {k : KS} {φ : Out → Prop}
theorem layEls_sound (hR : Rel w0 σ hp n w) {b o p t : Nat} {e : Els} {vs : List Value} {hp' : H} (h : layEls hp b o e = some hp') (hs : σ b = some (p, t)) (hv : ElsR σ e vs) (hfit : o + vs.length ≤ t) :
    ∃ w', (storeCells ⟨p, o, none⟩ vs).run P w = .ok () w' ∧ Rel w0 σ hp' n w' := by
  unfold layEls at h
  split at h
  · rename_i l
    split at h
    · rename_i old hc
      obtain ⟨ha, h⟩ := cbif h
      split at h
      · rename_i new hn
        cases h
        obtain ⟨ws, h1, h2⟩ := hR.at hs hc (by simp)
        obtain ⟨g1, g2⟩ := VRs.over hv h1 hn
        obtain ⟨w', r1, r2, r3, r4, r5, r6, r7⟩ := h2.write (P := P) (o := o) (new := vs) g2 hfit (oneCell_of hv ha)
        exact ⟨w', r1, hR.upd hs (by rw [hc]; simp) r3 r4 r5 r6 r7 ⟨_, g1, r2⟩⟩
      · cases h
    · cases h
  · rename_i l x
    split at h
    · rename_i k y hc
      obtain ⟨ho, h⟩ := cbif h
      have ho := Nat.le_of_ble_eq_true ho
      have hv : vs = (bys l x).map bval := hv
      have hvl : vs.length = l := by rw [hv]; simp [bys_len]
      obtain ⟨h2, hT⟩ : Row w p t ((bys k y).map bval) true ∧ TyAt w p u8T := hR.at hs hc (by simp)
      obtain ⟨w', r1, r2, r3, r4, r5, r6, r7, r8⟩ := h2.write' (P := P) (o := o) (new := vs) (by simp [bys_len]; omega) hfit (by rw [hv]; exact bval_one _)
      cases hol : Nat.ble (o + l) k
      · rw [hol] at h; cases h
        have hol : ¬ (o + l ≤ k) := ble_no hol
        refine ⟨w', r1, hR.upd hs (by rw [hc]; simp) r3 r4 r5 r6 r7 ⟨?_, r8 _ hT⟩⟩
        show Row w' p t ((bys (o + l) (bcat o y (x % pw l))).map bval) true
        rw [← bys_cat, bys_mod, List.map_append, ← hv]
        rw [List.drop_eq_nil_of_le (by simp [bys_len]; omega), List.append_nil, ← List.map_take, bys_take _ _ _ ho] at r2
        exact r2
      · rw [hol] at h; cases h
        have hol := Nat.le_of_ble_eq_true hol
        refine ⟨w', r1, hR.upd hs (by rw [hc]; simp) r3 r4 r5 r6 r7 ⟨?_, r8 _ hT⟩⟩
        show Row w' p t ((bys k (bput y o l x k)).map bval) true
        rw [bys_put _ _ _ _ _ hol, List.map_append, List.map_append, ← hv, List.map_take, List.map_drop]
        rw [hvl] at r2
        exact r2
    · cases h
theorem elI_spec {e : Nat} {i : TypeInfo} (h : elI P e = some i) : P.info? e = some i ∧ 1 ≤ i.size ∧ 1 ≤ i.bytes ∧ (isU8 P e = true → i.size = 1) ∧ ∃ zv, i.zero = some zv ∧ zv.cells.size = i.size := by
  unfold elI at h
  split at h
  · rename_i j hj
    obtain ⟨h1, h2⟩ := cbif h
    split at h2
    · rename_i z hz
      obtain ⟨h3, h4⟩ := cbif h2
      cases h4
      have h3 := Nat.eq_of_beq_eq_true h3
      obtain ⟨i', zv, z1, z2, z3⟩ := zeroC_spec (σ := fun _ => none) hz
      rw [tyI_info hj] at z1; cases z1
      cases q1 : Nat.ble 1 i.size
      · rw [q1] at h1; cases h1
      rw [q1] at h1
      cases q2 : Nat.ble 1 i.bytes
      · rw [q2] at h1; cases h1
      rw [q2] at h1
      refine ⟨tyI_info hj, Nat.le_of_ble_eq_true q1, Nat.le_of_ble_eq_true q2, fun hu => ?_, zv, z2, by rw [← Array.length_toList, ← z3.len, h3]⟩
      rw [hu] at h1; exact Nat.eq_of_beq_eq_true h1
    · cases h2
  · cases h
theorem cat_sound {a b : Els} {ck : Ck} {va vb : List Value} (h : catEls a b = some ck) (ha : ElsR σ a va) (hb : ElsR σ b vb) : ∀ (τ : Sg), Le σ τ → ∀ (w : World) (p t : Nat), Row w p t (va ++ vb) false → ((∃ l x, a = .bs l x) → TyAt w p u8T) → holds τ w p t ck := by
  intro τ hle w p t hr hty
  unfold catEls at h
  split at h
  · cases h
    exact ⟨_, (VRs.app ha hb).mono hle, hr⟩
  · cases h
    have ha : va = _ := ha
    have hb : vb = _ := hb
    refine ⟨?_, hty ⟨_, _, rfl⟩⟩
    show Row w p t _ true
    rw [← bys_cat, List.map_append, ← ha, ← hb]
    obtain ⟨arr, ty, lo, hi, q1, q2, q3, q4⟩ := hr
    refine ⟨arr, ty, lo, hi, q1, q2, q3, ?_⟩
    rcases q4 with q4 | ⟨q4, _⟩
    · exact .inl q4
    · cases q4
  · cases h
theorem cat_soundF {a b : Els} {ck : Ck} {va vb : List Value} {u8 : Bool} (h : catEls a b = some ck) (ha : ElsR σ a va) (hb : ElsR σ b vb) (hu : (∃ l, a = .cs l) → u8 = false) : ∀ (τ : Sg), Le σ τ → ∀ (w : World) (p t : Nat), Row w p t (va ++ vb) u8 → ((∃ l x, a = .bs l x) → TyAt w p u8T) → holds τ w p t ck := by
  intro τ hle w p t hr hty
  unfold catEls at h
  split at h
  · cases h
    have := hu ⟨_, rfl⟩; subst this
    exact ⟨_, (VRs.app ha hb).mono hle, hr⟩
  · cases h
    have ha : va = _ := ha
    have hb : vb = _ := hb
    refine ⟨?_, hty ⟨_, _, rfl⟩⟩
    show Row w p t _ true
    rw [← bys_cat, List.map_append, ← ha, ← hb]
    obtain ⟨arr, ty, lo, hi, q1, q2, q3, q4⟩ := hr
    exact ⟨arr, ty, lo, hi, q1, q2, q3, q4.imp id (fun q => ⟨rfl, q.2⟩)⟩
  · cases h
theorem elsOf_kind {c : CV} {s m : Nat} {l : List CV} (h : elsOf hp true s c m = some (.cs l)) : False := by
  unfold elsOf at h
  split at h
  · obtain ⟨_, h2⟩ := cbif h; cases h2
  · obtain ⟨_, h2⟩ := cbif h; obtain ⟨_, h3⟩ := cbif h2; cases h3
  · obtain ⟨_, h2⟩ := cbif h; obtain ⟨_, h3⟩ := cbif h2
    cases hm : Nat.beq m 0
    · rw [hm] at h3; simp only [cond_false, cond_true] at h3
      split at h3
      · obtain ⟨_, h4⟩ := cbif h3; cases h4
      · cases h3
    · rw [hm] at h3; cases h3
  · cases h
theorem elsOf_u8 {c : CV} {u8 : Bool} {s m : Nat} {e : Els} (h : elsOf hp u8 s c m = some e) : (∃ l, e = .cs l) → u8 = false := by
  rintro ⟨l, rfl⟩
  cases u8
  · rfl
  · exact (elsOf_kind h).elim
theorem elsOf_bs {c : CV} {u8 : Bool} {s m : Nat} {e : Els} (h : elsOf hp u8 s c m = some e) : (∃ l x, e = .bs l x) → u8 = true := by
  rintro ⟨l, x, rfl⟩
  cases u8
  · exfalso
    unfold elsOf at h
    split at h
    · obtain ⟨_, h2⟩ := cbif h; cases h2
    · cases h
    · obtain ⟨_, h2⟩ := cbif h; obtain ⟨_, h3⟩ := cbif h2
      cases hm : Nat.beq m 0
      · rw [hm] at h3; simp only [cond_false] at h3
        split at h3
        · split at h3 <;> cases h3
        · cases h3
      · rw [hm] at h3; cases h3
    · cases h
  · rfl
theorem row_of (hR : Rel w0 σ hp n w) {b p t : Nat} (hs : σ b = some (p, t)) {u8 : Bool} (h : isRow u8 (hget hp b) = true) : ∃ ws, Row w p t ws u8 := by
  unfold isRow at h
  split at h
  · rename_i cs hc
    have : u8 = false := by simpa using h
    subst this
    obtain ⟨ws, _, g⟩ := hR.at hs hc (by simp)
    exact ⟨ws, g⟩
  · rename_i l m hc
    subst h
    exact ⟨_, (hR.at hs hc (by simp)).1⟩
  · cases h
theorem row_ty (hR : Rel w0 σ hp n w) {b p t : Nat} (hs : σ b = some (p, t)) (h : isRow true (hget hp b) = true) : TyAt w p u8T := by
  unfold isRow at h
  split at h
  · cases h
  · rename_i l m hc
    exact (hR.at hs hc (by simp)).2
  · cases h
theorem allEls_one {e : Els} {vs : List Value} (h : allEls e = true) (hv : ElsR σ e vs) : ∀ v ∈ vs, v.oneCell' = true := by
  cases e with
  | cs l => exact oneCell_of hv h
  | bs l m => have : vs = _ := hv; rw [this]; exact bval_one _
/-- A block that no live name has may change. -/
theorem Rel.chg (h : Rel w0 σ hp n w) {p : Nat} {w' : World} (hz : w'.heap.size = w.heap.size) (hb : ∀ k, k ≠ p → w'.heap[k]? = w.heap[k]?) (ho : w'.os = w.os) (ht : w'.tape = w.tape) (hu : w'.output = w.output) (hp0 : w0.heap.size ≤ p)
    (hno : ∀ j q u, j < 32768 → hget hp j ≠ .no → σ j = some (q, u) → q ≠ p) : Rel w0 σ hp n w' :=
  ⟨fun i hi hc => let ⟨q, t, h1, h2⟩ := h.hold i hi hc; ⟨q, t, h1, h2.congr (hb q (hno i q t hi hc h1))⟩, h.apart,
    fun i q t hs => let ⟨a, b, c⟩ := h.old i q t hs; ⟨a, b, by rw [hz]; exact c⟩, h.fresh, h.lim, h.below.trans ⟨ho, ht, hu, by rw [hz]; exact Nat.le_refl _, fun k hk => hb k (by omega)⟩⟩
/-- A name is dropped, and its block has a new one. -/
theorem Rel.move (hR : Rel w0 σ hp n w) {b p t : Nat} (hs : σ b = some (p, t)) (hl : hget hp b ≠ .no) {w' : World} (hz : w'.heap.size = w.heap.size) (hb : ∀ k, k ≠ p → w'.heap[k]? = w.heap[k]?) (ho : w'.os = w.os) (ht : w'.tape = w.tape) (hu : w'.output = w.output)
    {c : Ck} {v : Nat → CV} (h : Good (newCk (hset hp b .no) n c v k) φ) (hc : ∀ τ, Le σ τ → holds τ w' p t c) :
    ∃ σ', σ' (idN n) = some (p, t) ∧ Rel w0 σ' (hset (hset hp b .no) (idN n) c) (n + 1) w' ∧ Ex n σ σ' ∧ Nle n (n + 1) ∧ Good (k (v (idN n)) (hset (hset hp b .no) (idN n) c) (n + 1)) φ := by
  unfold newCk at h
  obtain ⟨h1, h2⟩ := h.bif
  have h1 : idN n < limN n := by simpa [Nat.blt_eq] using h1
  obtain ⟨e1, e2⟩ := idN_lt h1 hR.lim
  have hf : σ (idN n) = none := hR.fresh _ (Nat.le_refl _) h1
  obtain ⟨hb1, hb2, hb3⟩ := hR.old _ _ _ hs
  have hk := hR.kill hb1
  have hno : ∀ j q u, j < 32768 → hget (hset hp b .no) j ≠ .no → σ j = some (q, u) → q ≠ p := fun j q u hj hjc hq => by
    rw [hget_hset _ _ _ _ hb1 hj] at hjc
    by_cases e : j = b
    · rw [if_pos e] at hjc; exact absurd rfl hjc
    · rw [if_neg e] at hjc; exact hR.apart j b q u p t hj hb1 hjc hl e hq hs
  have hk' := hk.chg hz hb ho ht hu hb2 hno
  refine ⟨_, updS_self _ _ _, hk'.name (by have := hR.lim; omega) hf hb2 (by rw [hz]; exact hb3) hno (hc _ (Le.upd hf)) e2 (fun j hj _ => ⟨by omega, by omega⟩), ⟨Le.upd hf, fun i hi => ?_⟩, ⟨by omega, e2⟩, h2⟩
  unfold updS
  rw [if_neg (fun e => hi ⟨by omega, by omega⟩)]
theorem l_append (hR : Rel w0 σ hp n w) {d s : CV} {vd vs : Value} (hd : VR σ d vd) (hs : VR σ s vs) {t t2 ty : Nat} {ts : Array Nat} (h0 : ts[0]? = some t) (h1 : ts[1]? = some t2) (h : Good (lAppend P hp n t t2 d s k) φ) :
    LR P w0 σ n w (do pure (Next.value (← Builtin.append_ ts ty #[vd, vs])) : Sem Next) k φ := by
  unfold lAppend at h
  split at h
  · rename_i e hdt
    have hu := tyD_und hdt
    split at h
    · rename_i i hel
      obtain ⟨hi, i1, i2, i3, zv, z1, z2⟩ := elI_spec hel
      split at h
      · exact h.no.elim
      · rename_i d2 hni hd2
        have hu2 := tyD_und hd2
        have hnot : notInt d2 = true := by cases d2 <;> first | rfl | exact (hni _ rfl).elim
        split at h
        · rename_i m hm
          have hlen := fun w => lenOf_sound (P := P) hs hm w
          split at h
          · rename_i new hnew
            obtain ⟨nv, n1, n2, n3⟩ := elsOf_sound (P := P) hR hs hnew i1 i3
            have hsz : ∀ w, (sizeOf e).run P w = .ok i.size w := fun w => by simp [sizeOf, typeInfo, hi]
            have hRd : Rel w0 σ hp n w.drew := hR.drew _
            -- a new block
            have grow : ∀ {base : Option Addr} {l C : Nat} {ov : List Value} {ck : Ck}, ¬ l + m ≤ C → ov.length = l * i.size → (Builtin.firstCells i.size l (.slice base l C)).run P w.drew = .ok ov.toArray w.drew → i.bytes * (l + m) ≤ 70368744177664 →
                (∀ (τ : Sg), Le σ τ → ∀ (w : World) (p t : Nat), Row w p t (ov ++ nv) false → TyAt w p e → holds τ w p t ck) → Good (newCk hp n ck (fun b => .slice b 0 i.size (l + m) (l + m) false) k) φ →
                LR P w0 σ n w (do pure (Next.value (← Builtin.append_ ts ty #[.slice base l C, vs])) : Sem Next) k φ := by
              intro base l C ov ck hfit hol hold hroom hck hg
              obtain ⟨c, spare, c1, c2, c3⟩ := append_grow (ty := ty) h0 h1 hu hu2 hnot hi z1 z2 i2 (hlen w) (n3 w.drew (fun _ => rfl)) hfit hold (by omega)
              obtain ⟨σ', s1, s2, s3, s4, s5⟩ := newCk_sound hRd hg (.cells (ov ++ nv ++ spare).toArray e) (c * i.size) (fun τ hle _ => hck τ hle _ _ _ (by
                have := Row.new (w := w.drew) (vs := ov ++ nv) (arr := (ov ++ nv ++ spare).toArray) (ty := e) (fz := false) (spare := spare) (by simp)
                have e2 : (ov ++ nv ++ spare).toArray.size = c * i.size := by
                  simp only [List.size_toArray, List.length_append, hol, n2, c2]
                  rw [Nat.sub_mul, ← Nat.add_mul]
                  have : (l + m) * i.size ≤ c * i.size := Nat.mul_le_mul_right _ c1
                  omega
                rw [e2] at this; exact this) ⟨_, _, heap_push w.drew _⟩)
              refine LR.val c3 ?_ s2 s3 s4 s5
              simp only [VR]
              exact ⟨_, _, _, _, s1, rfl, Nat.le_refl _, c1, fun e => (by cases e), fun _ => rfl, by omega, fun _ _ => (by omega)⟩
            split at h
            · -- nil
              simp only [VR] at hd; subst hd
              cases hm0 : Nat.beq m 0
              · rw [hm0] at h; simp only [cond_false] at h
                have hm1 : m ≠ 0 := fun e => by rw [e] at hm0; cases hm0
                split at h
                · rename_i ck hck
                  obtain ⟨hroom, h2⟩ := h.bif
                  have hroom := Nat.le_of_ble_eq_true hroom
                  have := grow (base := none) (l := 0) (C := 0) (ov := []) (ck := ck) (by omega) (by simp) rfl (by simpa using hroom)
                    (by
                      have he : ElsR σ (bif isU8 P e then .bs 0 0 else .cs []) [] := by cases isU8 P e <;> simp [ElsR, VRs, bys]
                      exact fun τ hle w p t hr ht => cat_sound hck he n1 τ hle w p t hr (fun ⟨l, x, hb⟩ => by
                        cases hu8 : isU8 P e
                        · rw [hu8] at hb; cases hb
                        · rw [← isU8_ty hu8]; exact ht)) (by simpa using h2)
                  simpa using this
                · exact h.no.elim
              · rw [hm0] at h; simp only [cond_true] at h
                have := Nat.eq_of_beq_eq_true hm0; subst this
                have hn0 : nv = [] := List.eq_nil_of_length_eq_zero (by rw [n2]; simp)
                subst hn0
                refine LR.val (append_fit (w' := w) (base := none) h0 h1 hu hu2 hnot (hsz w) (hlen w) (n3 w (fun _ => rfl)) (Nat.le_refl _) rfl) (by simp only [VR]) hR (Ex.refl _ _) (Nle.refl _) h
            · rename_i b o sz l c ex
              obtain ⟨hsz', h2⟩ := h.bif
              clear h
              have hsz' := Nat.eq_of_beq_eq_true hsz'
              subst hsz'
              have hd0 := hd
              simp only [VR] at hd
              obtain ⟨p, u, o', C, hsb, rfl, hlk, hkc, hex, ho, hle, heq⟩ := hd
              cases hfit : Nat.ble (l + m) c
              · rw [hfit] at h2; simp only [cond_false] at h2
                have hfit : ¬ (l + m ≤ c) := ble_no hfit
                split at h2
                · rename_i old hold
                  obtain ⟨ov, o1, o2, o3⟩ := elsOf_sound (P := P) hR hd0 hold i1 i3
                  split at h2
                  · rename_i ck hck
                    obtain ⟨hroom, h3⟩ := h2.bif
                    clear h2
                    have hroom := Nat.le_of_ble_eq_true hroom
                    cases ex
                    · simp only [cond_false] at h3
                      obtain ⟨hcond, h4⟩ := h3.bif
                      clear h3
                      obtain ⟨q1, q2, q3, q4⟩ : o = 0 ∧ 1 ≤ c ∧ isRow (isU8 P e) (hget hp b) = true ∧ allEls new = true := by
                        cases q1 : Nat.beq o 0
                        · rw [q1] at hcond; cases hcond
                        rw [q1] at hcond
                        cases q2 : Nat.ble 1 c
                        · rw [q2] at hcond; cases hcond
                        rw [q2] at hcond
                        cases q3 : isRow (isU8 P e) (hget hp b)
                        · rw [q3] at hcond; cases hcond
                        rw [q3] at hcond
                        exact ⟨Nat.eq_of_beq_eq_true q1, Nat.le_of_ble_eq_true q2, rfl, hcond⟩
                      subst q1
                      have hoo := ho (.inl q2); subst hoo
                      have hlive : hget hp b ≠ .no := fun e => by rw [e] at q3; cases q3
                      by_cases hC : l + m ≤ C
                      · -- in place
                        obtain ⟨ws, arr, aty, lo, hi', g1, g2, g3, g4⟩ := row_of hR hsb q3
                        have hsp : l * i.size + m * i.size ≤ C * i.size := by rw [← Nat.add_mul]; exact Nat.mul_le_mul_right _ hC
                        have hov : ov = arr.toList.take (l * i.size) := by
                          have e1 := o3 w (fun _ => rfl)
                          have hl : (arr.toList.take (l * i.size)).length = l * i.size := by rw [List.length_take, Array.length_toList]; omega
                          have e2 := run_loadCells (P := P) ⟨p, 0, none⟩ (arr.toList.take (l * i.size)) w (fun j v hj => by
                            have hlt := (List.getElem?_eq_some_iff.1 hj).1
                            rw [hl] at hlt
                            rw [List.getElem?_take_of_lt hlt, Array.getElem?_toList] at hj
                            rw [add_eq, Nat.zero_add]; simp [World.cell?, g1, hj])
                          rw [hl] at e2
                          simp only [Builtin.firstCells] at e1
                          rw [e2] at e1
                          simp only [Result.ok.injEq, and_true] at e1
                          simpa using e1.symm
                        have hrow : Row w p u ov (isU8 P e) := ⟨arr, aty, lo, hi', g1, g2, ⟨arr.toList.drop (l * i.size), by rw [hov, List.take_append_drop]⟩, g4⟩
                        obtain ⟨w', r1, r2, r3, r4, r5, r6, r7, r8⟩ := hrow.write' (P := P) (o := 0 + l * i.size) (new := nv) (by omega) (by omega) (allEls_one q4 n1)
                        rw [List.take_of_length_le (by omega), List.drop_eq_nil_of_le (by omega), List.append_nil] at r2
                        obtain ⟨σ', s1, s2, s3, s4, s5⟩ := hR.move hsb hlive r3 r4 r5 r6 r7 h4 (fun τ hle => cat_soundF hck o1 n1 (elsOf_u8 hold) τ hle _ _ _ r2 (fun hb => r8 _ (row_ty hR hsb (by have q4' := q3; rw [elsOf_bs hold hb] at q4'; exact q4'))))
                        refine LR.val (append_fit (w' := w') (base := some ⟨p, 0, none⟩) h0 h1 hu hu2 hnot (hsz w) (hlen w) (n3 w (fun _ => rfl)) hC (by show (storeCells (Addr.add _ _) nv).run P w = _; rw [add_eq]; exact r1)) ?_ s2 s3 s4 s5
                        simp only [VR]
                        exact ⟨_, _, _, _, s1, rfl, Nat.le_refl _, hC, fun e => (by cases e), fun _ => rfl, by omega, fun _ _ => heq rfl (by omega)⟩
                      · -- a new block, and the old name dropped
                        have hb1 := (hR.old _ _ _ hsb).1
                        obtain ⟨c', spare, c1, c2, c3⟩ := append_grow (ty := ty) h0 h1 hu hu2 hnot hi z1 z2 i2 (hlen w) (n3 w.drew (fun _ => rfl)) hC (o3 w.drew (fun _ => rfl)) (by omega)
                        obtain ⟨σ', s1, s2, s3, s4, s5⟩ := newCk_sound (hRd.kill hb1) h4 (.cells (ov ++ nv ++ spare).toArray e) (c' * i.size) (fun τ hle _ => cat_sound hck o1 n1 τ hle _ _ _ (by
                          have := Row.new (w := w.drew) (vs := ov ++ nv) (arr := (ov ++ nv ++ spare).toArray) (ty := e) (fz := false) (spare := spare) (by simp)
                          have e2 : (ov ++ nv ++ spare).toArray.size = c' * i.size := by
                            simp only [List.size_toArray, List.length_append, o2, n2, c2]
                            rw [Nat.sub_mul, ← Nat.add_mul]
                            have : (l + m) * i.size ≤ c' * i.size := Nat.mul_le_mul_right _ c1
                            omega
                          rw [e2] at this; exact this) (fun hb => by rw [← isU8_ty (elsOf_bs hold hb)]; exact ⟨_, _, heap_push w.drew _⟩))
                        refine LR.val c3 ?_ s2 s3 s4 s5
                        simp only [VR]
                        exact ⟨_, _, _, _, s1, rfl, Nat.le_refl _, c1, fun e => (by cases e), fun _ => rfl, by omega, fun _ _ => (by omega)⟩
                    · simp only [cond_true] at h3
                      have := hex rfl; subst this
                      exact grow (by omega) o2 (o3 w.drew (fun _ => rfl)) hroom (fun τ hle w p t hr ht => cat_sound hck o1 n1 τ hle w p t hr (fun hb => by rw [← isU8_ty (elsOf_bs hold hb)]; exact ht)) h3
                  · exact h2.no.elim
                · exact h2.no.elim
              · rw [hfit] at h2; simp only [cond_true] at h2
                have hfit := Nat.le_of_ble_eq_true hfit
                cases hm0 : Nat.beq m 0
                · rw [hm0] at h2; simp only [cond_false] at h2
                  have hm1 : m ≠ 0 := fun e => by rw [e] at hm0; cases hm0
                  have hoo := ho (.inl (by omega)); subst hoo
                  split at h2
                  · rename_i hp' hlay
                    have hsp : l * i.size + m * i.size ≤ C * i.size := by rw [← Nat.add_mul]; exact Nat.mul_le_mul_right _ (by omega)
                    obtain ⟨w', r1, r2⟩ := layEls_sound (P := P) hR hlay hsb n1 (by rw [n2]; omega)
                    refine LR.val (append_fit (w' := w') (base := some ⟨p, o', none⟩) h0 h1 hu hu2 hnot (hsz w) (hlen w) (n3 w (fun _ => rfl)) (by omega) (by show (storeCells (Addr.add _ _) nv).run P w = _; rw [add_eq]; exact r1)) ?_ r2 (Ex.refl _ _) (Nle.refl _) h2
                    simp only [VR]
                    exact ⟨_, _, _, _, hsb, rfl, hfit, hkc, hex, fun _ => rfl, hle, heq⟩
                  · exact h2.no.elim
                · rw [hm0] at h2; simp only [cond_true] at h2
                  have := Nat.eq_of_beq_eq_true hm0; subst this
                  have hn0 : nv = [] := List.eq_nil_of_length_eq_zero (by rw [n2]; simp)
                  subst hn0
                  exact LR.val (append_fit (w' := w) (base := some ⟨p, o', none⟩) h0 h1 hu hu2 hnot (hsz w) (hlen w) (n3 w (fun _ => rfl)) (by omega) rfl) hd0 hR (Ex.refl _ _) (Nle.refl _) h2
            · exact h.no.elim
          · exact h.no.elim
        · exact h.no.elim
      · exact h.no.elim
    · exact h.no.elim
  · exact h.no.elim
theorem l_copy (hR : Rel w0 σ hp n w) {d s : CV} {vd vs : Value} (hd : VR σ d vd) (hs : VR σ s vs) {t ty : Nat} {ts : Array Nat} (h0 : ts[0]? = some t) (h : Good (lCopy P hp n t d s k) φ) :
    LR P w0 σ n w (do pure (Next.value (← Builtin.copy_ ts ty #[vd, vs])) : Sem Next) k φ := by
  unfold lCopy at h
  split at h
  · rename_i e hdt
    have hu := tyD_und hdt
    split at h
    · rename_i i hel
      obtain ⟨hi, i1, i2, i3, zv, z1, z2⟩ := elI_spec hel
      have hsz : ∀ w, (sizeOf e).run P w = .ok i.size w := fun w => by simp [sizeOf, typeInfo, hi]
      split at h
      · rename_i m hm
        have hlen := fun w => lenOf_sound (P := P) hs hm w
        split at h
        · rename_i l hl
          have hmin : (bif Nat.ble m l then m else l) = min m l := by
            cases hq : Nat.ble m l
            · have := ble_no hq; simp only [cond_false]; omega
            · have := Nat.le_of_ble_eq_true hq; simp only [cond_true]; omega
          rw [hmin] at h
          split at h
          · rename_i hj0
            have hf0 : (Builtin.firstCells i.size (min m l) vs).run P w = .ok ([] : List Value).toArray w := by
              rw [hj0]
              unfold lenOf at hm
              split at hm
              · simp only [VR] at hs; subst hs; rfl
              · rename_i l x; simp only [VR] at hs; subst hs
                have e := extract_bys l x 0 0 (Nat.zero_le _) (Nat.le_refl _)
                simp only [Builtin.firstCells, Sem.run_pure]; rw [e]; simp [bys]
              · simp only [VR] at hs; obtain ⟨_, _, _, _, _, rfl, _⟩ := hs; simp [Builtin.firstCells, loadCells, loadCellsFrom]
              · cases hm
            split at h
            · simp only [VR] at hd; subst hd
              simp only [lenOf, Option.some.injEq] at hl; subst hl
              have := copy_run (ty := ty) (base := none) (cap := 0) (l := 0) (w' := w) h0 hu (hsz w) (hlen w) hf0 rfl
              rw [hj0] at this
              exact LR.val this (by simp only [VR]; rfl) hR (Ex.refl _ _) (Nle.refl _) h
            · simp only [VR] at hd; obtain ⟨p, u, o', C, _, rfl, _⟩ := hd
              simp only [lenOf, Option.some.injEq] at hl; subst hl
              have := copy_run (ty := ty) (base := some ⟨p, o', none⟩) (cap := C) (cells := []) (w' := w) h0 hu (hsz w) (hlen w) hf0 rfl
              rw [hj0] at this
              exact LR.val this (by simp only [VR]; rfl) hR (Ex.refl _ _) (Nle.refl _) h
            · exact h.no.elim
          · rename_i hj
            split at h
            · rename_i new hnew
              obtain ⟨nv, n1, n2, n3⟩ := elsOf_sound (P := P) hR hs hnew i1 i3
              split at h
              · rename_i b o sz' l' c ex
                obtain ⟨hq, h2⟩ := h.bif
                clear h
                have hq := Nat.eq_of_beq_eq_true hq
                subst hq
                simp only [lenOf, Option.some.injEq] at hl; subst hl
                simp only [VR] at hd; obtain ⟨p, u, o', C, hsb, rfl, hlk, hkc, hex, ho, hle, heq⟩ := hd
                have hoo := ho (.inl (by have : min m l' ≠ 0 := fun e => hj e
                                         omega)); subst hoo
                split at h2
                · rename_i hp' hlay
                  have hsp : min m l' * i.size ≤ C * i.size := Nat.mul_le_mul_right _ (by omega)
                  obtain ⟨w', r1, r2⟩ := layEls_sound (P := P) hR hlay hsb n1 (by rw [n2]; omega)
                  exact LR.val (copy_run (ty := ty) (base := some ⟨p, o', none⟩) (cap := C) (w' := w') h0 hu (hsz w) (hlen w) (n3 w (fun _ => rfl)) r1) (by simp only [VR]; rfl) r2 (Ex.refl _ _) (Nle.refl _) h2
                · exact h2.no.elim
              · exact h.no.elim
            · exact h.no.elim
        · exact h.no.elim
      · exact h.no.elim
    · exact h.no.elim
  · exact h.no.elim
theorem zeroN_els {e sz m : Nat} {ck : Ck} (h : zeroN P e sz m = some ck) : ∃ i zv, P.info? e = some i ∧ i.zero = some zv ∧ zv.cells.size = sz ∧
    ((∃ l x, ck = .bytes l x ∧ ElsR σ (.bs l x) (List.replicate m zv.cells.toList).flatten) ∨ (∃ cs, ck = .cells cs ∧ ElsR σ (.cs cs) (List.replicate m zv.cells.toList).flatten)) := by
  unfold zeroN at h
  split at h
  · rename_i z hz
    obtain ⟨hl, h2⟩ := cbif h
    have hl := Nat.eq_of_beq_eq_true hl
    obtain ⟨i, zv, z1, z2, z3⟩ := zeroC_spec (σ := σ) hz
    have hsz : zv.cells.size = sz := by rw [← Array.length_toList, ← z3.len, hl]
    refine ⟨i, zv, z1, z2, hsz, ?_⟩
    cases hu : isU8 P e
    · rw [hu] at h2; cases h2
      exact .inr ⟨_, rfl, z3.rep m⟩
    · rw [hu] at h2; simp only [cond_true] at h2
      split at h2
      · rename_i c
        split at h2
        · rename_i hc
          cases h2
          obtain ⟨rfl, _⟩ := cvByte_spec hc
          simp only [VRs, VR] at z3
          obtain ⟨v, ws, e1, e2, e3⟩ := z3
          subst e2; subst e3
          refine .inl ⟨m, 0, rfl, ?_⟩
          show _ = (bys m 0).map bval
          rw [bys_zero, e1]
          simp [List.flatten_replicate_singleton, kc]
        · cases h2
      · cases h2
  · cases h
theorem flat_len (z : List Value) : ∀ m : Nat, (List.replicate m z).flatten.length = m * z.length
  | 0 => by simp
  | m + 1 => by rw [List.replicate_succ, List.flatten_cons, List.length_append, flat_len z m, Nat.succ_mul, Nat.add_comm]
theorem l_clear (hR : Rel w0 σ hp n w) {x : CV} {vx : Value} (hx : VR σ x vx) {t ty : Nat} {ts : Array Nat} (h0 : ts[0]? = some t) (h : Good (lClear P hp n t x k) φ) :
    LR P w0 σ n w (do pure (Next.value (← Builtin.clear_ ts ty #[vx])) : Sem Next) k φ := by
  unfold lClear at h
  split at h
  · rename_i kt et hd; simp only [VR] at hx; subst hx
    exact LR.val (v := .tuple #[]) (by simp [Builtin.clear_, h0, run_underlying (tyD_und hd)]) VR_unit hR (Ex.refl _ _) (Nle.refl _) h
  · rename_i kt et b hd; simp only [VR] at hx; obtain ⟨p, u, hs, rfl⟩ := hx
    split at h
    · rename_i es clock hb
      obtain ⟨ms, g1, g2⟩ := hR.at hs hb (by simp)
      refine LR.val (v := .tuple #[]) (w' := putO w p (.map #[] clock)) (by simp [Builtin.clear_, h0, run_underlying (tyD_und hd), run_getMap g2, run_setMap g2]) VR_unit (hR.put (c := .map [] clock) hs (by rw [hb]; simp) (fun hh => ⟨[], rfl, hh⟩)) (Ex.refl _ _) (Nle.refl _) h
    · exact h.no.elim
  · rename_i e hd; simp only [VR] at hx; subst hx
    exact LR.val (v := .tuple #[]) (by simp [Builtin.clear_, h0, run_underlying (tyD_und hd)]) VR_unit hR (Ex.refl _ _) (Nle.refl _) h
  · rename_i e b o s l kk ex hd
    have hu := tyD_und hd
    simp only [VR] at hx; obtain ⟨p, u, o', C, hsb, rfl, hlk, hkc, hex, ho, hle, heq⟩ := hx
    split at h
    · exact LR.val (v := .tuple #[]) (by simp [Builtin.clear_, h0, run_underlying hu]) VR_unit hR (Ex.refl _ _) (Nle.refl _) h
    · rename_i hl0
      obtain ⟨l', rfl⟩ : ∃ l', l = l' + 1 := ⟨l - 1, by have : l ≠ 0 := fun e => hl0 e
                                                        omega⟩
      have hoo := ho (.inl (by omega)); subst hoo
      have go : ∀ {ck : Ck} {el : Els} {hp' : H}, zeroN P e s (l' + 1) = some ck → (∀ i zv, P.info? e = some i → i.zero = some zv → zv.cells.size = s → ElsR σ el (List.replicate (l' + 1) zv.cells.toList).flatten) →
          layEls hp b o' el = some hp' → Good (k (.tup []) hp' n) φ → LR P w0 σ n w (do pure (Next.value (← Builtin.clear_ ts ty #[.slice (some ⟨p, o', none⟩) (l' + 1) C])) : Sem Next) k φ := by
        intro ck el hp' hz he hlay hk
        obtain ⟨i, zv, z1, z2, z3, _⟩ := zeroN_els (σ := σ) hz
        have hsp : (l' + 1) * s ≤ C * s := Nat.mul_le_mul_right _ (by omega)
        obtain ⟨w', r1, r2⟩ := layEls_sound (P := P) hR hlay hsb (he i zv z1 z2 z3) (by rw [flat_len, Array.length_toList, z3]; omega)
        exact LR.val (clearS_run (ty := ty) (cap := C) h0 hu z1 z2 r1) VR_unit r2 (Ex.refl _ _) (Nle.refl _) hk
      split at h
      · rename_i m x hz
        split at h
        · rename_i hp' hlay
          refine go hz (fun i zv y1 y2 y3 => ?_) hlay h
          obtain ⟨i', zv', z1, z2, z3, z4⟩ := zeroN_els (σ := σ) hz
          rw [y1] at z1; cases z1; rw [y2] at z2; cases z2
          rcases z4 with ⟨_, _, e1, e2⟩ | ⟨_, e1, _⟩
          · cases e1; exact e2
          · cases e1
        · exact h.no.elim
      · rename_i cs hz
        split at h
        · rename_i hp' hlay
          refine go hz (fun i zv y1 y2 y3 => ?_) hlay h
          obtain ⟨i', zv', z1, z2, z3, z4⟩ := zeroN_els (σ := σ) hz
          rw [y1] at z1; cases z1; rw [y2] at z2; cases z2
          rcases z4 with ⟨_, _, e1, _⟩ | ⟨_, e1, e2⟩
          · cases e1
          · cases e1; exact e2
        · exact h.no.elim
      · exact h.no.elim
  · exact h.no.elim

/-! ### Conversions -/
/-- A live block's frozen range is another; its name tells the same. -/
theorem Rel.same (h : Rel w0 σ hp n w) {i p t : Nat} (hs : σ i = some (p, t)) (hl : hget hp i ≠ .no) {w' : World} (hz : w'.heap.size = w.heap.size) (hb : ∀ k, k ≠ p → w'.heap[k]? = w.heap[k]?)
    (ho : w'.os = w.os) (ht : w'.tape = w.tape) (hu : w'.output = w.output) (hc : holds σ w' p t (hget hp i)) : Rel w0 σ hp n w' := by
  have hi := (h.old i p t hs).1
  refine ⟨fun j hj hjc => ?_, h.apart, fun j q u hj => ?_, h.fresh, h.lim, ?_⟩
  · by_cases e : j = i
    · subst e; exact ⟨p, t, hs, hc⟩
    · obtain ⟨q, u, h1, h2⟩ := h.hold j hj hjc
      exact ⟨q, u, h1, h2.congr (hb q (fun e' => h.apart j i q u p t hj hi hjc hl e h1 hs e'))⟩
  · obtain ⟨a, b, c⟩ := h.old j q u hj; exact ⟨a, b, by rw [hz]; exact c⟩
  · exact h.below.trans ⟨ho, ht, hu, by rw [hz]; exact Nat.le_refl _, fun k hk => hb k (fun e => by have := (h.old i p t hs).2.1; omega)⟩
theorem run_markS {p : Nat} {arr : Array Value} {ty : TypeId} {lo hi : Nat} {o : Nat} (g : w.heap[p]? = some (.cells arr ty (lo, hi))) (hf : (lo = 0 ∧ hi = 0) ∨ arr.size ≤ lo) :
    ∃ w' lo' hi', (markStringish ⟨p, o, none⟩).run P w = .ok () w' ∧ w'.heap[p]? = some (.cells arr ty (lo', hi')) ∧ arr.size ≤ lo' ∧ w'.heap.size = w.heap.size ∧ (∀ k, k ≠ p → w'.heap[k]? = w.heap[k]?) ∧ w'.os = w.os ∧ w'.tape = w.tape ∧ w'.output = w.output := by
  have hsh : w.shape? p = some (ty, arr.size) := by simp [World.shape?, g]
  have hlt := (Array.getElem?_eq_some_iff.1 g).1
  have hval := (Array.getElem?_eq_some_iff.1 g).2
  refine ⟨w.freeze ⟨p, arr.size, none⟩ 1, if lo == hi then arr.size else min lo arr.size, if lo == hi then arr.size + 1 else max hi (arr.size + 1), ?_, ?_, ?_, ?_, fun k hk => ?_, rfl, rfl, rfl⟩
  · simp [markStringish, hsh]
  · simp only [World.freeze, Nat.one_ne_zero, if_false]
    rw [Array.getElem?_modify]
    simp only [if_true, g, Option.map_some]
    split <;> rfl
  · rcases hf with ⟨rfl, rfl⟩ | hf
    · simp
    · split <;> omega
  · simp [World.freeze]
  · simp only [World.freeze, Nat.one_ne_zero, if_false]
    rw [Array.getElem?_modify, if_neg (fun e => hk e.symm)]
theorem l_conv (hR : Rel w0 σ hp n w) (hL : ∀ x, VR σ (lk fr x) (ev x)) {src dst : Nat} {x : Operand} (h : Good (lConv P fr hp n src dst x k) φ) :
    LR P w0 σ n w (do pure (Next.value (← convert src dst (ev x))) : Sem Next) k φ := by
  unfold lConv at h
  have hx := hL x
  split at h
  · rename_i e l m hd he; rw [he] at hx; simp only [VR] at hx
    split at h
    · rename_i ds hds
      obtain ⟨hu8, h2⟩ := h.bif
      clear h
      have h1 := tyD_und hds
      have h3 := tyD_und hd
      have h4 := isU8_spec hu8
      have ha : (⟨(bys l m).toArray⟩ : ByteArray).data.map (fun b => Value.int .u8 b.toNat) = ((bys l m).map bval).toArray := by apply Array.ext'; simp [bval]
      have hsz : (⟨(bys l m).toArray⟩ : ByteArray).size = l := by simp [ByteArray.size, bys_len]
      have hconv : (convert src dst (ev x)).run P w = (Conv.stringToBytes e ⟨(bys l m).toArray⟩).run P w := by
        rw [hx]; cases ds <;> simp [convert, run_underlying h1, run_underlying h3, run_underlying h4]
      obtain ⟨C, hC1, hC2⟩ : ∃ C, l ≤ C ∧ (choose (.appendCap l 0 e)).run P w = .ok C w.drew := ⟨(Question.appendCap l 0 e).cut (w.tape w.drawn (.appendCap l 0 e)), by simp [Question.cut], by simp [choose, Sem.run, Question.forced]⟩
      have hnr : ((((bys l m).map bval).toArray ++ Array.replicate (C - l) (.int .u8 0)) : Array Value).toList = (bys l m).map bval ++ List.replicate (C - l) (.int .u8 0) := by simp
      generalize hA : ((((bys l m).map bval).toArray ++ Array.replicate (C - l) (.int .u8 0)) : Array Value) = A at hnr
      have hAs : A.size = C := by rw [← hA]; simp [bys_len]; omega
      have hRd : Rel w0 σ hp n w.drew := hR.drew _
      obtain ⟨w', lo', hi', f1, f2, f3, f4, f5, f6, f7, f8⟩ := run_markS (P := P) (w := { w.drew with heap := w.heap.push (.cells A e) }) (p := w.heap.size) (o := 0) (heap_push w.drew _) (.inl ⟨rfl, rfl⟩)
      obtain ⟨σ', s1, s2, s3, s4, s5⟩ := newCk_sound hRd h2 (.cells A e) C (fun τ hle _ => by
        have := Row.new (w := w.drew) (vs := (bys l m).map bval) (arr := A) (ty := e) (fz := true) (spare := _) hnr
        rw [hAs] at this; exact ⟨this, by rw [← isU8_ty hu8]; exact ⟨_, _, heap_push w.drew _⟩⟩)
      have hR2 := s2.same s1 (by rw [hget_hset _ _ _ _ (s2.old _ _ _ s1).1 (s2.old _ _ _ s1).1, if_pos rfl]; simp) f4 f5 f6 f7 f8 (by
        rw [hget_hset _ _ _ _ (s2.old _ _ _ s1).1 (s2.old _ _ _ s1).1, if_pos rfl]
        exact ⟨⟨A, e, lo', hi', f2, hAs, ⟨_, hnr⟩, .inr ⟨rfl, by rw [← hAs]; exact f3⟩⟩, by rw [← isU8_ty hu8]; exact ⟨_, _, f2⟩⟩)
      refine LR.val (v := .slice (some ⟨w.heap.size, 0, none⟩) l C) ?_ ?_ hR2 s3 s4 s5
      · rw [hconv]
        simp only [Conv.stringToBytes, Sem.run_bind, hsz, hC2, Result.andThen_ok, ha, hA, run_newRow]
        have f1' : (markStringish ⟨w.drew.heap.size, 0, none⟩).run P { w.drew with heap := w.drew.heap.push (.cells A e) } = .ok () w' := f1
        rw [f1']; rfl
      · simp only [VR]
        exact ⟨_, _, _, _, s1, rfl, Nat.le_refl _, hC1, fun e => (by cases e), fun _ => rfl, by omega, fun _ _ => (by omega)⟩
    · exact h.no.elim
  · rename_i e b o s l kk ex hd he; rw [he] at hx
    have hx0 := hx
    simp only [VR] at hx; obtain ⟨p, u, o', C, hsb, hv, hlk, hkc, hex, ho, hle, heq⟩ := hx
    split at h
    · rename_i e2 hds
      obtain ⟨hc, h2⟩ := h.bif
      clear h
      obtain ⟨hq, hu8⟩ : src = dst ∧ isU8 P e = true := by
        cases hq : Nat.beq src dst
        · rw [hq] at hc; cases hc
        · rw [hq] at hc; exact ⟨Nat.eq_of_beq_eq_true hq, hc⟩
      subst hq
      have h1 := tyD_und hds
      have h3 := tyD_und hd
      have h4 := isU8_spec hu8
      split at h2
      · rename_i k' y hb
        obtain ⟨⟨arr, ty, lo, hi, g1, g2, g3, g4⟩, hT⟩ := hR.at hsb hb (by simp)
        obtain ⟨w', lo', hi', f1, f2, f3, f4, f5, f6, f7, f8⟩ := run_markS (P := P) (o := o') g1 (g4.imp id (fun q => by rw [g2]; exact q.2))
        refine LR.val (w' := w') (v := ev x) ?_ hx0 (hR.same hsb (by rw [hb]; simp) f4 f5 f6 f7 f8 (by rw [hb]; exact ⟨⟨arr, ty, lo', hi', f2, g2, g3, .inr ⟨rfl, by rw [← g2]; exact f3⟩⟩, by obtain ⟨a, z, ha⟩ := hT; rw [g1] at ha; cases ha; exact ⟨_, _, f2⟩⟩)) (Ex.refl _ _) (Nle.refl _) h2
        rw [hv]
        simp [convert, run_underlying h3, run_underlying h4, f1]
      · exact h2.no.elim
    · exact h.no.elim
  · obtain ⟨c, v, g1, g2, g3⟩ := q_conv (k := fun v => k v hp n) hR hL h
    exact LR.val g1 g2 hR (Ex.refl _ _) (Nle.refl _) g3
end
end Go.Cx
