/- A run with written-out values: the quiet operations' soundness (fourth part). -/
import Derived.Test.YtmjckbfjaecjjaaGreatDoorCxH
import Derived.Laws.StructEq
set_option linter.unusedVariables false
set_option linter.unusedSimpArgs false
set_option linter.unnecessarySimpa false
namespace Go.Cx
open Go.RowKit (Below)
section
variable {P : Program} {w0 : World} {σ : Sg} {hp : H} {n : Nat} {w : World} {fr : F} {ev : Operand → Value} {k : CV → Res} {φ : Out → Prop}

/-! ### Constants -/
theorem litCV1_R (v : Value) : VR σ (litCV1 v) v := by
  unfold litCV1
  split <;> simp only [VR, kc_kn]
  rename_i s
  congr 1
  apply ByteArray.ext
  show s.data = _
  rw [bys_ofBytes]
theorem litCVs_R : ∀ (l : List Value), VRs σ (litCVs l) l
  | [] => by simp only [litCVs, VRs]
  | v :: l => by simp only [litCVs, VRs]; exact ⟨v, l, rfl, litCV1_R v, litCVs_R l⟩
theorem litCV_R (v : Value) : VR σ (litCV v) v := by
  unfold litCV
  split
  · rename_i cs; simp only [VR]; exact ⟨cs.toList, litCVs_R _, by simp⟩
  · exact litCV1_R v
theorem zeroC_spec {t : Nat} {z : List CV} (h : zeroC P t = some z) : ∃ i zv, P.info? t = some i ∧ i.zero = some zv ∧ VRs σ z zv.cells.toList := by
  unfold zeroC at h
  split at h
  · rename_i i hi
    split at h
    · rename_i zv hz; cases h; exact ⟨i, zv, tyI_info hi, hz, litCVs_R _⟩
    · cases h
  · cases h
theorem cells_VR {c : CV} {v : Value} (hj : c ≠ .junk) (h : VR σ c v) : VRs σ (cellsOf c) v.cells.toList := by
  unfold cellsOf
  split
  · rename_i cs; simp only [VR] at h; obtain ⟨vs, h1, rfl⟩ := h; simpa [Value.cells] using h1
  · rename_i x hx
    have hc : v.cells = #[v] := by
      cases c <;> simp only [VR] at h
      all_goals first | exact absurd rfl hj | exact absurd rfl (hx _) | (subst h; rfl) | (obtain ⟨_, _, _, rfl⟩ := h; rfl) | (obtain ⟨_, _, rfl⟩ := h; rfl) | (obtain ⟨_, _, _, _, _, rfl, _⟩ := h; rfl) | (obtain ⟨_, _, _, _, rfl⟩ := h; rfl)
    rw [hc]; simp only [VRs]; exact ⟨v, [], rfl, h, rfl⟩

/-! ### Equality -/
theorem bbq_eq (a b : Bool) : bbq a b = (a == b) := by cases a <;> cases b <;> rfl
theorem Row.obj {p t : Nat} {vs : List Value} (h : Row w p t vs false) : ∃ arr ty, w.heap[p]? = some (.cells arr ty (0, 0)) := by
  obtain ⟨arr, ty, lo, hi, h1, _, _, h4⟩ := h
  rcases h4 with ⟨rfl, rfl⟩ | ⟨hc, _⟩
  · exact ⟨arr, ty, h1⟩
  · cases hc
set_option maxHeartbeats 2000000 in
theorem eqCell_sound (hR : Rel w0 σ hp n w) {t : Nat} {d : TypeDesc} (hd : P.underlying t = some d) {a b : CV} {va vb : Value} (ha : VR σ a va) (hb : VR σ b vb) {r : Bool}
    (h : eqCell hp P d a b = some r) (m : Nat) : (Op.equalIn (m + 1) t va vb).run P w = .ok r w := by
  unfold eqCell at h
  split at h
  · -- int
    rename_i kd
    split at h
    · rename_i k x j y
      simp only [VR] at ha hb; subst ha; subst hb
      obtain ⟨h1, h2⟩ := cbif h
      have := Nat.eq_of_beq_eq_true h1; subst this
      cases h2
      rw [run_equalIn_int w m t _ _ _ _ hd, ibq_iff]
    · cases h
  · split at h
    · simp only [VR] at ha hb; subst ha; subst hb; cases h
      rw [run_equalIn_bool w m t _ _ hd, bbq_eq]
    · cases h
  · split at h
    · simp only [VR] at ha hb; subst ha; subst hb; cases h
      rw [run_equalIn_string w m t _ _ hd, bys_beq, ba_toList, ba_toList]
    · cases h
  · -- pointers
    rename_i e
    split at h
    · simp only [VR] at ha hb; subst ha; subst hb; cases h
      simp [Op.equalIn, run_underlying hd]
    · simp only [VR] at ha hb; subst ha; obtain ⟨p, u, _, rfl⟩ := hb; cases h
      simp [Op.equalIn, run_underlying hd]
    · simp only [VR] at ha hb; subst hb; obtain ⟨p, u, _, rfl⟩ := ha; cases h
      simp [Op.equalIn, run_underlying hd]
    · rename_i b o b' o'
      split at h
      · rename_i sz hsz
        simp only [VR] at ha hb; obtain ⟨p, u, hs1, rfl⟩ := ha; obtain ⟨q, v, hs2, rfl⟩ := hb
        have e0 : (Op.equalIn (m + 1) t (.pointer (some ⟨p, o, none⟩)) (.pointer (some ⟨q, o', none⟩))).run P w = (sameAddr ⟨p, o, none⟩ ⟨q, o', none⟩).run P w := by
          simp [Op.equalIn, run_underlying hd, run_size hsz]
        rw [e0]
        cases hbb : Nat.beq b b'
        · rw [hbb] at h
          simp only [cond_false] at h
          have hne : b ≠ b' := fun e => by rw [e, Nat.beq_refl] at hbb; cases hbb
          split at h
          · rename_i c1 hc1
            split at h
            · rename_i c2 hc2
              cases h
              have g1 := hR.at hs1 hc1 (by simp)
              have g2 := hR.at hs2 hc2 (by simp)
              obtain ⟨v1, _, r1⟩ := g1
              obtain ⟨v2, _, r2⟩ := g2
              obtain ⟨a1, t1, o1⟩ := r1.obj
              obtain ⟨a2, t2, o2⟩ := r2.obj
              have hpq : p ≠ q := hR.apart b b' p u q v (hR.old _ _ _ hs1).1 (hR.old _ _ _ hs2).1 (by rw [hc1]; simp) (by rw [hc2]; simp) hne hs1 hs2
              exact run_sameAddr_other w (by intro e; cases e; exact hpq rfl) o1 o2
            · cases h
          · cases h
        · rw [hbb] at h
          have := Nat.eq_of_beq_eq_true hbb; subst this
          rw [hs1] at hs2; cases hs2
          cases h
          by_cases he : o = o'
          · subst he; rw [Nat.beq_refl, run_sameAddr_same]
          · have hf : Nat.beq o o' = false := by cases hq : Nat.beq o o'; rfl; exact absurd (Nat.eq_of_beq_eq_true hq) he
            rw [hf]; simp [sameAddr, he]
      · cases h
    · cases h
  · split at h
    · simp only [VR] at ha hb; subst ha; subst hb; cases h
      simp [Op.equalIn, run_underlying hd]
    · simp only [VR] at ha hb; subst ha; obtain ⟨p, u, o', c, _, rfl, _⟩ := hb; cases h
      simp [Op.equalIn, run_underlying hd]
    · simp only [VR] at ha hb; subst hb; obtain ⟨p, u, o', c, _, rfl, _⟩ := ha; cases h
      simp [Op.equalIn, run_underlying hd]
    · cases h
  · split at h
    · simp only [VR] at ha hb; subst ha; subst hb; cases h
      simp [Op.equalIn, run_underlying hd]
    · simp only [VR] at ha hb; subst ha; obtain ⟨p, u, _, rfl⟩ := hb; cases h
      simp [Op.equalIn, run_underlying hd]
    · simp only [VR] at ha hb; subst hb; obtain ⟨p, u, _, rfl⟩ := ha; cases h
      simp [Op.equalIn, run_underlying hd]
    · cases h
  · split at h
    · simp only [VR] at ha hb; subst ha; subst hb; cases h
      simp [Op.equalIn, run_underlying hd]
    · simp only [VR] at ha hb; subst ha; obtain ⟨_, _, _, _, rfl⟩ := hb; cases h
      simp [Op.equalIn, run_underlying hd]
    · simp only [VR] at ha hb; subst ha; obtain ⟨_, _, rfl⟩ := hb; cases h
      simp [Op.equalIn, run_underlying hd]
    · simp only [VR] at ha hb; subst ha; obtain ⟨_, _, _, rfl⟩ := hb; cases h
      simp [Op.equalIn, run_underlying hd]
    · simp only [VR] at ha hb; subst hb; obtain ⟨_, _, _, _, rfl⟩ := ha; cases h
      simp [Op.equalIn, run_underlying hd]
    · simp only [VR] at ha hb; subst hb; obtain ⟨_, _, rfl⟩ := ha; cases h
      simp [Op.equalIn, run_underlying hd]
    · simp only [VR] at ha hb; subst hb; obtain ⟨_, _, _, rfl⟩ := ha; cases h
      simp [Op.equalIn, run_underlying hd]
    · cases h
  · split at h
    · simp only [VR] at ha hb; subst ha; subst hb; cases h
      simp [Op.equalIn, run_underlying hd]
    · simp only [VR] at ha hb; subst ha; obtain ⟨_, _, rfl⟩ := hb; cases h
      simp [Op.equalIn, run_underlying hd]
    · simp only [VR] at ha hb; subst hb; obtain ⟨_, _, rfl⟩ := ha; cases h
      simp [Op.equalIn, run_underlying hd]
    · rename_i t1 x t2 y
      simp only [VR] at ha hb; obtain ⟨_, _, rfl⟩ := ha; obtain ⟨_, _, rfl⟩ := hb
      cases hq : Nat.beq t1 t2
      · rw [hq] at h; cases h
        have hne : t1 ≠ t2 := fun e => by rw [e, Nat.beq_refl] at hq; cases hq
        simp [Op.equalIn, run_underlying hd, hne]
      · rw [hq] at h; cases h
    · cases h
  · cases h
theorem part_one {t : Nat} {d : TypeDesc} (hd : P.underlying t = some d) (ha : isAg d = false) {vs : List Value} {o : Nat} {v : Value} (h : vs[o]? = some v) : (Go.part t vs.toArray o).run P w = .ok v w := by
  have e : Go.part t vs.toArray o = (isAgg t).bind (fun x => if x then ((sizeOf t).bind fun k => Sem.pure (Value.agg (vs.toArray.extract o (o + k)))) else match vs.toArray[o]? with | some v => Sem.pure v | none => stuck "part: no such cell") := by
    unfold Go.part; rfl
  rw [e, Sem.run_bind', run_isAg hd, ha]
  simp [Result.andThen, Sem.run, h]
theorem flatEq_sound (hR : Rel w0 σ hp n w) {x y : List CV} {vx vy : List Value} (hx : VRs σ x vx) (hy : VRs σ y vy) (m : Nat) : ∀ (fs : List Field) {r : Bool}, flatEq hp P x y fs = some r → (Op.eqFields (m + 1) vx.toArray vy.toArray fs).run P w = .ok r w
  | [], r, h => by cases h; rfl
  | f :: fs, r, h => by
    unfold flatEq at h
    cases hn : (f.name == "_")
    · rw [hn] at h; simp only [cond_false] at h
      have hne : f.name ≠ "_" := by simpa using hn
      split at h
      · rename_i d hd
        have hd := tyD_und hd
        cases hag : isAg d
        · rw [hag] at h; simp only [cond_false] at h
          split at h
          · rename_i a b hca hcb
            obtain ⟨va, g1, g2⟩ := hx.get hca
            obtain ⟨vb, g3, g4⟩ := hy.get hcb
            have p1 := part_one (P := P) (w := w) hd hag g1
            have p2 := part_one (P := P) (w := w) hd hag g3
            split at h
            · rename_i he
              have e1 := eqCell_sound hR hd g2 g4 he m
              simp [Op.eqFields, hne, p1, p2, e1, flatEq_sound hR hx hy m fs h]
            · rename_i he
              cases h
              have e1 := eqCell_sound hR hd g2 g4 he m
              simp [Op.eqFields, hne, p1, p2, e1]
            · cases h
          · cases h
        · rw [hag] at h; cases h
      · cases h
    · rw [hn] at h; cases h
theorem eqVal_sound (hR : Rel w0 σ hp n w) {t : Nat} {a b : CV} {va vb : Value} (ha : VR σ a va) (hb : VR σ b vb) {r : Bool} (h : eqVal P hp t a b = some r) :
    (Op.equal t va vb).run P w = .ok r w ∧ (∀ xs ys, va = .agg xs → vb = .agg ys → P.eqGuardType P.depth t = false) := by
  unfold eqVal at h
  split at h
  · rename_i d hd
    have hd := tyD_und hd
    split at h
    · rename_i fs _
      split at h
      · rename_i x y
        obtain ⟨hg, h⟩ := cbif h
        cases hs : P.stoodInHeld t
        · rw [hs] at hg; simp only [cond_false, Bool.not_eq_true'] at hg
          simp only [VR] at ha hb; obtain ⟨vx, g1, rfl⟩ := ha; obtain ⟨vy, g2, rfl⟩ := hb
          refine ⟨?_, fun _ _ _ _ => hg⟩
          have hf : P.underlying t = some (.struct (P.fieldsOf t)) := by
            have : P.fieldsOf t = fs := by simp [Program.fieldsOf, hd]
            rw [this]; exact hd
          have hff : P.fieldsOf t = fs := by simp [Program.fieldsOf, hd]
          show (Op.equalIn (9999 + 1) t _ _).run P w = _
          rw [run_equalIn_struct w 9999 t _ _ hf hs, hff]
          exact flatEq_sound hR g1 g2 9998 _ h
        · rw [hs] at hg; cases hg
      · cases h
    · rename_i hns
      refine ⟨eqCell_sound hR hd ha hb h 9999, fun xs ys e1 e2 => ?_⟩
      subst e1
      exfalso
      cases a <;> simp only [VR] at ha
      all_goals first | (cases ha; done) | (obtain ⟨_, _, _, hc⟩ := ha; cases hc; done) | (obtain ⟨_, _, hc⟩ := ha; cases hc; done) | (obtain ⟨_, _, _, _, _, hc, _⟩ := ha; cases hc; done) | (obtain ⟨_, _, _, _, hc⟩ := ha; cases hc; done) | skip
      all_goals (unfold eqCell at h; cases d <;> simp at h)
  · cases h
theorem eqVal_junk {t : Nat} {a b : CV} {r : Bool} (h : eqVal P hp t a b = some r) : a ≠ .junk ∧ b ≠ .junk := by
  unfold eqVal at h
  split at h
  · rename_i d hd
    split at h
    · split at h
      · exact ⟨by simp, by simp⟩
      · cases h
    · constructor
      · rintro rfl; unfold eqCell at h; cases d <;> simp at h
      · rintro rfl; unfold eqCell at h; cases d <;> cases a <;> simp at h
  · cases h
theorem nili_of {a : CV} (hj : a ≠ .junk) (ha : VR σ a .nilIface) : a = .nili := by
  cases a <;> simp only [VR] at ha
  all_goals first | rfl | exact absurd rfl hj | (cases ha; done) | (obtain ⟨_, _, _, hc⟩ := ha; cases hc; done) | (obtain ⟨_, _, hc⟩ := ha; cases hc; done) | (obtain ⟨_, _, _, _, _, hc, _⟩ := ha; cases hc; done) | (obtain ⟨_, _, _, _, hc⟩ := ha; cases hc; done)
theorem guard_nil {op : BinOp} {t : Nat} {x y : Operand} (h : isConst x = true ∨ isConst y = true) : (eqGuard op t x y .nilIface .nilIface).run P w = .ok () w := by
  cases op <;> try rfl
  all_goals (cases x <;> cases y <;> first | rfl | (exfalso; rcases h with h | h <;> cases h))
theorem guard_ok (hR : Rel w0 σ hp n w) {op : BinOp} {t : Nat} {x y : Operand} {a b : CV} {va vb : Value} (ha : VR σ a va) (hb : VR σ b vb) {r : Bool} (h : eqVal P hp t a b = some r) (ht : twoNil x y a b = false) :
    (eqGuard op t x y va vb).run P w = .ok () w := by
  have hg := (eqVal_sound hR ha hb h).2
  obtain ⟨j1, j2⟩ := eqVal_junk h
  by_cases h1 : va = .nilIface ∧ vb = .nilIface
  · obtain ⟨rfl, rfl⟩ := h1
    have := nili_of j1 ha; subst this
    have := nili_of j2 hb; subst this
    refine guard_nil ?_
    unfold twoNil at ht
    cases hx : isConst x
    · rw [hx] at ht; simp only [cond_false] at ht; right; simpa using ht
    · exact .inl rfl
  · by_cases h2 : (∃ xs, va = .agg xs) ∧ (∃ ys, vb = .agg ys)
    · obtain ⟨⟨xs, rfl⟩, ⟨ys, rfl⟩⟩ := h2
      exact run_eqGuard_agg w _ t x y _ _ (hg _ _ rfl rfl)
    · cases op <;> try rfl
      all_goals
        cases va <;> cases vb <;> first | rfl | exact absurd ⟨rfl, rfl⟩ h1 | exact absurd ⟨⟨_, rfl⟩, ⟨_, rfl⟩⟩ h2
theorem binOp_eqd {t : Nat} {va vb : Value} (h : ∀ i j x y, va = .int i x → vb = .int j y → False) (h2 : ∀ x y, va = .string x → vb = .string y → False)
    (h3 : ∀ i j x y, va = .float i x → vb = .float j y → False) (h4 : ∀ i j x y z u, va = .complex i x z → vb = .complex j y u → False) :
    binOp .eql t va vb = (do pure (.bool (← Op.equal t va vb))) ∧ binOp .neq t va vb = (do pure (.bool (!(← Op.equal t va vb)))) := by
  cases va <;> cases vb <;> first | exact ⟨rfl, rfl⟩ | exact (h _ _ _ _ rfl rfl).elim | exact (h2 _ _ rfl rfl).elim | exact (h3 _ _ _ _ rfl rfl).elim | exact (h4 _ _ _ _ _ _ rfl rfl).elim
end
end Go.Cx
