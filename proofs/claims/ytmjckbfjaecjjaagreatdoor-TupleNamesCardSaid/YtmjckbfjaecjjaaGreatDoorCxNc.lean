/- Regions that draw their order: that the run holds for every order. -/
import Derived.Test.YtmjckbfjaecjjaaGreatDoorCxNb
set_option linter.unusedVariables false
set_option linter.unusedSimpArgs false
set_option linter.unnecessarySimpa false
namespace Go.Cx
open Go.RowKit (Below)
section
variable {P : Program} {w0 : World} {φ : Out → Prop} {ctrs : List (Nat × Option Cn)} {bd rd : Nat → Cn} {ro : Option Nat}
/-- It never answers. -/
def Nv {α : Type} (P : Program) (s : Sem α) : Prop := ∀ w v w', s.run P w ≠ .ok v w'
theorem Nv.left {α β : Type} {s : Sem α} {f : α → Sem β} (h : Nv P s) : Nv P (s >>= f) := by
  intro w u w' e
  rw [Sem.run_bind] at e
  cases hr : s.run P w with
  | ok v w1 => exact h _ _ _ hr
  | halt x w1 => rw [hr] at e; cases e
theorem Nv.right {α β : Type} {s : Sem α} {f : α → Sem β} (h : ∀ v, Nv P (f v)) : Nv P (s >>= f) := by
  intro w u w' e
  rw [Sem.run_bind] at e
  cases hr : s.run P w with
  | ok v w1 => rw [hr] at e; exact h _ _ _ _ e
  | halt x w1 => rw [hr] at e; cases e
theorem Nv.panic {α : Type} (v : Value) : Nv P (goPanic v : Sem α) := fun w v w' e => by simp [goPanic, Sem.run] at e
theorem Nv.stuck {α : Type} (m : String) : Nv P (Go.stuck m : Sem α) := fun w v w' e => by simp [Go.stuck, Sem.run] at e
theorem Nv.uns {α : Type} (m : Unsupported) : Nv P (unsupported m : Sem α) := fun w v w' e => by simp [unsupported, Sem.run] at e
theorem Nv.rp {α : Type} (e : RuntimeError) : Nv P (runtimePanic e : Sem α) := by
  unfold runtimePanic
  refine .right fun p => ?_
  cases e <;> first | exact .panic _ | exact .right fun _ => .panic _ | exact .right fun _ => .right fun _ => .panic _ | exact .right fun _ => .right fun _ => .right fun _ => .panic _
/-- Where it answers, it answers so in whatever memory, and leaves it as it is. -/
def Cm {α : Type} (P : Program) (s : Sem α) : Prop := ∀ w v w1, s.run P w = .ok v w1 → w1 = w ∧ ∀ w', s.run P w' = .ok v w'
theorem Cm.pure {α : Type} (v : α) : Cm P (Pure.pure v : Sem α) := fun w u w1 h => by cases h; exact ⟨rfl, fun _ => rfl⟩
theorem Cm.bind {α β : Type} {s : Sem α} {f : α → Sem β} (h : Cm P s) (k : ∀ v, Cm P (f v)) : Cm P (s >>= f) := by
  intro w u w1 e
  rw [Sem.run_bind] at e
  cases hr : s.run P w with
  | ok v w2 =>
    rw [hr] at e
    obtain ⟨rfl, h2⟩ := h _ _ _ hr
    obtain ⟨h3, h4⟩ := k v _ _ _ e
    exact ⟨h3, fun w' => by rw [Sem.run_bind, h2, Result.andThen_ok, h4]⟩
  | halt x w2 => rw [hr] at e; cases e
theorem Cm.program : Cm P program := fun w v w1 h => by
  rw [run_program] at h; cases h; exact ⟨rfl, fun w' => run_program P w'⟩
theorem Cm.never {α : Type} {s : Sem α} (h : Nv P s) : Cm P s := fun w v w1 e => absurd e (h _ _ _)
theorem Cm.info (t : TypeId) : Cm P (typeInfo t) := by
  unfold typeInfo
  refine .bind .program fun p => ?_
  split
  · exact .pure _
  · exact .never (.stuck _)
theorem Cm.und (t : TypeId) : Cm P (underlying t) := by
  unfold underlying
  refine .bind .program fun p => ?_
  split
  · exact .pure _
  · exact .never (.stuck _)
theorem Cm.size (t : TypeId) : Cm P (sizeOf t) := .bind (.info t) fun _ => .pure _
theorem Cm.intOf (v : Value) : Cm P (asIntOf v) := by
  unfold asIntOf
  split
  · exact .pure _
  · exact .never (.uns _)
  · exact .never (.stuck _)
theorem Cm.bound (x : Value) (y : Nat) (c : BoundsCode) : Cm P (Instr.sliceBound x y c) := by
  unfold Instr.sliceBound
  refine .bind (.intOf x) fun p => ?_
  obtain ⟨k, i⟩ := p
  simp only
  split
  · exact .pure _
  · unfold boundsPanic
    refine .never ?_
    simp only
    split
    · exact .right fun _ => .rp _
    · exact .right fun _ => .rp _
theorem Cm.bounds (b : Bool) (len cap : Nat) (lo hi mx : Option Value) : Cm P (Instr.sliceBounds b len cap lo hi mx) := by
  unfold Instr.sliceBounds
  cases mx <;> cases hi <;> cases lo <;> dsimp only <;>
    repeat first | exact .pure _ | exact .never (.stuck _) | exact .never (.left (.stuck _)) | refine .bind (.bound _ _ _) fun _ => ?_ | refine .bind (.pure _) fun _ => ?_
theorem Cm.addr (x : Value) : Cm P (Instr.sureAddr x) := by
  unfold Instr.sureAddr
  split
  · exact .pure _
  · exact .never (.stuck _)
theorem Cm.asAddr (x : Value) : Cm P (Go.asAddr x) := by
  unfold Go.asAddr
  split <;> first | exact .pure _ | exact .never (.stuck _) | exact .never (.rp _) | exact .never (.uns _)
theorem Cm.slice (t : TypeId) (x : Value) (lo hi mx : Option Value) : Cm P (Instr.sliceAt t x lo hi mx) := by
  unfold Instr.sliceAt
  refine .bind (.und t) fun d => ?_
  split
  · exact .bind (.addr x) fun a => .bind (.bounds _ _ _ _ _ _) fun p => .bind (.size _) fun z => .pure _
  · unfold Instr.slice
    refine .bind (.und t) fun d => ?_
    split
    · split
      · exact .never (.left (.stuck _))
      · exact .bind (.bounds _ _ _ _ _ _) fun ⟨_, _, _⟩ => .pure _
    · exact .bind (.bounds _ _ _ _ _ _) fun p => .bind (.size _) fun z => .pure _
    · refine .bind (.asAddr x) fun a => .bind (.und _) fun d => ?_
      split
      · exact .bind (.bounds _ _ _ _ _ _) fun p => .bind (.size _) fun z => .pure _
      · exact .never (.stuck _)
    · exact .never (.stuck _)
theorem pureOp_all {o : Oper} (h : pureOp o.op = true) {ev : Operand → Value} {v : Value} {w : World} (hr : (execOp ev o).run P w = .ok (.value v) w) (w' : World) : (execOp ev o).run P w' = .ok (.value v) w' := by
  have hc : Cm P (execOp ev o) := by
    unfold pureOp at h
    unfold execOp
    split at h
    · rename_i x e; rw [e]; exact .pure _
    · rename_i x e; rw [e]; exact .pure _
    · rename_i t x lo hi mx e; rw [e]; exact .bind (.slice _ _ _ _ _) fun _ => .pure _
    · cases h
  exact (hc _ _ _ hr).2 w'
/-- An operation that answers so in whatever memory. -/
def PureS (P : Program) (s : Say) : Prop := ∀ w, (execOp s.ev s.o).run P w = .ok (.value s.v) w
def RecR (σ : Sg) (r : Rec) (s : Say) : Prop := r.i = s.i ∧ r.o = s.o ∧ (∀ x, VR σ (lk r.fr x) (s.ev x)) ∧ VR σ r.v s.v
theorem RecR.mono {σ τ : Sg} (h : Le σ τ) {r : Rec} {s : Say} (k : RecR σ r s) : RecR τ r s := ⟨k.1, k.2.1, fun x => (k.2.2.1 x).mono h, k.2.2.2.mono h⟩
theorem recOk_sound {σ : Sg} {hp : H} {n : Nat} {w : World} (hR : Rel w0 σ hp n w) {r : Rec} {s : Say} (hr : RecR σ r s) (h : recOk P hp r = true) : (execOp s.ev s.o).run P w = .ok (.value s.v) w := by
  obtain ⟨h1, h2, h3, h4⟩ := hr
  unfold recOk at h
  obtain ⟨hd, h⟩ := bif_t h
  split at h
  · rename_i hq
    have hg : Good (qev P r.fr hp r.o.op (fun v => bif CV.bq r.v v then some [] else none)) (fun _ => True) := ⟨[], hq, fun _ _ => trivial⟩
    obtain ⟨c, v, g1, g2, g3⟩ := qev_sound (o := r.o) hR h3 hg
    obtain ⟨g4, _⟩ := g3.bif
    have := CV.bq_t g4; subst this
    rw [← h2, g1, VR_det hd g2 h4]
  · cases h
theorem drawR_sound (hC : CsOk P w0 ctrs bd rd) {ops : Array Oper} {n0 : Nat} {k : F → H → Nat → Res} {Q : Exit → Act → World → Prop} (hns : Region.noSelect ops = true) (hnd : ∀ (j : Nat) (o : Oper) c, ops[j]? = some o → o.op ≠ .defer c) (hQp : ∀ c a w, ¬ Q (.panic c) a w) :
    ∀ (fuel : Nat) (listed : Array Bool) (rs : List (Nat × Nat)) (recs : List Rec) (σ : Sg) (hp : H) (n : Nat) (fr : F) (X : Nat → Prop) (R : List Say) (kk : Nat) (a : Act) (w : World),
      Rel w0 σ hp n w → FrR σ fr a → RoOk ro fr → Inv ops n0 listed rs σ n → Closed ops listed → (∀ j, X j → listed.getD j true = true) →
      (∀ s ∈ R, Valid ops X listed s → PureS P s ∨ ∃ r ∈ recs, RecR σ r s) → TR P ops X R listed w → left listed ≤ kk → Good (drawR P ctrs bd rd ops n0 fuel listed rs recs fr hp n k) φ →
      (∀ σ' fr' hp' n' a' w', Rel w0 σ' hp' n' w' → FrR σ' fr' a' → RoOk ro fr' → Le σ σ' → (∀ i, ¬ (n0 ≤ i ∧ i < limN n) → σ' i = σ i) → Nle n n' → Good (k fr' hp' n') φ → Q .normal a' w') → wpAnyS P ro ops Q (TR P ops X R) kk listed a w := by
  intro fuel
  induction fuel with
  | zero => intro listed rs recs σ hp n fr X R kk a w _ _ _ _ _ _ _ _ _ h _; exact h.no.elim
  | succ fuel ih =>
    intro listed rs recs σ hp n fr X R kk a w hR hF hro hI hc hX hrel hT hk h hK
    simp only [drawR] at h
    split at h
    · rename_i hr
      exact wpAnyS_done hr (hK σ fr hp n a w hR hF hro (Le.refl _) (fun _ _ => rfl) (Nle.refl _) h) kk
    · rename_i i0 rest hready
      have hro' : ∀ d c, RoOk ro (putD fr d c) := fun d c => by
        rcases hro with h | h
        · exact .inl h
        · exact .inr (by rw [dfs_putD hF]; exact h)
      split at h
      · -- a quiet one is taken first
        rename_i i o hfq
        obtain ⟨hmem, hi⟩ := firstQuiet_spec hfq
        rw [nthL_eq, Array.getElem?_toList] at hi
        have hir : i ∈ Region.ready .any ops listed := by rw [hready]; exact hmem
        have hil := (mem_ready.1 hir).1
        obtain ⟨hfree, h⟩ := h.bif
        obtain ⟨k', rfl⟩ : ∃ k', kk = k' + 1 := ⟨kk - 1, by have := left_set hil; omega⟩
        have hk' : left (listed.setIfInBounds i true) ≤ k' := by have := left_set hil; omega
        have hX' : ∀ j, (X j ∨ j = i) → (listed.setIfInBounds i true).getD j true = true := by
          rintro j (hj | rfl)
          · by_cases hij : i = j
            · subst hij; exact getD_set_self hil _
            · rw [getD_set_ne true hij]; exact hX j hj
          · exact getD_set_self hil _
        have mono : ∀ R', (∀ s ∈ R, s ∈ R') → ∀ l w, TR P ops (fun j => X j ∨ j = i) R' l w → TR P ops X R l w := fun R' hsub l w hT' s hs hv =>
          hT' s (hsub s hs) fun j o' hj hx hlj => hv j o' hj (fun h' => hx (.inl h')) hlj
        have core : ∀ (R' : List Say) (v : Value) , (∀ s ∈ R, s ∈ R') → YieldsT P ops (TR P ops (fun j => X j ∨ j = i) R') i o v a → TR P ops (fun j => X j ∨ j = i) R' listed w →
            wpAnyS P ro ops Q (TR P ops (fun j => X j ∨ j = i) R') k' (listed.setIfInBounds i true) (a.put o.dst v) w → wpAnyS P ro ops Q (TR P ops X R) (k' + 1) listed a w := by
          intro R' v hsub hy hTl hrest
          refine wpAnyS_mono (mono R' hsub) _ _ _ _ ?_
          refine wpAnyS_first hi (Region.noSelect_spec hns) hnd (fun c a w h' => absurd h' (hQp c _ w)) ?_ k' listed a w hc (Region.free_spec hi hfree) hir hy hTl ?_ hrest
          · intro l w hTl s hs hv; exact hTl s hs (valid_setX' hv)
          · intro s hs hv; exact hTl s hs (valid_setX hv)
        have hT1 : TR P ops (fun j => X j ∨ j = i) R listed w := fun s hs hv => hT s hs (valid_drop hil hv)
        have hrel1 : ∀ s ∈ R, Valid ops (fun j => X j ∨ j = i) (listed.setIfInBounds i true) s → PureS P s ∨ ∃ r ∈ recs, RecR σ r s := fun s hs hv => hrel s hs (valid_drop hil (valid_setX hv))
        have hg := guard_sound hF ops o
        split at h
        · rename_i he
          have hw := hg.1 he
          obtain ⟨c, x, hrun, hx, hk2⟩ := qev_sound (o := o) hR (lk_R hF) h
          refine core (⟨i, o, a.eval, x⟩ :: R) x (fun s hs => List.mem_cons_of_mem _ hs) ?_ ?_ ?_
          · refine .inl ⟨hw, fun l w hcl hli hTl => hTl ⟨i, o, a.eval, x⟩ List.mem_cons_self ?_⟩
            intro j o' hj hx' hlj
            cases hwt : waits o' i
            · rfl
            · exfalso
              obtain ⟨e, he, hbe⟩ := Array.any_eq_true'.1 hwt
              simp only [Bool.and_eq_true, beq_iff_eq] at hbe
              have := hcl j o' hj hlj e he hbe.1
              rw [hbe.2] at this
              have hlt := getD_lt hli
              simp [hlt] at this hli
              rw [hli] at this; cases this
          · intro s hs hv'
            rcases List.mem_cons.1 hs with rfl | hs
            · exact hrun
            · exact hT1 s hs hv'
          · refine ih _ _ _ _ _ _ _ _ _ k' _ w hR (hF.put hx) (hro' _ _) (hI.less i) (hc.set hir) hX' ?_ ?_ hk' hk2 hK
            · intro s hs hv'
              rcases List.mem_cons.1 hs with rfl | hs
              · cases hp : pureOp o.op
                · exact .inr ⟨_, List.mem_cons_self, rfl, rfl, lk_R hF, hx⟩
                · exact .inl fun w' => pureOp_all hp hrun w'
              · rcases hrel1 s hs hv' with hp | ⟨r, hr, hrd⟩
                · exact .inl hp
                · refine .inr ⟨r, ?_, hrd⟩
                  cases pureOp o.op
                  · exact List.mem_cons_of_mem _ hr
                  · exact hr
            · intro s hs hv'
              rcases List.mem_cons.1 hs with rfl | hs
              · exact hrun
              · exact hT1 s hs (valid_setX hv')
        · rename_i he
          refine core R undef (fun s hs => hs) (.inr ⟨hg.2 he, rfl⟩) hT1 ?_
          exact ih _ _ _ _ _ _ _ _ _ k' _ w hR (hF.put VR_unit) (hro' _ _) (hI.less i) (hc.set hir) hX' hrel1 (fun s hs hv => hT1 s hs (valid_setX hv)) hk' h hK
        · exact h.no.elim
      · -- loud ones: whichever comes
        have hir0 : i0 ∈ Region.ready .any ops listed := by rw [hready]; exact List.mem_cons_self
        have hil0 := (mem_ready.1 hir0).1
        obtain ⟨k', rfl⟩ : ∃ k', kk = k' + 1 := ⟨kk - 1, by have := left_set hil0; omega⟩
        -- the names for calls
        have hgp : ∀ g, (bif twoCalls ops.toList 0 (i0 :: rest) then giveR ops.toList (i0 :: rest) rs n else (rs, n)) = g → limN g.2 = limN n → idN g.2 ≤ limN g.2 → Inv ops n0 listed g.1 σ g.2 ∧ n ≤ g.2 := by
          rintro g rfl
          cases twoCalls ops.toList 0 (i0 :: rest)
          · exact fun _ _ => ⟨hI, Nat.le_refl _⟩
          · exact fun e1 e2 => ⟨giveR_sound _ _ _ hI e1 (fun x h1 h2 => hR.fresh x h1 (by simp only [cond_true] at e1 e2; omega)), giveR_le _ _ _ _⟩
        generalize hgg : (bif twoCalls ops.toList 0 (i0 :: rest) then giveR ops.toList (i0 :: rest) rs n else (rs, n)) = g at h
        have hgp := hgp g hgg
        obtain ⟨rs', m⟩ := g
        simp only at h hgp
        obtain ⟨hcond, h⟩ := h.bif
        obtain ⟨c1, c2⟩ := bif_t hcond
        have hhi := Nat.le_of_ble_eq_true c1
        have c2 := nbq c2
        obtain ⟨hIm, i2⟩ := hgp c2 hhi
        have hnm : Nle n m := ⟨by unfold idN limN at *; omega, c2⟩
        have hRm : Rel w0 σ hp m w := hR.weak (fun _ => .inl rfl) hnm
        refine ⟨fun h0 => (by rw [h0] at hir0; cases hir0), fun j hj => ?_⟩
        have hil := (mem_ready.1 hj).1
        have hir := hj
        have hk' : left (listed.setIfInBounds j true) ≤ k' := by have := left_set hil; omega
        rw [hready] at hj
        have h := eachI_good h j hj
        split at h
        · rename_i o hi
          rw [nthL_eq, Array.getElem?_toList] at hi
          have hg := guard_sound hF ops o
          split at h
          · rename_i he
            have hw := hg.1 he
            unfold Go.wpOpIn
            simp only [hi, hw, if_true]
            obtain ⟨ns, ks, hl, hgo⟩ := levA_sound hC hIm hhi hRm (lk_R hF) hi hil h
            refine Leads.wpIn (fun c => hnd j o c hi) hl (fun v w' hv => ?_)
            obtain ⟨c, hp', n', σ', hv', hR', hle, hex, hn', hI', hk2⟩ := hgo v w' hv
            simp only at hk2
            obtain ⟨hall, hk2⟩ := hk2.bif
            have hrel2 : ∀ s ∈ R, Valid ops X (listed.setIfInBounds j true) s → PureS P s ∨ ∃ r ∈ recs.filter (fun r => !(waits o r.i)), RecR σ' r s := by
              intro s hs hv
              rcases hrel s hs (valid_anti hil hv) with hp | ⟨r, hr, hrd⟩
              · exact .inl hp
              refine .inr ⟨r, List.mem_filter.2 ⟨hr, ?_⟩, hrd.mono hle⟩
              have := hv j o hi (fun hx => by have := hX j hx; rw [hil] at this; cases this) (getD_set_self hil _)
              rw [hrd.1, this]; rfl
            have hT2 : TR P ops X R (listed.setIfInBounds j true) w' := by
              intro s hs hv
              rcases hrel2 s hs hv with hp | ⟨r, hr, hrd⟩
              · exact hp _
              · exact recOk_sound hR' hrd (List.all_eq_true.1 hall r hr)
            have hF' := hF.mono hle
            refine ⟨hT2, ih _ _ _ _ _ _ _ X R k' _ w' hR' (hF'.put hv') (hro' _ _) hI' (hc.set hir) ?_ hrel2 hT2 hk' hk2 ?_⟩
            · intro j' hj'
              by_cases hij : j = j'
              · subst hij; exact getD_set_self hil _
              · rw [getD_set_ne true hij]; exact hX j' hj'
            · intro σ2 fr2 hp2 n2 a2 w2 r1 r2 r3 r4 r5 r6 r7
              refine hK _ _ _ _ _ _ r1 r2 r3 (hle.trans r4) (fun i hi => ?_) ((hnm.trans hn').trans r6) r7
              have e1 : limN n' = limN n := by rw [hn'.2, hnm.2]
              rw [r5 i (by rw [e1]; exact hi), hex i (by rw [hnm.2]; exact hi)]
          · exact h.no.elim
        · exact h.no.elim
end
end Go.Cx
