/- Regions that draw their order: that the symbolic run holds for every order. -/
import Derived.Test.YtmjonggabppgaaaEngQ
set_option linter.unusedSimpArgs false
set_option linter.unusedVariables false
namespace Go.Eng
open Go.RowKit (Below)

section
variable {G : Type} (S : Sig G) (w0 : World) (F : HProp) {P : Program} {C : Cx}

/-- What a record says. -/
structure Say where
  i : Nat
  o : Oper
  ev : Operand → Value
  v : Value
/-- No operation that was carried out, other than the ones taken first, waits for this one. -/
def Valid (ops : Array Oper) (X : Nat → Prop) (l : Array Bool) (s : Say) : Prop :=
  ∀ j o, ops[j]? = some o → ¬ X j → l.getD j true = true → waits o s.i = false
def TR (P : Program) (ops : Array Oper) (X : Nat → Prop) (R : List Say) (l : Array Bool) (w : World) : Prop :=
  ∀ s ∈ R, Valid ops X l s → (execOp s.ev s.o).run P w = .ok (.value s.v) w
def RecDen (ρ : Env G) (r : Rec) (s : Say) : Prop := r.i = s.i ∧ r.o = s.o ∧ (∀ x, (lkA r.L x).R S ρ (s.ev x)) ∧ r.v.R S ρ s.v
def Rels (ops : Array Oper) (X : Nat → Prop) (ρ : Env G) (listed : Array Bool) (recs : List Rec) (R : List Say) : Prop :=
  ∀ s ∈ R, Valid ops X listed s → ∃ r ∈ recs, RecDen S ρ r s

theorem same_den {ρ : Env G} {a b : SV} (h : SV.same a b = true) : a.isJunk = false ∧ b.isJunk = false ∧ a.den S ρ = b.den S ρ := by
  cases a with
  | junk => cases b <;> cases h
  | one c => have := SV.bq_eq (a := .one c) h; subst this; exact ⟨rfl, rfl, rfl⟩
  | agg c => have := SV.bq_eq (a := .agg c) h; subst this; exact ⟨rfl, rfl, rfl⟩
  | tup x =>
    cases b with
    | tup y =>
      simp only [SV.same] at h
      split at h
      · rename_i heq
        exact ⟨rfl, rfl, (eqTs_sound S ρ (asm := []) (by simp) heq (by simp)).1⟩
      · cases h
    | junk => cases h
    | one c => cases h
    | agg c => cases h
theorem assoc_mem {α : Type} : ∀ {l : List (Nat × α)} {i : Nat} {x : α}, assoc l i = some x → (i, x) ∈ l
  | [], _, _, h => by cases h
  | (j, y) :: l, i, x, h => by
    simp only [assoc] at h
    cases hq : Nat.beq j i
    · first
        | (rw [hq] at h; exact List.mem_cons_of_mem _ (assoc_mem h))
        | (rw [show Nat.beq i j = false by cases h' : Nat.beq i j; rfl; rw [Nat.eq_of_beq_eq_true h'] at hq; simp at hq] at h; exact List.mem_cons_of_mem _ (assoc_mem h))
    · have := Nat.eq_of_beq_eq_true hq
      subst this
      rw [hq] at h; cases h; exact List.mem_cons_self
theorem lkA_ext {n : Nat} {ρ ρ' : Env G} (h : Ext n ρ ρ') {L : List (Nat × SV)} (hl : L.all (fun p => p.2.lt n) = true) {x : Operand} {v : Value} (hv : (lkA L x).R S ρ v) : (lkA L x).R S ρ' v := by
  cases x with
  | tmp t =>
    simp only [lkA] at *
    split at hv
    · rename_i sv hs
      have hm : (t, sv) ∈ L := assoc_mem hs
      have := List.all_eq_true.1 hl _ hm
      rcases hv with hv | hv
      · exact .inl hv
      · exact .inr (by rw [SV.den_ext S h this]; exact hv)
    · exact .inl rfl
  | const c =>
    have h1 := litSV_R S ρ c
    have h2 := litSV_R S ρ' c
    rcases hv with hv | hv
    · exact .inl hv
    · rcases h1 with h1 | h1
      · exact .inl h1
      · have : v = c := by rw [h1]; exact hv
        subst this; exact h2
  | global g => exact hv.imp id fun h' => h'
  | func f => exact hv.imp id fun h' => h'
theorem snap_R {ρ : Env G} {fr : List SV} {a : Act} (h : FrR S ρ fr a.tmps.toList) (o : Op) (x : Operand) : (lkA (snap fr o) x).R S ρ (a.eval x) := by
  have hx := lk_eval S h x
  cases x with
  | tmp t =>
    simp only [lkA]
    split
    · rename_i sv hs
      have hm := assoc_mem hs
      unfold snap at hm
      obtain ⟨y, _, hy⟩ := List.mem_filterMap.1 hm
      cases y <;> simp at hy
      obtain ⟨rfl, rfl⟩ := hy
      exact hx
    · exact .inl rfl
  | const c => exact hx
  | global g => exact hx
  | func f => exact hx

theorem firstQuiet_spec {fr : List SV} {ops : Array Oper} : ∀ {l : List Nat} {i : Nat} {o : Oper}, firstQuiet P fr ops l = some (i, o) → i ∈ l ∧ ops[i]? = some o
  | [], _, _, h => nomatch h
  | j :: l, i, o, h => by
    simp only [firstQuiet] at h
    split at h
    · rename_i o' ho
      cases hq : quietAt P fr ops o'
      · rw [hq] at h; have := firstQuiet_spec h; exact ⟨List.mem_cons_of_mem _ this.1, this.2⟩
      · rw [hq] at h; cases h; exact ⟨List.mem_cons_self, ho⟩
    · cases h

/-- How many have not been carried out. -/
def left (listed : Array Bool) : Nat := listed.toList.countP (· == false)
theorem left_set {l : Array Bool} {i : Nat} (h : l.getD i true = false) : left (l.setIfInBounds i true) + 1 = left l := by
  unfold left
  rw [Array.toList_setIfInBounds]
  rw [Array.getD_eq_getD_getElem?, ← Array.getElem?_toList] at h
  revert h
  generalize l.toList = m
  intro h
  induction m generalizing i with
  | nil => simp at h
  | cons b m ih =>
    cases i with
    | zero => simp at h; subst h; simp
    | succ i =>
      have := ih (i := i) (by simpa using h)
      simp only [List.set_cons_succ, List.countP_cons]
      omega
theorem left_zero {ops : Array Oper} {l : Array Bool} (h : left l = 0) : Region.ready .any ops l = [] := by
  apply List.eq_nil_iff_forall_not_mem.2
  intro i hi
  have := left_set (mem_ready.1 hi).1
  omega
theorem getD_lt {l : Array Bool} {i : Nat} (h : l.getD i true = false) : i < l.size := by
  rcases Nat.lt_or_ge i l.size with h' | h'
  · exact h'
  · simp [Array.getElem?_eq_none h'] at h
theorem getD_set_self {l : Array Bool} {i : Nat} (h : l.getD i true = false) (d : Bool) : (l.setIfInBounds i true).getD i d = true := by
  simp [getD_lt h]

theorem wpAnyS_done {ops : Array Oper} {Q : Exit → Act → World → Prop} {T : Array Bool → World → Prop} {listed : Array Bool} {a : Act} {w : World} (hr : Region.ready .any ops listed = []) (h : Q .normal a w) : ∀ k, wpAnyS P ops Q T k listed a w
  | 0 => ⟨hr, h⟩
  | k + 1 => ⟨fun _ => h, by rw [hr]; simp⟩

theorem valid_anti {ops : Array Oper} {X : Nat → Prop} {l : Array Bool} {i : Nat} {s : Say} (hl : l.getD i true = false) (h : Valid ops X (l.setIfInBounds i true) s) : Valid ops X l s := by
  intro j o hj hx hlj
  refine h j o hj hx ?_
  by_cases hij : i = j
  · subst hij; exact getD_set_self hl _
  · rw [getD_set_ne true hij]; exact hlj
theorem valid_drop {ops : Array Oper} {X : Nat → Prop} {l : Array Bool} {i : Nat} {s : Say} (hl : l.getD i true = false) (h : Valid ops (fun j => X j ∨ j = i) l s) : Valid ops X l s := by
  intro j o hj hx hlj
  refine h j o hj (fun h' => ?_) hlj
  rcases h' with h' | rfl
  · exact hx h'
  · rw [hl] at hlj; cases hlj
theorem valid_setX {ops : Array Oper} {X : Nat → Prop} {l : Array Bool} {i : Nat} {s : Say} (h : Valid ops (fun j => X j ∨ j = i) (l.setIfInBounds i true) s) : Valid ops (fun j => X j ∨ j = i) l s := by
  intro j o hj hx hlj
  have hij : i ≠ j := fun h' => hx (.inr h'.symm)
  exact h j o hj hx (by rw [getD_set_ne true hij]; exact hlj)
theorem valid_setX' {ops : Array Oper} {X : Nat → Prop} {l : Array Bool} {i : Nat} {s : Say} (h : Valid ops (fun j => X j ∨ j = i) l s) : Valid ops (fun j => X j ∨ j = i) (l.setIfInBounds i true) s := by
  intro j o hj hx hlj
  have hij : i ≠ j := fun h' => hx (.inr h'.symm)
  exact h j o hj hx (by rw [getD_set_ne true hij] at hlj; exact hlj)

theorem conj_den {ρ : Env G} : ∀ {l : List VC}, (VC.conj l).den S ρ → ∀ v ∈ l, v.den S ρ
  | [], _, v, hv => nomatch hv
  | [a], h, v, hv => by rw [List.mem_singleton] at hv; subst hv; exact h
  | a :: b :: l, h, v, hv => by
    obtain ⟨h1, h2⟩ := h
    rcases List.mem_cons.1 hv with rfl | hv
    · exact h1
    · exact conj_den (l := b :: l) h2 v hv
theorem firstAsk_spec {ρ : Env G} {fr : List SV} {a : Act} (hfr : FrR S ρ fr a.tmps.toList) {ops : Array Oper} {d : Nat} {e : SX} {want : Bool} : ∀ {l : List Nat}, firstAsk fr ops l = some (d, e, want) → getSV fr d = .one (.bool e) ∧ True
  | [], h => nomatch h
  | i :: l, h => by
    simp only [firstAsk] at h
    split at h
    · rename_i o ho
      have hg := guard_sound S hfr ops o
      split at h
      · rename_i d' e' want' he
        rw [he] at hg
        cases h
        exact ⟨hg.1, trivial⟩
      · exact firstAsk_spec hfr h
    · cases h
theorem drawR_sound {body : Nat → List SV → St → (SV → St → VC) → VC} (hb : BodyOk S w0 F P body) (hC : CxOk S P C) {ops : Array Oper} {K : St → VC} {Q : Exit → Act → World → Prop} (hns : Region.noSelect ops = true) (hQp : ∀ c a w, ¬ Q (.panic c) a w) :
    ∀ (fuel : Nat) (listed : Array Bool) (recs : List Rec) (st : St) (X : Nat → Prop) (R : List Say) (k : Nat) (ρ : Env G) (a : Act) (w : World), Den S ρ w0 F st a w → Closed ops listed → (∀ j, X j → listed.getD j true = true) →
      Rels S ops X ρ listed recs R → TR P ops X R listed w → left listed ≤ k → (drawR P C body ops fuel listed recs st K).den S ρ →
      (∀ ρ' st' a' w', After S w0 F st ρ ρ' st' a' w' → (K st').den S ρ' → Q .normal a' w') → wpAnyS P ops Q (TR P ops X R) k listed a w := by
  intro fuel
  induction fuel with
  | zero =>
    intro listed recs st X R k ρ a w hd hc hX hrel hT hk h hK
    simp only [drawR] at h
    split at h
    · rename_i hr; exact wpAnyS_done hr (hK ρ st a w ⟨Ext.refl _ _, Nat.le_refl _, hd⟩ h) k
    · exact h.elim
  | succ fuel ih =>
    intro listed recs st X R k ρ a w hd hc hX hrel hT hk h hK
    have done : ∀ st1, Den S ρ w0 F st1 a w → st1.n = st.n → (drawR P C body ops fuel listed recs st1 K).den S ρ → wpAnyS P ops Q (TR P ops X R) k listed a w := fun st1 hd1 hn1 h1 =>
      ih listed recs st1 X R k ρ a w hd1 hc hX hrel hT hk h1 fun ρ' st' a' w' haf hk' => hK ρ' st' a' w' (After.step S w0 F (st1 := st1) (Ext.refl _ _) (Nat.le_of_eq hn1.symm) haf) hk'
    simp only [drawR] at h
    split at h
    · rename_i hr; exact wpAnyS_done hr (hK ρ st a w ⟨Ext.refl _ _, Nat.le_refl _, hd⟩ h) k
    · rename_i i0 rest hready
      split at h
      · -- a quiet one is taken first
        rename_i i o hfq
        obtain ⟨hmem, hi⟩ := firstQuiet_spec hfq
        have hir : i ∈ Region.ready .any ops listed := by rw [hready]; exact hmem
        have hil := (mem_ready.1 hir).1
        cases hfree : Region.free .any ops listed i
        · rw [hfree] at h; exact h.elim
        rw [hfree] at h
        simp only [cond_true] at h
        obtain ⟨k', rfl⟩ : ∃ k', k = k' + 1 := ⟨k - 1, by have := left_set hil; omega⟩
        have hk' : left (listed.setIfInBounds i true) ≤ k' := by have := left_set hil; omega
        have hX' : ∀ j, (X j ∨ j = i) → (listed.setIfInBounds i true).getD j true = true := by
          rintro j (hj | rfl)
          · by_cases hij : i = j
            · subst hij; exact getD_set_self hil _
            · rw [getD_set_ne true hij]; exact hX j hj
          · exact getD_set_self hil _
        -- what the records of before say holds for the larger set, too
        have mono : ∀ R', (∀ s ∈ R, s ∈ R') → ∀ l w, TR P ops (fun j => X j ∨ j = i) R' l w → TR P ops X R l w := fun R' hsub l w hT' s hs hv =>
          hT' s (hsub s hs) fun j o' hj hx hlj => hv j o' hj (fun h' => hx (.inl h')) hlj
        have core : ∀ (R' : List Say) (v : Value) , (∀ s ∈ R, s ∈ R') → YieldsT P ops (TR P ops (fun j => X j ∨ j = i) R') i o v a → TR P ops (fun j => X j ∨ j = i) R' listed w →
            wpAnyS P ops Q (TR P ops (fun j => X j ∨ j = i) R') k' (listed.setIfInBounds i true) (a.put o.dst v) w → wpAnyS P ops Q (TR P ops X R) (k' + 1) listed a w := by
          intro R' v hsub hy hTl hrest
          refine wpAnyS_mono (mono R' hsub) _ _ _ _ ?_
          refine wpAnyS_first hi (Region.noSelect_spec hns) (fun c a w h' => absurd h' (hQp c _ w)) ?_ k' listed a w hc (Region.free_spec hi hfree) hir hy hTl ?_ hrest
          · intro l w hTl s hs hv; exact hTl s hs (valid_setX' hv)
          · intro s hs hv; exact hTl s hs (valid_setX hv)
        have hT1 : TR P ops (fun j => X j ∨ j = i) R listed w := fun s hs hv => hT s hs (valid_drop hil hv)
        have hrel1 : ∀ s ∈ R, Valid ops (fun j => X j ∨ j = i) (listed.setIfInBounds i true) s → ∃ r ∈ recs, RecDen S ρ r s := fun s hs hv => hrel s hs (valid_drop hil (valid_setX hv))
        have go : ∀ st1, Den S ρ w0 F st1 a w → st1.n = st.n → Region.wanted o (yielded ops a.tmps) = true →
            (match qev P st1.hp st1.asm (lkA (snap st1.fr o.op)) o.op with
              | some (ns, v) => VC.needs ns (drawR P C body ops fuel (listed.setIfInBounds i true) (⟨i, o, snap st1.fr o.op, v⟩ :: recs) { (st1.add ns) with fr := putDst st1.fr o.dst v } K)
              | none => VC.ff 35).den S ρ → wpAnyS P ops Q (TR P ops X R) (k' + 1) listed a w := by
          intro st1 hd1 hn1 hw h1
          split at h1
          · rename_i ns sv hv
            obtain ⟨hn, hk2⟩ := needs_den S ρ h1
            have hL := fun x => snap_R S hd1.fr o.op x
            obtain ⟨x, hrun, hx⟩ := qev_sound S ρ w0 hd1.asm hd1.hp hL hv hn
            refine core (⟨i, o, a.eval, x⟩ :: R) x (fun s hs => List.mem_cons_of_mem _ hs) ?_ ?_ ?_
            · refine .inl ⟨hw, fun l w hcl hli hTl => hTl ⟨i, o, a.eval, x⟩ List.mem_cons_self ?_⟩
              intro j o' hj hx' hlj
              cases hwt : waits o' i
              · rfl
              · exfalso
                obtain ⟨e, he, hbe⟩ := Array.any_eq_true'.1 hwt
                simp only [Bool.and_eq_true, beq_iff_eq] at hbe
                have := hcl j o' hj hlj e he hbe.1
                rw [hbe.2] at this
                have hlt := getD_lt hli
                simp [hlt] at this hli
                rw [hli] at this; cases this
            · intro s hs hv'
              rcases List.mem_cons.1 hs with rfl | hs
              · exact hrun
              · exact hT1 s hs hv'
            · refine ih _ _ _ _ _ k' ρ _ w (den_next S w0 F hd1 (next_refl S w0 F (den_hst S w0 F hd1) hn) hx) (hc.set hir) hX' ?_ ?_ hk' hk2 ?_
              · intro s hs hv'
                rcases List.mem_cons.1 hs with rfl | hs
                · exact ⟨_, List.mem_cons_self, rfl, rfl, hL, hx⟩
                · obtain ⟨r, hr, hrd⟩ := hrel1 s hs hv'
                  exact ⟨r, List.mem_cons_of_mem _ hr, hrd⟩
              · intro s hs hv'
                rcases List.mem_cons.1 hs with rfl | hs
                · exact hrun
                · exact hT1 s hs (valid_setX hv')
              · intro ρ' st' a' w' haf hk3
                exact hK _ _ _ _ (After.step S w0 F (st1 := { (st1.add ns) with fr := putDst st1.fr o.dst sv }) (Ext.refl _ _) (Nat.le_of_eq hn1.symm) haf) hk3
          · exact h1.elim
        have skip : ∀ st1, Den S ρ w0 F st1 a w → st1.n = st.n → Region.wanted o (yielded ops a.tmps) = false →
            (drawR P C body ops fuel (listed.setIfInBounds i true) recs { st1 with fr := putDst st1.fr o.dst .junk } K).den S ρ → wpAnyS P ops Q (TR P ops X R) (k' + 1) listed a w := by
          intro st1 hd1 hn1 hw h1
          refine core R undef (fun s hs => hs) (.inr ⟨hw, rfl⟩) hT1 ?_
          refine ih _ _ _ _ _ k' ρ _ w (den_skip S w0 F hd1) (hc.set hir) hX' hrel1 (fun s hs hv => hT1 s hs (valid_setX hv)) hk' h1 ?_
          intro ρ' st' a' w' haf hk3
          exact hK _ _ _ _ (After.step S w0 F (st1 := { st1 with fr := putDst st1.fr o.dst .junk }) (Ext.refl _ _) (Nat.le_of_eq hn1.symm) haf) hk3
        have hg := guard_sound S hd.fr ops o
        split at h
        · rename_i he; rw [he] at hg; exact go st hd rfl hg h
        · rename_i he; rw [he] at hg; exact skip st hd rfl hg h
        · rename_i d e want he
          rw [he] at hg
          obtain ⟨hs, hy, hno⟩ := hg
          obtain ⟨ht, hf⟩ := h
          by_cases hw : (e.den S ρ).toBool = want
          · obtain ⟨st1, hd1, hn1, h1⟩ := assume_sound S w0 F hd hs hw ht
            exact go st1 hd1 hn1 (hy hw) h1
          · have hw' : (e.den S ρ).toBool = !want := by cases hx : (e.den S ρ).toBool <;> cases want <;> simp_all
            obtain ⟨st1, hd1, hn1, h1⟩ := assume_sound S w0 F hd hs hw' hf
            exact done st1 hd1 hn1 h1
        · exact h.elim
      · -- loud ones: whichever comes
        split at h
        · rename_i d e want hfa
          obtain ⟨hs, _⟩ := firstAsk_spec S hd.fr hfa
          obtain ⟨ht, hf⟩ := h
          by_cases hw : (e.den S ρ).toBool = want
          · obtain ⟨st1, hd1, hn1, h1⟩ := assume_sound S w0 F hd hs hw ht
            exact done st1 hd1 hn1 h1
          · have hw' : (e.den S ρ).toBool = !want := by cases hx : (e.den S ρ).toBool <;> cases want <;> simp_all
            obtain ⟨st1, hd1, hn1, h1⟩ := assume_sound S w0 F hd hs hw' hf
            exact done st1 hd1 hn1 h1
        · have hir0 : i0 ∈ Region.ready .any ops listed := by rw [hready]; exact List.mem_cons_self
          have hil0 := (mem_ready.1 hir0).1
          obtain ⟨k', rfl⟩ : ∃ k', k = k' + 1 := ⟨k - 1, by have := left_set hil0; omega⟩
          refine ⟨fun h0 => (by rw [h0] at hir0; cases hir0), fun j hj => ?_⟩
          have hil := (mem_ready.1 hj).1
          have hir := hj
          have hk' : left (listed.setIfInBounds j true) ≤ k' := by have := left_set hil; omega
          rw [hready] at hj
          have h := conj_den S h _ (List.mem_map_of_mem hj)
          split at h
          · rename_i o hi
            have hg := guard_sound S hd.fr ops o
            split at h
            · rename_i he
              rw [he] at hg
              unfold Go.wpOp
              simp only [hi, hg, if_true]
              refine .inl (doOp_sound S w0 F hb hC (den_hst S w0 F hd) (fun x => lk_eval S hd.fr x) h ?_)
              intro ρ' sv st' w' v hn hsv hk2
              cases hall : (recs.filter fun r => !(waits o r.i)).all (recOk P st'.hp st'.asm st.n)
              · rw [hall] at hk2; exact hk2.elim
              rw [hall] at hk2
              simp only [cond_true] at hk2
              have hrel2 : ∀ s ∈ R, Valid ops X (listed.setIfInBounds j true) s → ∃ r ∈ recs.filter (fun r => !(waits o r.i)), RecDen S ρ r s := by
                intro s hs hv
                obtain ⟨r, hr, hrd⟩ := hrel s hs (valid_anti hil hv)
                refine ⟨r, List.mem_filter.2 ⟨hr, ?_⟩, hrd⟩
                have := hv j o hi (fun hx => by have := hX j hx; rw [hil] at this; cases this) (getD_set_self hil _)
                rw [hrd.1, this]; rfl
              have hrec : ∀ r ∈ recs.filter (fun r => !(waits o r.i)), ∀ s, RecDen S ρ r s → RecDen S ρ' r s ∧ (execOp s.ev s.o).run P w' = .ok (.value s.v) w' := by
                intro r hr s hrd
                have hro := List.all_eq_true.1 hall r hr
                unfold recOk at hro
                cases hvl : r.v.lt st.n
                · rw [hvl] at hro; cases hro
                cases hLl : r.L.all (fun p => p.2.lt st.n)
                · rw [hvl, hLl] at hro; cases hro
                rw [hvl, hLl] at hro
                simp only [cond_true] at hro
                split at hro
                · rename_i v' hq
                  obtain ⟨h1, h2, h3, h4⟩ := hrd
                  have h3' : ∀ x, (lkA r.L x).R S ρ' (s.ev x) := fun x => lkA_ext S hn.ext hLl (h3 x)
                  obtain ⟨x, hrun, hx⟩ := qev_sound S ρ' w0 hn.hs.asm hn.hs.hp h3' hq (fun e he => nomatch he)
                  obtain ⟨hj1, hj2, hsame⟩ := same_den S (ρ := ρ') hro
                  have hvd : s.v = r.v.den S ρ := h4.resolve_left (by rw [hj1]; simp)
                  have hxd : x = v'.den S ρ' := hx.resolve_left (by rw [hj2]; simp)
                  have hsv' : s.v = r.v.den S ρ' := by rw [hvd, SV.den_ext S hn.ext hvl]
                  refine ⟨⟨h1, h2, h3', .inr hsv'⟩, ?_⟩
                  rw [← h2, hrun, hxd, hsv', hsame]
                · cases hro
              have hT2 : TR P ops X R (listed.setIfInBounds j true) w' := by
                intro s hs hv
                obtain ⟨r, hr, hrd⟩ := hrel2 s hs hv
                exact (hrec r hr s hrd).2
              refine ⟨hT2, ih _ _ _ X R k' ρ' _ w' (den_next S w0 F hd hn hsv) (hc.set hir) ?_ ?_ hT2 hk' hk2 ?_⟩
              · intro j' hj'
                by_cases hij : j = j'
                · subst hij; exact getD_set_self hil _
                · rw [getD_set_ne true hij]; exact hX j' hj'
              · intro s hs hv
                obtain ⟨r, hr, hrd⟩ := hrel2 s hs hv
                exact ⟨r, hr, (hrec r hr s hrd).1⟩
              · intro ρ2 st2 a2 w2 haf hk3
                exact hK _ _ _ _ (After.step S w0 F (st1 := { st' with fr := putDst st'.fr o.dst sv }) hn.ext hn.le haf) hk3
            · exact h.elim
          · exact h.elim

theorem drew_sat {H : HProp} {w : World} (h : Sat w0 H w) : Sat w0 H { w with drawn := w.drawn + 1 } := Sat.drew h _

theorem region_draw_sound {body : Nat → List SV → St → (SV → St → VC) → VC} (hb : BodyOk S w0 F P body) (hC : CxOk S P C) {id : Nat} {ops : Array Oper} {K : St → VC} {Q : Exit → Act → World → Prop} (hm : P.follows .mixedOrders = true) (hns : Region.noSelect ops = true) (hQp : ∀ c a w, ¬ Q (.panic c) a w)
    {fuel : Nat} {st : St} {ρ : Env G} {a : Act} {w : World} (hd : Den S ρ w0 F st a w) (h : (drawR P C body ops fuel (Array.replicate ops.size false) [] st K).den S ρ)
    (hK : ∀ ρ' st' a' w', After S w0 F st ρ ρ' st' a' w' → (K st').den S ρ' → Q .normal a' w') : (Code.region id ops true).wp P Q a w := by
  refine wp_region_any hm ?_
  refine wpAny_of_S _ _ _ _ (drawR_sound S w0 F hb hC hns hQp fuel _ [] st (fun _ => False) [] ops.size ρ a _ ⟨hd.fr, hd.df, Sat.drew hd.hp _, hd.asm⟩ ?_ (fun _ h => h.elim) (fun s hs => nomatch hs) (fun s hs => nomatch hs) ?_ h hK)
  · intro j o hj hl
    have hlt : j < ops.size := (Array.getElem?_eq_some_iff.1 hj).1
    simp [hlt] at hl
  · unfold left
    exact Nat.le_trans List.countP_le_length (by simp)
end
end Go.Eng
