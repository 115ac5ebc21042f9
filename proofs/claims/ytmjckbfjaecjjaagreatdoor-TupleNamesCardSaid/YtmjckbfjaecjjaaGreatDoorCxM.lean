/- A run with written-out values: frames, regions in the order of their text. -/
import Derived.Test.YtmjckbfjaecjjaaGreatDoorCxLb
set_option linter.unusedVariables false
set_option linter.unusedSimpArgs false
set_option linter.unnecessarySimpa false
namespace Go.Cx
open Go.RowKit (Below)
section
variable {P : Program} {w0 : World} {σ : Sg} {hp : H} {n : Nat} {w : World} {fr : F} {a : Act} {φ : Out → Prop} {ctrs : List (Nat × Option Cn)} {bd rd : Nat → Cn}
theorem fg_R (h : FrR σ fr a) (t : Nat) : VR σ (fg fr t) (a.tmps.getD t undef) := by
  rw [fg_eq]
  cases hb : Nat.blt t fr.n
  · simp only [cond_false, VR]
  · simp only [cond_true]
    have hlt : t < fr.n := by simpa [Nat.blt_eq] using hb
    rw [h.sz] at hlt
    refine h.val t _ ?_
    rw [Array.getD_eq_getD_getElem?, Array.getElem?_eq_getElem hlt]; rfl
theorem fg_some (h : FrR σ fr a) {t : Nat} (hj : fg fr t ≠ .junk) : ∃ v, a.tmps[t]? = some v ∧ VR σ (fg fr t) v := by
  rw [fg_eq] at hj ⊢
  cases hb : Nat.blt t fr.n
  · rw [hb] at hj; exact absurd rfl hj
  · simp only [cond_true]
    have hlt : t < fr.n := by simpa [Nat.blt_eq] using hb
    rw [h.sz] at hlt
    exact ⟨a.tmps[t], Array.getElem?_eq_getElem hlt, h.val t _ (Array.getElem?_eq_getElem hlt)⟩
theorem lk_R (h : FrR σ fr a) (x : Operand) : VR σ (lk fr x) (a.eval x) := by
  cases x with
  | tmp t => exact fg_R h t
  | const v => exact litCV_R v
  | global g => simp only [lk, VR]
  | func f => simp only [lk, VR, VRs]; exact ⟨[], [], rfl, rfl, rfl⟩
theorem fget_fset {i j : Nat} {c : CV} (hn : fr.n ≤ 511) (hj : j < 512) : fget (fset fr i c) j = if j = i ∧ i < fr.n then c else fget fr j := by
  rw [fset_eq]
  cases hb : Nat.blt i fr.n
  · have : ¬ i < fr.n := by intro e; have := Nat.blt_eq.symm ▸ e; rw [this] at hb; cases hb
    rw [if_neg (fun e => this e.2)]; rfl
  · have hlt : i < fr.n := by simpa [Nat.blt_eq] using hb
    simp only [cond_true]
    rw [fget_fput _ _ _ _ (by omega) hj]
    by_cases e : j = i
    · rw [if_pos e, if_pos ⟨e, hlt⟩]
    · rw [if_neg e, if_neg (fun h => e h.1)]
theorem fset_n (i : Nat) (c : CV) : (fset fr i c).n = fr.n := by
  rw [fset_eq]; cases Nat.blt i fr.n
  · rfl
  · exact fput_n _ _ _
theorem dfs_fset {i : Nat} {c : CV} (hn : fr.n ≤ 511) : fget (fset fr i c) dfSlot = fget fr dfSlot := by
  rw [fget_fset hn (by decide)]
  rw [if_neg (fun h => by have h1 := h.1; have h2 := h.2; unfold dfSlot at h1; omega)]
theorem NJ.set (h : NJ fr) {i : Nat} {c : CV} (hn : fr.n ≤ 511) : NJ (fset fr i c) := by
  intro j h1 h2
  rw [fset_n] at h1
  rw [fget_fset hn (by omega), if_neg (fun e => by have := e.1; have := e.2; omega)]
  exact h j h1 h2
theorem NJ.put (h : NJ fr) {d : Option Nat} {c : CV} (hn : fr.n ≤ 511) : NJ (putD fr d c) := by
  cases d with
  | none => exact h
  | some d => exact h.set hn
theorem FrR.set (h : FrR σ fr a) {i : Nat} {c : CV} {v : Value} (hv : VR σ c v) : FrR σ (fset fr i c) { a with tmps := a.tmps.setIfInBounds i v } := by
  have hs := h.sz
  have hm := h.small
  refine ⟨by rw [fset_n, hs]; simp, by simpa using hm, fun j u hj => ?_, ?_, h.nj.set (by omega)⟩
  · simp only [Array.getElem?_setIfInBounds] at hj
    have hj' : j < 512 := by
      have : j < a.tmps.size := by
        by_cases e : i = j
        · subst e
          by_cases hlt : i < a.tmps.size
          · exact hlt
          · simp [hlt] at hj
        · rw [if_neg e] at hj; exact (Array.getElem?_eq_some_iff.1 hj).1
      omega
    rw [fget_fset (by omega) hj']
    by_cases e : i = j
    · subst e
      by_cases hlt : i < a.tmps.size
      · simp [hlt] at hj; subst hj
        rw [if_pos ⟨rfl, by omega⟩]; exact hv
      · simp [hlt] at hj
    · rw [if_neg e] at hj
      rw [if_neg (fun x => e x.1.symm)]
      exact h.val j u hj
  · have : dfs (fset fr i c) = dfs fr := by unfold dfs; rw [dfs_fset (by omega)]
    rw [this]; exact h.df
theorem FrR.put (h : FrR σ fr a) {d : Option Nat} {c : CV} {v : Value} (hv : VR σ c v) : FrR σ (putD fr d c) (a.put d v) := by
  cases d with
  | none => exact h
  | some d => exact h.set hv
theorem dfs_putD (h : FrR σ fr a) (d : Option Nat) (c : CV) : fget (putD fr d c) dfSlot = fget fr dfSlot := by
  cases d with
  | none => rfl
  | some d => exact dfs_fset (by rw [h.sz]; exact h.small)
/-- Within a round, the frame says so. -/
def RoOk (ro : Option Nat) (fr : F) : Prop := ro = none ∨ fget fr dfSlot = .nili

/-! ### Guards -/
theorem dstOf_eq (ops : Array Oper) (j : Nat) : dstOf ops.toList j = (ops[j]?).bind (·.dst) := by
  unfold dstOf
  rw [nthL_eq, Array.getElem?_toList]
  cases ops[j]? <;> rfl
theorem guard_sound (h : FrR σ fr a) (ops : Array Oper) (o : Oper) :
    (guardOf ops.toList fr o.guard = .go → Region.wanted o (yielded ops a.tmps) = true) ∧ (guardOf ops.toList fr o.guard = .skip → Region.wanted o (yielded ops a.tmps) = false) := by
  unfold guardOf Region.wanted
  cases hg : o.guard with
  | none => simp
  | some jw =>
    obtain ⟨j, want⟩ := jw
    simp only [dstOf_eq]
    cases hd : (ops[j]?).bind (·.dst) with
    | none => simp
    | some d =>
      simp only
      have hy : ∀ v, a.tmps[d]? = some v → yielded ops a.tmps j = (match v with | .bool b => some b | _ => none) := fun v hv => by
        unfold yielded; rw [hd]; simp only [Option.bind_some]; rw [hv]; cases v <;> rfl
      cases hc : fg fr d with
      | bool b =>
        obtain ⟨v, hv, hr⟩ := fg_some h (t := d) (by rw [hc]; simp)
        rw [hc] at hr; simp only [VR] at hr; subst hr
        rw [hy _ hv]
        simp only
        cases hb : bbq b want
        · refine ⟨fun e => (by cases e), fun _ => ?_⟩
          have : b ≠ want := fun e => by subst e; cases b <;> cases hb
          simp [this]
        · have := bbq_t hb; subst this
          exact ⟨fun _ => (by simp), fun e => (by cases e)⟩
      | tup l =>
        cases l with
        | nil =>
          obtain ⟨v, hv, hr⟩ := fg_some h (t := d) (by rw [hc]; simp)
          rw [hc] at hr; simp only [VR, VRs] at hr
          obtain ⟨vs, rfl, rfl⟩ := hr
          rw [hy _ hv]
          exact ⟨fun e => (by cases e), fun _ => (by simp)⟩
        | cons x l => simp
      | _ => simp

/-! ### Regions in the order of their text -/
/-- On with this frame. -/
structure St (w0 : World) (ro : Option Nat) (σ : Sg) (n : Nat) (σ' : Sg) (fr' : F) (hp' : H) (n' : Nat) (a' : Act) (w' : World) : Prop where
  rel : Rel w0 σ' hp' n' w'
  fr : FrR σ' fr' a'
  ro : RoOk ro fr'
  ex : Ex n σ σ'
  n : Nle n n'
theorem St.trans {ro : Option Nat} {σ1 σ' : Sg} {n1 n' : Nat} {fr' : F} {hp' : H} {a' : Act} {w' : World} (hx : Ex n σ σ1) (hn : Nle n n1) (h : St w0 ro σ1 n1 σ' fr' hp' n' a' w') : St w0 ro σ n σ' fr' hp' n' a' w' :=
  ⟨h.rel, h.fr, h.ro, hx.trans hn h.ex, hn.trans h.n⟩
theorem dfs_fput (fr : F) (l : List CV) : dfs (fput fr dfSlot (.tup l)) = l := by
  unfold dfs; rw [fget_fput _ _ _ _ (by decide) (by decide), if_pos rfl]
theorem pushD_eq (fr : F) (d : CV) : (pushD fr d).n = fr.n ∧ (∀ j, j < 511 → fget (pushD fr d) j = fget fr j) ∧ dfs (pushD fr d) = d :: dfs fr := by
  unfold pushD
  split
  · rename_i l hl
    refine ⟨fput_n _ _ _, fun j hj => by rw [fget_fput _ _ _ _ (by decide) (by omega), if_neg (by unfold dfSlot; omega)], ?_⟩
    rw [dfs_fput]; unfold dfs; rw [hl]
  · rename_i hl
    refine ⟨fput_n _ _ _, fun j hj => by rw [fget_fput _ _ _ _ (by decide) (by omega), if_neg (by unfold dfSlot; omega)], ?_⟩
    rw [dfs_fput]
    have : dfs fr = [] := by
      unfold dfs; split
      · rename_i l hl'; exact (hl _ hl').elim
      · rfl
    rw [this]
theorem FrR.push (h : FrR σ fr a) {d : CV} {ds : Deferred} (hd : DfR σ (d :: dfs fr) (ds :: a.defers)) : FrR σ (pushD fr d) { a with defers := ds :: a.defers } := by
  obtain ⟨p1, p2, p3⟩ := pushD_eq fr d
  have hs := h.small
  refine ⟨by rw [p1]; exact h.sz, h.small, fun i v hi => ?_, by rw [p3]; exact hd, fun i h1 h2 => by rw [p2 i h2]; exact h.nj i (by rw [p1] at h1; exact h1) h2⟩
  have : i < a.tmps.size := (Array.getElem?_eq_some_iff.1 hi).1
  rw [p2 i (by omega)]; exact h.val i v hi
theorem goes_St {ro : Option Nat} (hF : FrR σ fr a) (hro : RoOk ro fr) {k : KS} {d : Option Nat} {v : Value} {w' : World} (h : Goes w0 σ n k φ v w') :
    ∃ c hp' n' σ', St w0 ro σ n σ' (putD fr d c) hp' n' (a.put d v) w' ∧ Good (k c hp' n') φ := by
  obtain ⟨c, hp', n', σ', hv, hR, hx, hn, hk⟩ := h
  have hF' := hF.mono hx.1
  refine ⟨c, hp', n', σ', ⟨hR, hF'.put hv, ?_, hx, hn⟩, hk⟩
  rcases hro with h | h
  · exact .inl h
  · exact .inr (by rw [dfs_putD hF]; exact h)
theorem stepO_sound (hC : CsOk P w0 ctrs bd rd) (hR : Rel w0 σ hp n w) (hF : FrR σ fr a) {ro : Option Nat} (hro : RoOk ro fr) {o : Oper} {k : F → H → Nat → Res} (h : Good (stepO P ctrs bd rd o fr hp n k) φ)
    {next : Act → World → Prop} {Q : Exit → Act → World → Prop} (hnext : ∀ σ' fr' hp' n' a' w', St w0 ro σ n σ' fr' hp' n' a' w' → Good (k fr' hp' n') φ → next a' w') : o.wpIn (FF ro) 0 P a w next Q := by
  unfold stepO at h
  split at h
  · rename_i c hop
    split at h
    · rename_i d hd
      unfold lDefer at hd
      split at hd
      · cases hd
      · rename_i hnn
        have hro' : ro = none := by
          rcases hro with h | h
          · exact h
          · exact absurd h hnn
        subst hro'
        split at hd
        · rename_i f hf
          split at hd
          · rename_i g fi ca he
            cases hd
            have hv := lk_R hF f
            rw [he] at hv; simp only [VR] at hv
            obtain ⟨us, vs, h1, h2, hv⟩ := hv
            refine ⟨fun f _ => trivial, ?_⟩
            have hrun : ((o.semAt (FF none).round a.eval).run P w) = .ok (.defer { target := .fn (.func g) vs.toArray, args := us.toArray ++ (c.args.toList.map a.eval).toArray }) w := by
              rw [show (FF none).round = none from rfl, Oper.semAt_none]
              unfold execOp; rw [hop]
              simp only [resolve, hf, hv, Deferred.ofValue, Sem.run_bind, Sem.run_pure, Result.andThen_ok, amap]
            rw [hrun, Oper.uponIn_defer]
            have hF2 := hF.push (d := .tup (.fn g fi ca :: lks fr c.args.toList)) (ds := { target := .fn (.func g) vs.toArray, args := us.toArray ++ (c.args.toList.map a.eval).toArray }) (by
              unfold DfR; exact ⟨us, vs, _, _, h1, h2, lks_R (lk_R hF) _, rfl, hF.df⟩)
            exact hnext _ _ _ _ _ _ ⟨hR, hF2.put VR_unit, .inl rfl, Ex.refl _ _, Nle.refl _⟩ h
          · cases hd
        · cases hd
    · exact h.no.elim
  · rename_i hnd
    refine Leads.wpIn (fun c hc => hnd c hc) (lev_sound hC hR (lk_R hF) h) (fun v w' hg => ?_)
    obtain ⟨c, hp', n', σ', hS, hk⟩ := goes_St (ro := ro) (d := o.dst) hF hro hg
    exact hnext _ _ _ _ _ _ hS hk
theorem seqO_sound (hC : CsOk P w0 ctrs bd rd) {ro : Option Nat} {ops : Array Oper} {Q : Exit → Act → World → Prop} {k : F → H → Nat → Res} :
    ∀ (l : List Oper) (i : Nat) {σ : Sg} {hp : H} {n : Nat} {w : World} {fr : F} {a : Act}, ops.toList.drop i = l → Rel w0 σ hp n w → FrR σ fr a → RoOk ro fr → Good (seqO P ctrs bd rd ops.toList l fr hp n k) φ →
      (∀ σ' fr' hp' n' a' w', St w0 ro σ n σ' fr' hp' n' a' w' → Good (k fr' hp' n') φ → Q .normal a' w') → wpOpsIn (FF ro) 0 P ops Q (List.range' i l.length) a w
  | [], i, σ, hp, n, w, fr, a, hl, hR, hF, hro, h, hQ => hQ _ _ _ _ _ _ ⟨hR, hF, hro, Ex.refl _ _, Nle.refl _⟩ h
  | o :: rest, i, σ, hp, n, w, fr, a, hl, hR, hF, hro, h, hQ => by
    have hi : ops[i]? = some o := by
      rw [← Array.getElem?_toList]
      have := congrArg (fun l => l[0]?) hl
      simpa using this
    have hrest : ops.toList.drop (i + 1) = rest := by
      have := congrArg List.tail hl
      simpa [List.tail_drop] using this
    simp only [List.length_cons, List.range'_succ, wpOpsIn, hi]
    simp only [seqO] at h
    have hg := guard_sound hF ops o
    split at h
    · rename_i hgo
      rw [if_pos (hg.1 hgo)]
      refine stepO_sound hC hR hF hro h (fun σ' fr' hp' n' a' w' hS hk => ?_)
      exact seqO_sound hC rest (i + 1) hrest hS.rel hS.fr hS.ro hk (fun σ2 fr2 hp2 n2 a2 w2 hS2 hk2 => hQ _ _ _ _ _ _ (St.trans hS.ex hS.n hS2) hk2)
    · rename_i hgs
      rw [if_neg (by rw [hg.2 hgs]; simp)]
      refine ⟨fun f _ => trivial, ?_⟩
      refine seqO_sound hC rest (i + 1) hrest hR (hF.put VR_unit) ?_ h hQ
      rcases hro with h | h
      · exact .inl h
      · exact .inr (by rw [dfs_putD hF]; exact h)
    · exact h.no.elim
end
end Go.Cx
