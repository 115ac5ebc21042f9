/- A run with written-out values: ranges over functions. -/
import Derived.Test.YtmjckbfjaecjjaaGreatDoorCxO
set_option linter.unusedVariables false
set_option linter.unusedSimpArgs false
set_option linter.unnecessarySimpa false
namespace Go.Cx
open Go.RowKit (Below)
section
variable {P : Program} {w0 : World} {φ : Out → Prop} {ctrs : List (Nat × Option Cn)} {bd rd : Nat → Cn} {ro : Option Nat}
theorem endL_sound {l : Nat} {hp hp' : H} {j : Option Code} {σ : Sg} {n : Nat} {w : World} {p t : Nat} (hR : Rel w0 σ hp n w) (hs : σ l = some (p, t)) (h : endL l hp = some (j, hp')) :
    ∃ w', (Instr.endLoop p).run P w = .ok j w' ∧ Rel w0 σ hp' n w' := by
  unfold endL at h
  split at h
  · rename_i fn fr ps assign body db st pend he
    cases hb : Nat.beq st 1
    · rw [hb] at h; cases h
      obtain ⟨q, u, tm, g, h1, h2, h3, h4⟩ := hR.at hs he (by simp)
      have hlt : p < w.heap.size := (Array.getElem?_eq_some_iff.1 h4).1
      refine ⟨_, run_endLoop h4 ?_, hR.upd hs (by rw [he]; simp) World.putObj_size (fun k hk => World.putObj_heap_other hk) rfl rfl rfl ⟨q, u, tm, g, h1, h2, h3, ?_⟩⟩
      · have hne : st ≠ 1 := fun e => by subst e; cases hb
        show loopSt st ≠ .busy
        unfold loopSt
        split <;> simp_all
      · exact World.putObj_heap_same hlt
    · rw [hb] at h; cases h
  · cases h
theorem enterL_sound {vro : Option Nat} {σ : Sg} {fr : F} {hp : H} {n : Nat} {a : Act} {w : World} {ps : Array Tmp} {assign body : Code} {fnv fn0 : Nat} {l : Nat} {fr' : F} {hp' : H} {n' : Nat}
    (hvro : (vro = none ∧ ro = none) ∨ ∃ l p t, vro = some l ∧ ro = some p ∧ σ l = some (p, t))
    (hR : Rel w0 σ hp n w) (hF : FrR σ fr a) (hro : RoOk ro fr) (h : enterL vro fnv ps.toList assign body fr hp n = some (l, fr', hp', n')) :
    ∃ p t mark w' σ', (Instr.enterLoop fn0 a.tmps ps assign body ro).run P w = .ok (p, mark) w' ∧ σ' l = some (p, t) ∧ Rel w0 σ' hp' n' w' ∧ FrR σ' fr' { a with defers := mark ++ a.defers } ∧ RoOk ro fr' ∧ Ex n σ σ' ∧ Nle n n' := by
  have hlim := hR.lim
  unfold enterL at h
  rcases hvro with ⟨rfl, rfl⟩ | ⟨l0, p0, t0, rfl, rfl, hl0⟩
  · simp only at h
    cases hb : Nat.blt (idN n + 1) (limN n)
    · rw [hb] at h; cases h
    · rw [hb] at h
      simp only [cond_true, Option.some.injEq, Prod.mk.injEq] at h
      obtain ⟨rfl, rfl, rfl, rfl⟩ := h
      have hb : idN n + 1 < limN n := by simpa [Nat.blt_eq] using hb
      obtain ⟨e1, e2⟩ := idN_lt (by omega : idN n < limN n) hlim
      obtain ⟨e3, e4⟩ := idN_lt (n := n + 1) (by omega) (by omega)
      have e3 : idN (n + 2) = idN n + 2 := by show idN (n + 1 + 1) = _; omega
      have e4 : limN (n + 2) = limN n := by show limN (n + 1 + 1) = _; omega
      have hf1 : σ (idN n) = none := hR.fresh _ (Nat.le_refl _) (by omega)
      have hR1 := hR.new (i := idN n) (t := 0) (m := n + 1) (c := .dfr) (by omega) hf1 (.deferred (some [])) (fun τ _ _ => heap_push w _) e2 (fun j hj _ => ⟨by omega, by omega⟩)
      have hf2 : (updS σ (idN n) w.heap.size 0) (idN n + 1) = none := hR1.fresh _ (by omega) (by omega)
      have hR2 := hR1.new (i := idN n + 1) (t := 0) (m := n + 2) (c := .loop fnv fr ps.toList assign body (idN n) 0 none) (by omega) hf2
        (.loop { state := .ready, pending := none, fn := fn0, tmps := a.tmps, params := ps, assign, body, defers := w.heap.size })
        (fun τ hle _ => ⟨w.heap.size, 0, a.tmps, fn0, hle _ _ (updS_self _ _ _), ⟨hF.sz, hF.small, hF.nj⟩, fun i v hv => (hF.val i v hv).mono ((Le.upd hf1).trans hle), by
          have := heap_push { w with heap := w.heap.push (.deferred (some [])) } (.loop { state := .ready, pending := none, fn := fn0, tmps := a.tmps, params := ps, assign, body, defers := w.heap.size })
          exact this⟩) (by omega) (fun j hj _ => ⟨by omega, by omega⟩)
      refine ⟨_, 0, _, _, _, run_enterLoop_outer fn0 a.tmps ps assign body, ?_, hR2, ?_, .inl rfl, ⟨(Le.upd hf1).trans (Le.upd hf2), fun i hi => ?_⟩, ⟨by omega, e4⟩⟩
      · rw [updS_self]
        show some (_, _) = _
        congr 2
        show (w.heap.push _).size = _
        simp
      · refine (hF.mono ((Le.upd hf1).trans (Le.upd hf2))).push ?_
        unfold DfR
        exact ⟨w.heap.size, 0, a.defers, (Le.upd hf2) _ _ (updS_self _ _ _), rfl, hF.df.mono ((Le.upd hf1).trans (Le.upd hf2))⟩
      · unfold updS
        rw [if_neg (fun e => hi ⟨by omega, by omega⟩), if_neg (fun e => hi ⟨by omega, by omega⟩)]
  · simp only at h
    split at h
    · rename_i fn1 fr1 ps1 as1 bo1 db st1 pe1 he
      cases hb : Nat.blt (idN n) (limN n)
      · rw [hb] at h; cases h
      · rw [hb] at h
        simp only [cond_true, Option.some.injEq, Prod.mk.injEq] at h
        obtain ⟨rfl, rfl, rfl, rfl⟩ := h
        have hb : idN n < limN n := by simpa [Nat.blt_eq] using hb
        obtain ⟨e1, e2⟩ := idN_lt hb hlim
        obtain ⟨q, u, tm, g, h1, h2, h3, h4⟩ := hR.at hl0 he (by simp)
        have hf1 : σ (idN n) = none := hR.fresh _ (Nat.le_refl _) (by omega)
        have hR1 := hR.new (i := idN n) (t := 0) (m := n + 1) (c := .loop fnv fr ps.toList assign body db 0 none) (by omega) hf1
          (.loop { state := .ready, pending := none, fn := fn0, tmps := a.tmps, params := ps, assign, body, defers := q })
          (fun τ hle _ => ⟨q, u, a.tmps, fn0, hle _ _ h1, ⟨hF.sz, hF.small, hF.nj⟩, fun i v hv => (hF.val i v hv).mono hle, heap_push w _⟩) e2 (fun j hj _ => ⟨by omega, by omega⟩)
        refine ⟨w.heap.size, 0, [], _, _, ?_, updS_self _ _ _, hR1, ?_, hro, ⟨Le.upd hf1, fun i hi => ?_⟩, ⟨by omega, e2⟩⟩
        · unfold Instr.enterLoop
          simp only [Sem.run_bind, run_getLoop h4, run_newObj_alloc, Result.andThen, Sem.run_pure]
          rfl
        · exact hF.mono (Le.upd hf1)
        · unfold updS
          rw [if_neg (fun e => hi ⟨by omega, by omega⟩)]
    · cases h
theorem callR_sound {k : KS} {σ : Sg} {hp : H} {n : Nat} {w : World} (hC : CsOk P w0 ctrs bd rd) (hR : Rel w0 σ hp n w) {g : CV} {vg : Value} (hg : VR σ g vg) {args : List CV} {xs : List Value} (hx : VRs σ args xs) (h : Good (callR ctrs bd g args hp n k) φ) :
    ∃ d f ys, (Deferred.ofValue vg xs.toArray).run P w = .ok d w ∧ (invoke d.target d.args).run P w = .ok (.enter f ys) w ∧ CallsIn (FF none) 0 P f ys w (fun e w' => ∃ v, e = .returned v ∧ Goes w0 σ n k φ v w') := by
  unfold callR at h
  split at h
  · rename_i f first caps
    simp only [VR] at hg; obtain ⟨us, vs, h1, h2, rfl⟩ := hg
    have key : ∀ mg, Good (after mg n (bd f ((first ++ args) ++ caps) hp n) k) φ → (callFunc f ((us ++ xs) ++ vs).toArray).run P w = .ok (.enter f ((us ++ xs) ++ vs).toArray) w ∧ CallsIn (FF none) 0 P f ((us ++ xs) ++ vs).toArray w (fun e w' => ∃ v, e = .returned v ∧ Goes w0 σ n k φ v w') := by
      intro mg h
      obtain ⟨os, hl, hgo⟩ := after_sound h
      obtain ⟨q1, q2⟩ := hC.bd f _ hp n σ w _ os hR ((h1.app hx).app h2) hl
      refine ⟨q1, CallsIn.mono q2 fun e w' he => ?_⟩
      obtain ⟨v, rfl, hr⟩ := he
      exact ⟨v, rfl, hgo _ _ hr⟩
    have e : (us ++ xs ++ vs).toArray = us.toArray ++ xs.toArray ++ vs.toArray := by apply Array.ext'; simp
    have : ∃ mg, Good (after mg n (bd f ((first ++ args) ++ caps) hp n) k) φ := by
      split at h
      · split at h
        · exact h.no.elim
        · exact ⟨_, h⟩
      · exact ⟨_, h⟩
    obtain ⟨mg, h⟩ := this
    obtain ⟨q1, q2⟩ := key mg h
    rw [e] at q1 q2
    exact ⟨_, f, _, rfl, q1, q2⟩
  · exact h.no.elim
theorem cx_range (hC : CsOk P w0 ctrs bd rd) {fn : Nat} {vro : Option Nat} {g : Operand} {ps : Array Tmp} {assign body : Code} {σ : Sg} {fr : F} {hp : H} {n : Nat} {kn : F → H → Nat → Res} {ke : Nat → F → H → Nat → Res} {kr : F → H → Nat → Res} {a : Act} {w : World} {Q : Exit → Act → World → Prop}
    (hvro : (vro = none ∧ ro = none) ∨ ∃ l p t, vro = some l ∧ ro = some p ∧ σ l = some (p, t))
    (hR : Rel w0 σ hp n w) (hF : FrR σ fr a) (hro : RoOk ro fr) (h : Good (match enterL vro fn ps.toList assign body fr hp n with
      | some (l, fr, hp, n) => callR ctrs bd (lk fr g) [.yld l] hp n (fun _ hp n =>
        match endL l hp with
        | some (j, hp) => jump j fr hp n kn ke kr
        | none => none)
      | none => none) φ)
    (hN : ∀ σ' fr' hp' n' a' w', St w0 ro σ n σ' fr' hp' n' a' w' → Good (kn fr' hp' n') φ → Q .normal a' w')
    (hE : ∀ i σ' fr' hp' n' a' w', St w0 ro σ n σ' fr' hp' n' a' w' → Good (ke i fr' hp' n') φ → Q (.exit i) a' w')
    (hK : ∀ σ' fr' hp' n' a' w', St w0 ro σ n σ' fr' hp' n' a' w' → Good (kr fr' hp' n') φ → Q .ret a' w') : (Code.rangeFunc g ps assign body).wpIn (FF ro) 0 P Q a w := by
  split at h
  · rename_i l fr1 hp1 n1 hl
    refine wpIn_rangeFunc fun fn0 _ => ?_
    obtain ⟨p, t, mark, w1, σ1, g1, g2, g3, g4, g5, g6, g7⟩ := enterL_sound (P := P) (fn0 := fn0) hvro hR hF hro hl
    have hg := lk_R g4 g
    obtain ⟨d, f, ys, r1, r2, r3⟩ := callR_sound hC g3 hg (args := [.yld l]) (xs := [.func (.yield p) #[] #[]]) (by simp only [VRs, VR]; exact ⟨_, _, rfl, ⟨p, t, g2, rfl⟩, rfl⟩) h
    refine ⟨p, mark, w1, d, w1, f, ys, w1, g1, ?_, fun f' _ => trivial, r2, fun h => (by cases h), ?_⟩
    · have ea : (rangeCall g p).args.map a.eval = #[Value.func (Fn.yield p) #[] #[]] := by simp [Act.eval]
      simp only [resolve, ea]
      exact r1
    · refine CallsIn.mono (calls_FF r3) fun e w3 he => ?_
      obtain ⟨v, rfl, c, hp2, n2, σ2, s1, s2, s3, s4, s5⟩ := he
      simp only at s5
      split at s5
      · rename_i j hp3 hj
        obtain ⟨w4, q1, q2⟩ := endL_sound (P := P) s2 (s3.1 _ _ g2) hj
        have hS : St w0 ro σ n σ2 fr1 hp3 n2 { a with defers := mark ++ a.defers } w4 := ⟨q2, g4.mono s3.1, g5, g6.trans g7 s3, g7.trans s4⟩
        refine ⟨j, w4, q1, ?_⟩
        unfold jump at s5
        split at s5
        · exact hN _ _ _ _ _ _ hS s5
        · exact wpIn_ret (hK _ _ _ _ _ _ hS s5)
        · exact wpIn_exit (hE _ _ _ _ _ _ _ hS s5)
        · exact s5.no.elim
      · exact s5.no.elim
  · exact h.no.elim
end
end Go.Cx
