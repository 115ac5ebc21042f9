/- A run with written-out values: functions and rounds. -/
import Derived.Test.YtmjckbfjaecjjaaGreatDoorCxOd
import Derived.Test.YtmjckbfjaecjjaaGreatDoorCxU
set_option linter.unusedVariables false
set_option linter.unusedSimpArgs false
set_option linter.unnecessarySimpa false
namespace Go.Cx
open Go.RowKit (Below)
section
variable {P : Program} {w0 : World} {φ : Out → Prop} {ctrs : List (Nat × Option Cn)} {bd rd : Nat → Cn} {ro : Option Nat}
/-! ### Frames that are entered -/
def setFrom : List Value → Nat → Array Value → Array Value
  | [], _, t => t
  | v :: l, i, t => setFrom l (i + 1) (t.setIfInBounds i v)
theorem argF_R {σ : Sg} {ds : List Deferred} : ∀ {args : List CV} {xs : List Value} {i : Nat} {fr : F} {t : Array Value}, VRs σ args xs → FrR σ fr { tmps := t, defers := ds } → FrR σ (argF args i fr) { tmps := setFrom xs i t, defers := ds }
  | [], xs, i, fr, t, hx, h => by simp only [VRs] at hx; subst hx; exact h
  | c :: args, xs, i, fr, t, hx, h => by
    simp only [VRs] at hx; obtain ⟨v, ws, rfl, h1, h2⟩ := hx
    show FrR σ (argF args (i + 1) (fset fr i c)) { tmps := setFrom ws (i + 1) (t.setIfInBounds i v), defers := ds }
    exact argF_R h2 (h.set h1)
theorem setFrom_list : ∀ (xs : List Value) (i : Nat) (t : Array Value), i + xs.length ≤ t.size → (setFrom xs i t).toList = t.toList.take i ++ xs ++ t.toList.drop (i + xs.length)
  | [], i, t, _ => by simp [setFrom]
  | v :: xs, i, t, h => by
    simp only [List.length_cons] at h
    unfold setFrom
    rw [setFrom_list xs (i + 1) _ (by simp; omega)]
    have e := list_seg_step t.toList i v xs (by simp; omega)
    simpa [Array.toList_setIfInBounds, Nat.add_assoc] using e
theorem FrR.start {σ : Sg} {args : List CV} {xs : List Value} (hx : VRs σ args xs) {m : Nat} (h : args.length + (m - args.length) ≤ 511) :
    FrR σ (argF args 0 (F0 (args.length + (m - args.length)))) { tmps := xs.toArray ++ Array.replicate (m - xs.toArray.size) undef, defers := [] } := by
  have hl := hx.len
  have h0 : FrR σ (F0 (args.length + (m - args.length))) { tmps := Array.replicate (args.length + (m - args.length)) undef, defers := [] } := by
    refine ⟨by simp [F0], by simpa using h, fun i v _ => ?_, ?_, fun i _ _ => fget_F0 _ _⟩
    · rw [fget_F0]; simp only [VR]
    · unfold dfs; rw [fget_F0]; rfl
  have h1 := argF_R hx h0 (i := 0)
  have e : setFrom xs 0 (Array.replicate (args.length + (m - args.length)) undef) = xs.toArray ++ Array.replicate (m - xs.toArray.size) undef := by
    apply Array.ext'
    rw [setFrom_list _ _ _ (by simp; omega)]
    simp [hl]
  rw [e] at h1; exact h1
theorem putPs_R {σ : Sg} {ds : List Deferred} : ∀ {ps : List Nat} {args : List CV} {xs : List Value} {fr fr' : F} {t : Array Value}, VRs σ args xs → FrR σ fr { tmps := t, defers := ds } → putPs ps args fr = some fr' →
    FrR σ fr' { tmps := (ps.zip xs).foldl (fun t (x : Nat × Value) => t.setIfInBounds x.1 x.2) t, defers := ds } ∧ ps.length = xs.length ∧ fget fr' dfSlot = fget fr dfSlot
  | [], [], xs, fr, fr', t, hx, h, hp => by simp only [VRs] at hx; subst hx; cases hp; exact ⟨h, rfl, rfl⟩
  | [], _ :: _, xs, fr, fr', t, hx, h, hp => by cases hp
  | _ :: _, [], xs, fr, fr', t, hx, h, hp => by cases hp
  | p :: ps, c :: args, xs, fr, fr', t, hx, h, hp => by
    simp only [VRs] at hx; obtain ⟨v, ws, rfl, h1, h2⟩ := hx
    unfold putPs at hp
    obtain ⟨g1, g2, g3⟩ := putPs_R h2 (h.set (i := p) h1) hp
    refine ⟨by simpa using g1, by simp [g2], ?_⟩
    rw [g3, dfs_fset (by have := h.small; rw [h.sz]; exact this)]

/-! ### Leaving a body -/
theorem fin_sound {dctrs : List (Nat × Cn)} {db : Nat → Cn} (hD : DsOk P w0 dctrs db) {fn : Func} {a : Act} {l : List Out} {σ0 σ : Sg} {n0 : Nat} {fr : F} {hp : H} {n : Nat} {w : World} (hS : St w0 ro σ0 n0 σ fr hp n a w)
    (h : Good (fin P dctrs db fn fr hp n) (· ∈ l)) : LeavesInM (FF none) 0 P fn a.tmps (fun e w' => ∃ v, e = .returned v ∧ Ret w0 σ0 n0 l v w') a.defers .returning w := by
  unfold fin at h
  refine runDs_sound hD _ _ hS.fr.df hS.rel h (fun σ' hp' n' w' r1 r2 r3 r4 => ?_)
  have hF' := hS.fr.mono r2.1
  have hres : ∃ vs, resV P fr hp' fn.results.toList = some vs ∧ (match vs with | [v] => (⟨v, hp', n'⟩ : Out) | vs => ⟨.tup vs, hp', n'⟩) ∈ l := by
    split at r4
    · rename_i v hv
      obtain ⟨q, hq, hm⟩ := r4
      cases hq
      exact ⟨_, hv, hm _ (by simp)⟩
    · rename_i vs hne hv
      obtain ⟨q, hq, hm⟩ := r4
      cases hq
      refine ⟨_, hv, ?_⟩
      have := hm ⟨.tup vs, hp', n'⟩ (by simp)
      match vs, hne, this with
      | [], _, h => exact h
      | [v], hne, _ => exact (hne v rfl).elim
      | _ :: _ :: _, _, h => exact h
    · exact r4.no.elim
  obtain ⟨vs, hv, hm⟩ := hres
  obtain ⟨us, hu, hr⟩ := resV_sound r1 hF' _ hv
  have hrun := results_run hu
  refine ⟨_, hrun, _, rfl, ?_⟩
  have hx := hS.ex.trans hS.n r2
  have hn := hS.n.trans r3
  have hl := hr.len
  split
  · rename_i h1
    match vs, us, hr, hl with
    | [c], [u], hr, _ =>
      simp only [VRs] at hr
      obtain ⟨v, ws, e, g1, g2⟩ := hr
      cases e
      exact ⟨_, _, hm, g1, r1, hx, hn⟩
    | [], us, _, hl => simp at hl h1; omega
    | [_], [], _, hl => simp at hl
    | [_], _ :: _ :: _, _, hl => simp at hl
    | _ :: _ :: _, us, _, hl => simp at hl h1; omega
  · rename_i h1
    refine ⟨⟨.tup vs, hp', n'⟩, σ', ?_, ?_, r1, hx, hn⟩
    · match vs, hm, hl with
      | [], hm, _ => exact hm
      | [_], _, hl => simp at hl h1; omega
      | _ :: _ :: _, hm, _ => exact hm
    · simp only [VR]; exact ⟨us, hr, rfl⟩

/-! ### Functions -/
/-- What the body of a function must achieve; no panic. -/
def bodyPostN (P : Program) (fn : Func) (R : Ending → World → Prop) : Exit → Act → World → Prop
  | .normal, a, w => LeavesInM (FF none) 0 P fn a.tmps R a.defers .returning w
  | .ret, a, w => LeavesInM (FF none) 0 P fn a.tmps R a.defers .returning w
  | _, _, _ => False
theorem bodyPostN_M {fn : Func} {R : Ending → World → Prop} : ∀ e a w, bodyPostN P fn R e a w → bodyPostM (FF none) 0 P fn R e a w := by
  intro e a w h
  cases e <;> first | exact h | exact h.elim
theorem run_callFunc_enter {f : Nat} {fn : Func} {c : Code} {args : Array Value} {w : World} (hf : P.funcs[f]? = some fn) (hb : fn.body = some c) (hn : (!(fn.name == "runtime.NumGoroutine")) = true) : (callFunc f args).run P w = .ok (.enter f args) w := by
  have hne : fn.name ≠ "runtime.NumGoroutine" := by simpa using hn
  simp [callFunc, hf, hne, hb]
def oneOut (vs : List CV) (hp : H) (n : Nat) : Out := match vs with | [v] => ⟨v, hp, n⟩ | vs => ⟨.tup vs, hp, n⟩
theorem outs_of {r : Option (List CV)} {l : List Out} {hp : H} {n : Nat} (h : Good (match r with | some [v] => some [⟨v, hp, n⟩] | some vs => some [⟨.tup vs, hp, n⟩] | none => none) (· ∈ l)) :
    ∃ vs, r = some vs ∧ oneOut vs hp n ∈ l := by
  split at h
  · rename_i v
    obtain ⟨q, hq, hm⟩ := h
    cases hq
    exact ⟨_, rfl, hm ⟨v, hp, n⟩ (by simp)⟩
  · rename_i vs hne
    obtain ⟨q, hq, hm⟩ := h
    cases hq
    refine ⟨_, rfl, ?_⟩
    have := hm ⟨.tup vs, hp, n⟩ (by simp)
    match vs, hne, this with
    | [], _, h => exact h
    | [v], hne, _ => exact (hne v rfl).elim
    | _ :: _ :: _, _, h => exact h
  · exact h.no.elim
/-- The results that are told, and the ones that the model gives. -/
theorem res_ret {fn : Func} {a : Act} {l : List Out} {σ0 σ' : Sg} {n0 : Nat} {hp' : H} {n' : Nat} {w' : World} {vs : List CV} {us : List Value} (hu : (fn.results.toList.mapM (resF a.tmps)).run P w' = .ok us w') (hr : VRs σ' vs us)
    (hm : oneOut vs hp' n' ∈ l) (r1 : Rel w0 σ' hp' n' w') (hx : Ex n0 σ0 σ') (hn : Nle n0 n') :
    ∃ v, (results fn a.tmps).run P w' = .ok v w' ∧ Ret w0 σ0 n0 l v w' := by
  have hrun := results_run hu
  refine ⟨_, hrun, ?_⟩
  have hl := hr.len
  split
  · rename_i h1
    match vs, us, hr, hl with
    | [c], [u], hr, _ =>
      simp only [VRs] at hr
      obtain ⟨v, ws, e, g1, g2⟩ := hr
      cases e
      exact ⟨_, _, hm, g1, r1, hx, hn⟩
    | [], us, _, hl => simp at hl h1; omega
    | [_], [], _, hl => simp at hl
    | [_], _ :: _ :: _, _, hl => simp at hl
    | _ :: _ :: _, us, _, hl => simp at hl h1; omega
  · rename_i h1
    refine ⟨⟨.tup vs, hp', n'⟩, σ', ?_, ?_, r1, hx, hn⟩
    · match vs, hm, hl with
      | [], hm, _ => exact hm
      | [_], _, hl => simp at hl h1; omega
      | _ :: _ :: _, hm, _ => exact hm
    · simp only [VR]; exact ⟨us, hr, rfl⟩
theorem finD_sound {fn : Func} {a : Act} {l : List Out} {σ0 σ : Sg} {n0 : Nat} {fr : F} {hp : H} {n : Nat} {w : World} (hS : St w0 ro σ0 n0 σ fr hp n a w) (h : Good (finD P fn fr hp n) (· ∈ l)) :
    a.defers = [] ∧ ∃ v, (results fn a.tmps).run P w = .ok v w ∧ ∃ v', Ending.returned v = .returned v' ∧ Ret w0 σ0 n0 l v' w := by
  unfold finD at h
  split at h
  · exact h.no.elim
  · rename_i hnt
    have hd := hS.fr.df
    have e : dfs fr = [] := by
      unfold dfs
      split
      · rename_i l hl; exact absurd hl (hnt l)
      · rfl
    rw [e] at hd
    unfold DfR at hd
    obtain ⟨vs, hv, hm⟩ := outs_of h
    obtain ⟨us, hu, hr⟩ := resV_sound hS.rel hS.fr _ hv
    obtain ⟨v, h1, h2⟩ := res_ret hu hr hm hS.rel hS.ex hS.n
    exact ⟨hd, v, h1, v, rfl, h2⟩
def bodyPostB (P : Program) (fn : Func) (R : Ending → World → Prop) : Exit → Act → World → Prop
  | .normal, a, w => a.defers = [] ∧ ∃ v, (results fn a.tmps).run P w = .ok v w ∧ R (.returned v) w
  | .ret, a, w => a.defers = [] ∧ ∃ v, (results fn a.tmps).run P w = .ok v w ∧ R (.returned v) w
  | _, _, _ => False
theorem bodyPostB_P {fn : Func} {R : Ending → World → Prop} : ∀ e a w, bodyPostB P fn R e a w → bodyPost P fn R e a w := by
  intro e a w h
  cases e <;> first | exact h | exact h.elim
theorem body_sound (hC : CsOk P w0 ctrs bd rd) {dctrs : List (Nat × Cn)} {db : Nat → Cn} (hD : DsOk P w0 dctrs db) {f : Nat} {fn : Func} {c : Code} {args : List CV} {xs : List Value} {σ : Sg} {hp : H} {n : Nat} {w : World} {l : List Out}
    (hf : P.funcs[f]? = some fn) (hb : fn.body = some c) (hsz : args.length + (fn.ntmps - args.length) ≤ 511) (hR : Rel w0 σ hp n w) (hx : VRs σ args xs)
    (h : (sCode P ctrs f c).run bd rd none (argF args 0 (F0 (args.length + (fn.ntmps - args.length)))) hp n ((sFin P dctrs fn).run db) (fun _ _ _ _ => none) ((sFin P dctrs fn).run db) = some l) :
    CallsIn (FF none) 0 P f xs.toArray w (fun e w' => ∃ v, e = .returned v ∧ Ret w0 σ n l v w') := by
  refine callsIn_of_wp_marks hf hb trivial (wpIn_mono (sx_sound (ro := none) (vro := none) hC c (Q := bodyPostN P fn _) (φ := (· ∈ l)) (.inl ⟨rfl, rfl⟩) hR (FrR.start hx hsz) (.inl rfl) ⟨l, h, fun o ho => ho⟩ (fun _ _ _ h => h.elim) ?_ ?_ ?_) bodyPostN_M)
  · exact fun σ' fr' hp' n' a' w' hS hk => fin_sound hD hS (by rw [sFin_eq hS.fr.nj] at hk; exact hk)
  · exact fun i σ' fr' hp' n' a' w' hS hk => hk.no.elim
  · exact fun σ' fr' hp' n' a' w' hS hk => fin_sound hD hS (by rw [sFin_eq hS.fr.nj] at hk; exact hk)
theorem bodyD_sound (hC : CsOk P w0 ctrs bd rd) {db : Nat → Cn} {f : Nat} {fn : Func} {c : Code} {args : List CV} {xs : List Value} {σ : Sg} {hp : H} {n : Nat} {w : World} {l : List Out}
    (hf : P.funcs[f]? = some fn) (hb : fn.body = some c) (hsz : args.length + (fn.ntmps - args.length) ≤ 511) (hR : Rel w0 σ hp n w) (hx : VRs σ args xs)
    (h : (sCode P ctrs f c).run bd rd none (argF args 0 (F0 (args.length + (fn.ntmps - args.length)))) hp n ((sFinD P fn).run db) (fun _ _ _ _ => none) ((sFinD P fn).run db) = some l) :
    CallsDIn (FF none) 0 P f xs.toArray .returning w (fun e u' w' => u' = .returning ∧ ∃ v, e = .returned v ∧ Ret w0 σ n l v w') := by
  refine callsDIn_of_wp hf hb trivial (wpIn_mono (sx_sound (ro := none) (vro := none) hC c (Q := bodyPostB P fn (fun e w' => ∃ v, e = .returned v ∧ Ret w0 σ n l v w')) (φ := (· ∈ l)) (.inl ⟨rfl, rfl⟩) hR (FrR.start hx hsz) (.inl rfl) ⟨l, h, fun o ho => ho⟩ (fun _ _ _ h => h.elim) ?_ ?_ ?_) bodyPostB_P)
  · exact fun σ' fr' hp' n' a' w' hS hk => finD_sound hS (by rw [sFinD_eq hS.fr.nj] at hk; exact hk)
  · exact fun i σ' fr' hp' n' a' w' hS hk => hk.no.elim
  · exact fun σ' fr' hp' n' a' w' hS hk => finD_sound hS (by rw [sFinD_eq hS.fr.nj] at hk; exact hk)

/-! ### Rounds -/
theorem endR_sound {l : Nat} {j : Option Code} {σ0 σ : Sg} {n0 : Nat} {hp : H} {n : Nat} {fr : F} {a : Act} {w : World} {os : List Out} {p t : Nat} (hS : St w0 ro σ0 n0 σ fr hp n a w) (hs : σ l = some (p, t)) (h : Good (round.endR l j hp n) (· ∈ os)) :
    ∃ v w', (Instr.endRound p j).run P w = .ok v w' ∧ ∃ v', Ending.returned v = .returned v' ∧ Ret w0 σ0 n0 os v' w' := by
  unfold round.endR at h
  split at h
  · rename_i fn fr' ps as bo db st pe he
    obtain ⟨q, u, tm, g, h1, h2, h3, h4⟩ := hS.rel.at hs he (by simp)
    have hlt : p < w.heap.size := (Array.getElem?_eq_some_iff.1 h4).1
    obtain ⟨r, hr, hm⟩ := h
    cases hr
    have hR' : Rel w0 σ (hset hp l (.loop fn fr' ps as bo db (if j.isNone then 0 else 2) j)) n (w.putObj p (.loop { state := if j.isNone then .ready else .done, pending := j, fn := g, tmps := tm, params := ps.toArray, assign := as, body := bo, defers := q })) := by
      refine hS.rel.upd hs (by rw [he]; simp) World.putObj_size (fun k hk => World.putObj_heap_other hk) rfl rfl rfl ⟨q, u, tm, g, h1, h2, h3, ?_⟩
      rw [World.putObj_heap_same hlt]
      cases j <;> rfl
    exact ⟨_, _, run_endRound j h4, _, rfl, ⟨.bool j.isNone, hset hp l (.loop fn fr' ps as bo db (if j.isNone then 0 else 2) j), n⟩, σ, hm _ (by simp), by simp only [VR], hR', hS.ex, hS.n⟩
  · exact h.no.elim
theorem round_sound (hC : CsOk P w0 ctrs bd rd) {l : Nat} {args : List CV} {xs : List Value} {σ : Sg} {hp : H} {n : Nat} {w : World} {os : List Out} {p t : Nat} (hR : Rel w0 σ hp n w) (hx : VRs σ args xs) (hs : σ l = some (p, t)) (h : sRound P ctrs bd rd l args hp n = some os) :
    ∃ f tm as bo, (Instr.yield p xs.toArray).run P w = .ok (.round p f tm as bo) w ∧ RoundIn (FF none) 0 P p f tm as bo w (fun e w' => ∃ v, e = .returned v ∧ Ret w0 σ n os v w') := by
  unfold sRound at h
  split at h
  · rename_i fn fr ps assign body db st pend he
    obtain ⟨q, u, tm, g, h1, h2, h3, h4⟩ := hR.at hs he (by simp)
    have hg : Good (bif Nat.beq st 0 then (match putPs ps args (fput fr dfSlot .nili) with
      | some fr => (sCode P ctrs fn assign).run bd rd (some l) fr hp n (fun fr1 hp n => match hget hp l with
        | .loop fn0 fr0 ps0 a0 b0 db0 st0 pend0 => bif Nat.beq st0 0 then (sCode P ctrs fn body).run bd rd (some l) fr1 (hset hp l (.loop fn0 fr0 ps0 a0 b0 db0 1 pend0)) n
            (fun _ hp n => round.endR l none hp n) (fun i _ hp n => round.endR l (some (.exit i)) hp n) (fun _ hp n => round.endR l (some .ret) hp n) else none
        | _ => none) (fun _ _ _ _ => none) (fun _ _ _ => none)
      | none => none) else none) (· ∈ os) := ⟨os, h, fun o ho => ho⟩
    obtain ⟨_, hg⟩ := hg.bif
    split at hg
    · rename_i fr' hfr'
      have hF0 : FrR σ (fput fr dfSlot .nili) { tmps := tm, defers := [] } := by
        refine ⟨by rw [fput_n]; exact h2.1, h2.2.1, fun i v hv => ?_, ?_, fun i h1 h3 => by
          rw [fget_fput _ _ _ _ (by decide) (by omega), if_neg (by unfold dfSlot; omega)]
          exact h2.2.2 i (by rw [fput_n] at h1; exact h1) h3⟩
        · have : i < tm.size := (Array.getElem?_eq_some_iff.1 hv).1
          have h22 := h2.2.1
          rw [fget_fput _ _ _ _ (by decide) (by omega), if_neg (by unfold dfSlot; omega)]
          exact h3 i v hv
        · unfold dfs; rw [fget_fput _ _ _ _ (by decide) (by decide), if_pos rfl]; rfl
      obtain ⟨g1, g2, g3⟩ := putPs_R hx hF0 hfr'
      rw [fget_fput _ _ _ _ (by decide) (by decide), if_pos rfl] at g3
      refine ⟨_, _, _, _, run_yield h4 (by simp [g2]), roundIn_of_wpIn (F := FF none) trivial ?_⟩
      have e : (ps.toArray.zip xs.toArray).foldl (fun tmps (x : Nat × Value) => tmps.setIfInBounds x.1 x.2) tm = (ps.zip xs).foldl (fun t (x : Nat × Value) => t.setIfInBounds x.1 x.2) tm := by
        rw [← Array.foldl_toList]; simp
      have hass := (sx_sound (ro := some p) (vro := some l) hC assign (φ := (· ∈ os))
        (Q := Exit.then (fun a₁ w₁ => ∃ w₂, (Instr.beginRound p).run P w₁ = .ok () w₂ ∧ body.wpIn (FF (some p)) 0 P (roundPost P p (fun e w' => ∃ v, e = .returned v ∧ Ret w0 σ n os v w')) a₁ w₂) (fun _ _ _ => False))
        (.inr ⟨l, p, t, rfl, rfl, hs⟩) hR g1 (.inr g3) hg (fun _ _ _ h => h) ?_ ?_ ?_)
      · have hh : ({ FF none with round := some p } : Fence) = FF (some p) := rfl
        show assign.wpIn (FF (some p)) 0 P _ { tmps := (ps.toArray.zip xs.toArray).foldl (fun tmps (x : Nat × Value) => tmps.setIfInBounds x.1 x.2) tm, defers := [] } w
        rw [e]
        exact hass
      · intro σ1 fr1 hp1 n1 a1 w1 hS hk
        split at hk
        · rename_i fn0 fr0 ps0 a0 b0 db0 st0 pend0 he1
          obtain ⟨c1, hk⟩ := hk.bif
          have c1 := nbq c1
          subst c1
          have hs1 := hS.ex.1 _ _ hs
          obtain ⟨q', u', tm', g', k1, k2, k3, k4⟩ := hS.rel.at hs1 he1 (by simp)
          have hlt : p < w1.heap.size := (Array.getElem?_eq_some_iff.1 k4).1
          refine ⟨_, run_beginRound k4 rfl, ?_⟩
          have hR1 := hS.rel.upd hs1 (by rw [he1]; simp) (w' := w1.putObj p (.loop { state := .busy, pending := pend0, fn := g', tmps := tm', params := ps0.toArray, assign := a0, body := b0, defers := q' })) World.putObj_size (fun k hk => World.putObj_heap_other hk) rfl rfl rfl
            (c := .loop fn0 fr0 ps0 a0 b0 db0 1 pend0) ⟨q', u', tm', g', k1, k2, k3, World.putObj_heap_same hlt⟩
          refine sx_sound (ro := some p) (vro := some l) hC body (φ := (· ∈ os)) (.inr ⟨l, p, t, rfl, rfl, hs1⟩) hR1 hS.fr hS.ro hk (fun _ _ _ h => h) ?_ ?_ ?_
          · exact fun σ2 fr2 hp2 n2 a2 w2 hS2 hk2 => endR_sound (St.trans hS.ex hS.n hS2) (hS2.ex.1 _ _ hs1) hk2
          · exact fun i σ2 fr2 hp2 n2 a2 w2 hS2 hk2 => endR_sound (St.trans hS.ex hS.n hS2) (hS2.ex.1 _ _ hs1) hk2
          · exact fun σ2 fr2 hp2 n2 a2 w2 hS2 hk2 => endR_sound (St.trans hS.ex hS.n hS2) (hS2.ex.1 _ _ hs1) hk2
        · exact hk.no.elim
      · exact fun i σ' fr' hp' n' a' w' hS hk => hk.no.elim
      · exact fun σ' fr' hp' n' a' w' hS hk => hk.no.elim
    · exact hg.no.elim
  · cases h

/-! ### All of it -/
structure GoOk (P : Program) (w0 : World) (ctrs : List (Nat × Option Cn)) (dctrs : List (Nat × Cn)) (g : Nat → Rn) : Prop where
  cs : CsOk P w0 ctrs (g 0) (g 1)
  ds : DsOk P w0 dctrs (g 2)
theorem sFun_body {dctrs : List (Nat × Cn)} {m f : Nat} {db : Rn} {args : List CV} {hp : H} {n : Nat} {l : List Out} (h : (sFun P ctrs dctrs m f).run bd rd db args hp n = some l) :
    ∃ fn c, P.funcs[f]? = some fn ∧ fn.body = some c ∧ (!(fn.name == "runtime.NumGoroutine")) = true ∧ args.length + (fn.ntmps - args.length) ≤ 511 ∧
      (sCode P ctrs f c).run bd rd none (argF args 0 (F0 (args.length + (fn.ntmps - args.length)))) hp n ((sEnd P dctrs m fn).run db) (fun _ _ _ _ => none) ((sEnd P dctrs m fn).run db) = some l := by
  unfold sFun at h
  split at h
  · cases h
  · rename_i fn hfn
    rw [look_eq, Array.getElem?_toList] at hfn
    split at h
    · cases h
    · rename_i c hb
      split at h
      · rename_i hc
        obtain ⟨c1, c4⟩ := bif_t hc
        have c1 := Nat.le_of_ble_eq_true c1
        simp only [brec] at h
        obtain ⟨c3, h⟩ := cbif h
        rw [lenS_eq] at c3
        have c3 := Nat.le_of_ble_eq_true c3
        rw [argS_eq, lenS_eq] at h
        exact ⟨fn, c, hfn, hb, c4, by omega, h⟩
      · cases h
theorem goS_sound {dctrs : List (Nat × Cn)} (hK : ∀ f c, assoc ctrs f = some (some c) → CallOk P w0 f c) (hD : ∀ f c, assoc dctrs f = some c → DctrOk P w0 f c) : ∀ fuel, GoOk P w0 ctrs dctrs (goS P ctrs dctrs fuel)
  | 0 => ⟨⟨hK, fun f args hp n σ w xs l _ _ h => (by cases h), fun f args hp n σ w xs os p t _ _ _ h => (by cases h)⟩, ⟨hD, fun f args hp n σ w xs l _ _ h => (by cases h)⟩⟩
  | fuel + 1 => by
    have ih := goS_sound hK hD fuel
    refine ⟨⟨hK, fun f args hp n σ w xs l hR hx h => ?_, fun f args hp n σ w xs os p t hR hx hs h => ?_⟩, ⟨hD, fun f args hp n σ w xs l hR hx h => ?_⟩⟩
    · have h : (sFun P ctrs dctrs 0 f).run (goS P ctrs dctrs fuel 0) (goS P ctrs dctrs fuel 1) (goS P ctrs dctrs fuel 2) args hp n = some l := h
      obtain ⟨fn, c, hf, hb, hn, hsz, h⟩ := sFun_body h
      exact ⟨run_callFunc_enter hf hb hn, body_sound ih.cs ih.ds hf hb hsz hR hx h⟩
    · have h : sRound P ctrs (goS P ctrs dctrs fuel 0) (goS P ctrs dctrs fuel 1) f args hp n = some os := h
      exact round_sound ih.cs hR hx hs h
    · have h : (sFun P ctrs dctrs 2 f).run (goS P ctrs dctrs fuel 0) (goS P ctrs dctrs fuel 1) (goS P ctrs dctrs fuel 2) args hp n = some l := h
      obtain ⟨fn, c, hf, hb, hn, hsz, h⟩ := sFun_body h
      exact ⟨run_callFunc_enter hf hb hn, bodyD_sound ih.cs hf hb hsz hR hx h⟩
theorem rel0 (w : World) : Rel w (fun _ => none) H0 N0 w := by
  obtain ⟨e1, e2⟩ := idN_mk (lim := 32767) (id := 0) (by omega)
  refine ⟨fun i _ h => absurd (hget_H0 i) h, fun i j p t q u _ _ _ _ _ h => (by cases h), fun i p t h => (by cases h), fun _ _ _ => rfl, ?_, Below.refl _ _⟩
  show limN (mkN 32767 0) ≤ 32768
  rw [e2]; omega
/-- A law without arguments that answers true in the run. -/
theorem yes_sound {dctrs : List (Nat × Cn)} (hK : ∀ w0 f c, assoc ctrs f = some (some c) → CallOk P w0 f c) (hD : ∀ w0 f c, assoc dctrs f = some c → DctrOk P w0 f c) {fuel f : Nat} (h : yes (goS P ctrs dctrs fuel 0 f [] H0 N0) = true) (w : World) :
    Calls P f #[] w fun e w' => e = .returned (.bool true) ∧ Below w.heap.size w w' := by
  unfold yes at h
  split at h
  · rename_i o ho
    have := ((goS_sound (P := P) (w0 := w) (hK w) (hD w) fuel).cs.bd f [] H0 N0 _ w [] [o] (rel0 w) rfl ho).2
    refine (callsIn_wide.1 (show CallsIn Fence.wide 0 P f #[] w _ from this)).mono ?_
    rintro e w' ⟨v, rfl, o', σ', hm, hv, hR, _⟩
    rw [List.mem_singleton] at hm
    subst hm
    split at h
    · rename_i b hb
      rw [hb] at hv
      simp only [VR] at hv
      subst hv; subst h
      exact ⟨rfl, hR.below⟩
    · cases h
  · cases h
end
end Go.Cx
