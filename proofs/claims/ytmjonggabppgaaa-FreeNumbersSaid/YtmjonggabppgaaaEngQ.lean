/- Regions and code: that the symbolic run is the model's. -/
import Derived.Test.YtmjonggabppgaaaEngP
import Derived.Orders
set_option linter.unusedSimpArgs false
set_option linter.unusedVariables false
namespace Go.Eng
open Go.RowKit (Below)

section
variable {G : Type} (S : Sig G) (w0 : World) (F : HProp) {P : Program} {C : Cx}

/-- The run of a body, handed to the run of code: calls by it are the model's calls. -/
def BodyOk (S : Sig G) (w0 : World) (F : HProp) (P : Program) (body : Nat → List SV → St → (SV → St → VC) → VC) : Prop :=
  ∀ (f : Nat) (args : List SV) (st : St) (K : SV → St → VC) (ρ : Env G) (w : World) (xs : List Value) (R : Ending → World → Prop), HSt S w0 F st ρ w → st.ok = true → argsR S ρ args xs → (body f args st K).den S ρ →
    (∀ ρ' sv st' w' v, Next' S w0 F st ρ ρ' st' w' → sv.R S ρ' v → (K sv st').den S ρ' → R (.returned v) w') → Calls P f xs.toArray w R
/-- An entry of the model's own, for a function with no body, keeps a contract. -/
def ExtOk (S : Sig G) (P : Program) (f : FuncId) (sp : Ctr) : Prop := ∀ (ch : Nat → Bool) (w0 : World) (F : HProp) (ρ : Env G) (w : World) (xs : List Value),
  argsR S ρ sp.args xs → (∀ e ∈ sp.reqs, (e.den S ρ).toProp) → Sat w0 (star (hpDen (S.wc ch) ρ w0 sp.pre) F) w →
  ∃ v w', (callFunc f xs.toArray).run P w = .ok (.value v) w' ∧ ∃ ρ', Ext sp.ss.length ρ ρ' ∧ sp.res.R S ρ' v ∧ Sat w0 (star (hpDen (S.wc ch) ρ' w0 sp.post) F) w' ∧ ∀ x ∈ sp.facts, (x.den S ρ').toProp
def CxOk (S : Sig G) (P : Program) (C : Cx) : Prop :=
  (∀ f sps, assoc C.specs f = some sps → ∀ sp ∈ sps, sp.wf = true ∧ CtrOk S P f sp) ∧
  (∀ f l, assoc C.anns f = some l → ∀ i sp args, (i, Ann.ghost sp args) ∈ l → sp.wf = true ∧ GhOk S sp) ∧
  (∀ f sps, assoc C.exts f = some sps → ∀ sp ∈ sps, sp.wf = true ∧ ExtOk S P f sp)

theorem lk_R {ρ : Env G} {fr : List SV} {tm : List Value} (h : FrR S ρ fr tm) : ∀ i, (getSV fr i).R S ρ (tm.getD i undef) := by
  intro i
  induction fr generalizing tm i with
  | nil => exact .inl rfl
  | cons s l ih =>
    cases tm with
    | nil => exact h.elim
    | cons v m =>
      cases i with
      | zero => exact h.1
      | succ i => simpa [getSV] using ih h.2 i
theorem lk_eval {ρ : Env G} {fr : List SV} {a : Act} (h : FrR S ρ fr a.tmps.toList) (x : Operand) : (lk fr x).R S ρ (a.eval x) := by
  cases x with
  | tmp t =>
    have := lk_R S h t
    simp only [lk, Act.eval]
    rw [List.getD_eq_getElem?_getD] at this
    rw [Array.getD_eq_getD_getElem?]
    simpa using this
  | const v => exact litSV_R S ρ v
  | global g =>
    right
    simp only [lk, SV.den, SC.den, Act.eval]
    rw [if_neg (show ¬ ((SX.den S ρ (.int (g : Nat))).toInt < 0) by simp only [SX.den, U.toInt_int]; omega)]; rfl
  | func f => right; rfl
theorem FrR_set {ρ : Env G} : ∀ {fr : List SV} {tm : List Value} (i : Nat) {sv : SV} {v : Value}, FrR S ρ fr tm → sv.R S ρ v → FrR S ρ (setSV fr i sv) (tm.set i v)
  | [], [], i, sv, v, h, hv => by simp [setSV]; trivial
  | s :: l, x :: m, 0, sv, v, h, hv => ⟨hv, h.2⟩
  | s :: l, x :: m, i + 1, sv, v, h, hv => ⟨h.1, FrR_set i h.2 hv⟩
  | [], _ :: _, _, _, _, h, _ => h.elim
  | _ :: _, [], _, _, _, h, _ => h.elim
theorem FrR_put {ρ : Env G} {fr : List SV} {a : Act} {dst : Option Tmp} {sv : SV} {v : Value} (h : FrR S ρ fr a.tmps.toList) (hv : sv.R S ρ v) : FrR S ρ (putDst fr dst sv) (a.put dst v).tmps.toList := by
  cases dst with
  | none => exact h
  | some d =>
    simp only [putDst, Act.put, Array.toList_setIfInBounds]
    exact FrR_set S d h hv
theorem put_defers (a : Act) (dst : Option Tmp) (v : Value) : (a.put dst v).defers = a.defers := by cases dst <;> rfl

theorem next_refl {st : St} {ρ : Env G} {w : World} {ns : List SX} (h : HSt S w0 F st ρ w) (hn : ∀ x ∈ ns, (x.den S ρ).toProp) : Next' S w0 F st ρ ρ (st.add ns) w :=
  ⟨Ext.refl _ _, Nat.le_refl _, rfl, fun _ h => h, ⟨h.hp, fun e he => by
    rcases List.mem_append.1 he with he | he
    · exact hn e he
    · exact h.asm e he⟩⟩
theorem next_trans {st st' st'' : St} {ρ ρ' ρ'' : Env G} {w' w'' : World} (h : Next' S w0 F st ρ ρ' st' w') (k : Next' S w0 F st' ρ' ρ'' st'' w'') : Next' S w0 F st ρ ρ'' st'' w'' :=
  ⟨h.ext.trans k.ext h.le, Nat.le_trans h.le k.le, k.fr.trans h.fr, fun l hl => by have := k.frR l (by rw [h.fr]; exact h.frR l hl); rw [h.fr] at this; exact this, k.hs⟩

theorem capsOf_den {ρ : Env G} : ∀ {g : SC} {f : Nat} {l : List SC}, capsOf g = some (f, l) → g.den S ρ = .func (.func f) #[] (l.map (SC.den S ρ)).toArray := by
  intro g
  induction g with
  | fn f => intro f' l h; cases h; rfl
  | cap g x ih _ =>
    intro f l h
    obtain ⟨⟨f', l'⟩, h1, h⟩ := ob_some h
    cases h
    simp only [SC.den, ih h1]
    simp
  | _ => intro f l h; cases h

theorem argsR_map {ρ : Env G} {L : Operand → SV} {ev : Operand → Value} (hL : ∀ x, (L x).R S ρ (ev x)) : ∀ (l : List Operand), argsR S ρ (l.map L) (l.map ev)
  | [] => trivial
  | x :: l => ⟨hL x, argsR_map hL l⟩
theorem argsR_append {ρ : Env G} : ∀ {a b : List SV} {x y : List Value}, argsR S ρ a x → argsR S ρ b y → argsR S ρ (a ++ b) (x ++ y)
  | [], b, [], y, _, h => h
  | s :: a, b, v :: x, y, h, h' => ⟨h.1, argsR_append h.2 h'⟩
  | [], _, _ :: _, _, h, _ => h.elim
  | _ :: _, _, [], _, h, _ => h.elim
theorem argsR_caps {ρ : Env G} : ∀ (l : List SC), argsR S ρ (l.map SV.one) (l.map (SC.den S ρ))
  | [] => trivial
  | c :: l => ⟨.inr rfl, argsR_caps l⟩

theorem callSpecs_sound {f : Nat} {st : St} {ρ : Env G} {w : World} {args : List SV} {K : SV → St → VC} {xs : List Value} {R : Ending → World → Prop} (hst : HSt S w0 F st ρ w) (hx : argsR S ρ args xs)
    (hK : ∀ ρ' sv st' w' v, Next' S w0 F st ρ ρ' st' w' → sv.R S ρ' v → (K sv st').den S ρ' → R (.returned v) w') :
    ∀ (sps : List Ctr), (∀ sp ∈ sps, sp.wf = true ∧ CtrOk S P f sp) → (callSpecs st args K sps).den S ρ → Calls P f xs.toArray w R
  | [], _, h => h.elim
  | sp :: l, hsp, h => by
    simp only [callSpecs] at h
    split at h
    · rename_i v hv
      obtain ⟨hwf, hok⟩ := hsp sp List.mem_cons_self
      obtain ⟨ch, ρc, F', h1, h2, h3, h4⟩ := callSpec_core S ρ w0 hwf hst hx hv h
      refine (hok ch w0 F' ρc w xs h1 h2 h3).mono ?_
      rintro e w' ⟨ρc', v, he, rfl, hr, hs, hf⟩
      obtain ⟨ρ', sv, st', hn, hsv, hk⟩ := h4 ρc' w' he hs hf
      exact hK ρ' sv st' w' v hn (hsv v hr) hk
    · exact callSpecs_sound hst hx hK l (fun sp hm => hsp sp (List.mem_cons_of_mem _ hm)) h

theorem callExts_sound {f : Nat} {st : St} {ρ : Env G} {w : World} {args : List SV} {K : SV → St → VC} {xs : List Value} {R : Ending → World → Prop} (hst : HSt S w0 F st ρ w) (hx : argsR S ρ args xs)
    (hK : ∀ ρ' sv st' w' v, Next' S w0 F st ρ ρ' st' w' → sv.R S ρ' v → (K sv st').den S ρ' → R (.returned v) w') :
    ∀ (sps : List Ctr), (∀ sp ∈ sps, sp.wf = true ∧ ExtOk S P f sp) → (callSpecs st args K sps).den S ρ → ∃ v w', (callFunc f xs.toArray).run P w = .ok (.value v) w' ∧ R (.returned v) w'
  | [], _, h => h.elim
  | sp :: l, hsp, h => by
    simp only [callSpecs] at h
    split at h
    · rename_i v hv
      obtain ⟨hwf, hok⟩ := hsp sp List.mem_cons_self
      obtain ⟨ch, ρc, F', h1, h2, h3, h4⟩ := callSpec_core S ρ w0 hwf hst hx hv h
      obtain ⟨v, w', hrun, ρc', he, hr, hs, hf⟩ := hok ch w0 F' ρc w xs h1 h2 h3
      obtain ⟨ρ', sv, st', hn, hsv, hk⟩ := h4 ρc' w' he hs hf
      exact ⟨v, w', hrun, hK ρ' sv st' w' v hn (hsv v hr) hk⟩
    · exact callExts_sound hst hx hK l (fun sp hm => hsp sp (List.mem_cons_of_mem _ hm)) h

theorem callFn_sound {body : Nat → List SV → St → (SV → St → VC) → VC} (hb : BodyOk S w0 F P body) (hC : CxOk S P C) {st : St} {f : Nat} {ρ : Env G} {w : World} {args : List SV} {K : SV → St → VC} {xs : List Value} {R : Ending → World → Prop}
    (hst : HSt S w0 F st ρ w) (hx : argsR S ρ args xs) (h : (callFn P C body st f args K).den S ρ)
    (hK : ∀ ρ' sv st' w' v, Next' S w0 F st ρ ρ' st' w' → sv.R S ρ' v → (K sv st').den S ρ' → R (.returned v) w') :
    ((callFunc f xs.toArray).run P w = .ok (.enter f xs.toArray) w ∧ Calls P f xs.toArray w R) ∨ (∃ v w', (callFunc f xs.toArray).run P w = .ok (.value v) w' ∧ R (.returned v) w') := by
  unfold callFn at h
  split at h
  · exact h.elim
  · rename_i fn hfn
    cases hnm : (fn.name == "runtime.NumGoroutine")
    · cases hbd : fn.body.isSome
      · rw [hbd, hnm] at h
        simp only [cond_false] at h
        split at h
        · rename_i sps hs
          exact .inr (callExts_sound S w0 F hst hx hK sps (hC.2.2 f sps hs) h)
        · exact h.elim
      · rw [hbd, hnm] at h
        simp only [cond_true, cond_false] at h
        refine .inl ⟨?_, ?_⟩
        · have hnone : fn.body.isNone = false := by cases hq : fn.body <;> simp [hq] at hbd ⊢
          have hne : fn.name ≠ "runtime.NumGoroutine" := by simpa using hnm
          have hbn : fn.body ≠ none := by intro hq; rw [hq] at hnone; cases hnone
          simp [callFunc, hfn, hne, hbn]
        · split at h
          · rename_i sps hs
            exact callSpecs_sound S w0 F hst hx hK sps (hC.1 f sps hs) h
          · cases hok : st.ok
            · rw [hok] at h; exact h.elim
            · rw [hok] at h
              exact hb f args st K ρ w xs R hst hok hx h hK
    · rw [hnm] at h; exact h.elim

/-- One operation. -/
theorem doOp_sound {body : Nat → List SV → St → (SV → St → VC) → VC} (hb : BodyOk S w0 F P body) (hC : CxOk S P C) {st : St} {o : Oper} {ρ : Env G} {w : World} {K : SV → St → VC} {a : Act} {next : Act → World → Prop} {Q : Exit → Act → World → Prop}
    (hst : HSt S w0 F st ρ w) (hL : ∀ x, (lk st.fr x).R S ρ (a.eval x)) (h : (doOp P C body st o K).den S ρ)
    (hK : ∀ ρ' sv st' w' v, Next' S w0 F st ρ ρ' st' w' → sv.R S ρ' v → (K sv st').den S ρ' → next (a.put o.dst v) w') : o.wp P a w next Q := by
  unfold doOp at h
  cases hq : quietOp P o.op
  · rw [hq] at h
    simp only [cond_false] at h
    have lopcase : (lop P st o.op K).den S ρ → o.wp P a w next Q := fun hl => by
      obtain ⟨w', hr⟩ := lop_sound S ρ w0 hst hL hl
      unfold Oper.wp
      rcases hr with ⟨v, hrun, ρ', sv, st', hn, hsv, hk⟩ | ⟨hrun, ρ', sv, st', hn, hsv, hk⟩
      · rw [hrun]; exact hK ρ' sv st' w' v hn hsv hk
      · rw [hrun]; exact hK ρ' sv st' w' undef hn hsv hk
    split at h
    · rename_i c hop
      split at h
      · rename_i f hcal
        split at h
        · rename_i g hg
          split at h
          · rename_i f' caps hcaps
            have hgd := R_one S ρ (hg ▸ hL f)
            rw [capsOf_den S hcaps] at hgd
            have hargs := argsR_append S (argsR_map S hL c.args.toList) (argsR_caps S (ρ := ρ) caps)
            have hcf := callFn_sound S w0 F hb hC (R := fun e w'' => match e with | .returned v => next (a.put o.dst v) w'' | .panicked chain => Q (.panic chain) a w'' | .outgrown => LetsOut Q) hst hargs h
              (fun ρ' sv st' w' v hn hsv hk => hK ρ' sv st' w' v hn hsv hk)
            have hrun : (execOp a.eval o).run P w = (callFunc f' (c.args.toList.map a.eval ++ caps.map (SC.den S ρ)).toArray).run P w := by
              unfold execOp
              rw [hop]
              have harr : (c.args.map a.eval ++ (caps.map (SC.den S ρ)).toArray) = (c.args.toList.map a.eval ++ caps.map (SC.den S ρ)).toArray := by apply Array.ext'; simp
              rw [← harr]
              simp [resolve, hcal, hgd, Deferred.ofValue, invoke]
            unfold Oper.wp
            rcases hcf with ⟨h1, h2⟩ | ⟨v, w', h1, h2⟩
            · rw [hrun, h1, Oper.upon_enter]
              exact h2.mono (fun e w' hh => by cases e <;> exact hh)
            · rw [hrun, h1]
              exact h2
          · exact h.elim
        · exact h.elim
      · exact lopcase h
    · exact lopcase h
  · rw [hq] at h
    simp only [cond_true] at h
    split at h
    · rename_i ns v hv
      obtain ⟨hn, hk⟩ := needs_den S ρ h
      obtain ⟨x, hrun, hx⟩ := qev_sound S ρ w0 hst.asm hst.hp hL hv hn
      unfold Oper.wp
      rw [hrun]
      exact hK ρ v (st.add ns) w x (next_refl S w0 F hst hn) hx hk
    · exact h.elim

/-! ### Guards -/
theorem guard_sound {ρ : Env G} {fr : List SV} {a : Act} (h : FrR S ρ fr a.tmps.toList) (ops : Array Oper) (o : Oper) :
    match guardOf ops fr o with
    | .go => Region.wanted o (yielded ops a.tmps) = true
    | .skip => Region.wanted o (yielded ops a.tmps) = false
    | .ask d e want => (getSV fr d = .one (.bool e)) ∧ ((e.den S ρ).toBool = want → Region.wanted o (yielded ops a.tmps) = true) ∧ ((e.den S ρ).toBool ≠ want → Region.wanted o (yielded ops a.tmps) = false)
    | .bad => True := by
  unfold guardOf
  cases hg : o.guard with
  | none => simp [Region.wanted, hg]
  | some jw =>
    obtain ⟨j, want⟩ := jw
    simp only
    cases hd : (ops[j]?).bind (·.dst) with
    | none => simp
    | some d =>
      simp only
      have hr := lk_R S h d
      have key : ∀ e, getSV fr d = .one (.bool e) → yielded ops a.tmps j = some (e.den S ρ).toBool := fun e he => by
        rw [he] at hr
        have := R_one S ρ hr
        have hlt : a.tmps[d]? = some (.bool (e.den S ρ).toBool) := by
          rw [List.getD_eq_getElem?_getD] at this
          cases hx : a.tmps.toList[d]? with
          | none => rw [hx] at this; simp [undef, SC.den] at this
          | some v => rw [hx] at this; simp only [Option.getD_some] at this; rw [← Array.getElem?_toList, hx, this]; rfl
        unfold yielded
        rw [hd]
        simp only [Option.bind_some, hlt]
      cases hgs : getSV fr d with
      | one c =>
        cases c with
        | bool e =>
          have hy := key e hgs
          have ask : (getSV fr d = .one (.bool e)) ∧ ((e.den S ρ).toBool = want → Region.wanted o (yielded ops a.tmps) = true) ∧ ((e.den S ρ).toBool ≠ want → Region.wanted o (yielded ops a.tmps) = false) :=
            ⟨hgs, fun hw => by simp [Region.wanted, hg, hy, hw], fun hw => by simp [Region.wanted, hg, hy, hw]⟩
          cases e with
          | bool b =>
            simp only
            cases hbq : bbq b want
            · simp only [cond_false]
              refine ask.2.2 ?_
              simp only [SX.den, U.toBool_bool]
              rintro rfl; cases b <;> simp [bbq] at hbq
            · simp only [cond_true]
              exact ask.2.1 (bbq_eq hbq)
          | _ => simp only; exact ask
        | _ => trivial
      | _ => trivial

theorem srt_bool {ρ : Env G} {e : SX} (h : sq e.srt .bool = true) : e.den S ρ = .bool (e.den S ρ).toBool := by
  have := SX.srt_co S ρ e
  rw [sq_eq h] at this
  exact this.symm
theorem assume_sound {st : St} {ρ : Env G} {w : World} {a : Act} {d : Nat} {e : SX} {b : Bool} {k : St → VC} (hd : Den S ρ w0 F st a w) (hs : getSV st.fr d = .one (.bool e)) (hb : (e.den S ρ).toBool = b)
    (h : (assume st d e b k).den S ρ) : ∃ st', Den S ρ w0 F st' a w ∧ st'.n = st.n ∧ (k st').den S ρ := by
  unfold assume at h
  simp only at h
  cases hq : sq e.srt .bool
  · rw [hq] at h; exact h.elim
  rw [hq] at h
  simp only [cond_true] at h
  obtain ⟨x, hx⟩ : ∃ x, e.den S ρ = .bool x := ⟨_, srt_bool S hq⟩
  have hx' : x = b := by rw [hx] at hb; exact hb
  subst hx'
  have e1 : ((bif x then e else eNot e).den S ρ).toProp := by
    cases x
    · rw [cond_false, eNot_den, hx]; rfl
    · rw [cond_true, hx]; rfl
  have e2 : ¬ ((bif x then eNot e else e).den S ρ).toProp := by
    cases x
    · rw [cond_false, hx]; simp
    · rw [cond_true, eNot_den, hx]; simp
  cases hin : inAsm (bif x then eNot e else e) st.asm
  · rw [hin] at h
    simp only [cond_false] at h
    refine ⟨{ st with fr := setSV st.fr d (.one (.bool (.bool x))), asm := (bif x then e else eNot e) :: st.asm }, ⟨?_, hd.df, hd.hp, ?_⟩, rfl, h e1⟩
    · have hr := lk_R S hd.fr d
      rw [hs] at hr
      have hv := R_one S ρ hr
      by_cases hlt : d < a.tmps.toList.length
      · have hset : a.tmps.toList = a.tmps.toList.set d (.bool x) := by
          rw [List.getD_eq_getElem?_getD, List.getElem?_eq_getElem hlt] at hv
          simp only [Option.getD_some, SC.den, hx, U.toBool_bool] at hv
          rw [← hv, List.set_getElem_self]
        have := FrR_set S d (sv := .one (.bool (.bool x))) (v := .bool x) hd.fr (.inr rfl)
        rw [← hset] at this; exact this
      · exfalso
        rw [List.getD_eq_getElem?_getD, List.getElem?_eq_none (by omega)] at hv
        simp [undef, SC.den] at hv
    · intro y hy
      rcases List.mem_cons.1 hy with rfl | hy
      · exact e1
      · exact hd.asm y hy
  · exact absurd (hd.asm _ (inAsm_mem hin)) e2

theorem den_next {st st' : St} {ρ ρ' : Env G} {w w' : World} {a : Act} {dst : Option Tmp} {sv : SV} {v : Value} (hd : Den S ρ w0 F st a w) (hn : Next' S w0 F st ρ ρ' st' w') (hv : sv.R S ρ' v) :
    Den S ρ' w0 F { st' with fr := putDst st'.fr dst sv } (a.put dst v) w' :=
  ⟨FrR_put S (by rw [hn.fr]; exact hn.frR _ hd.fr) hv, by rw [put_defers]; exact hd.df, hn.hs.hp, hn.hs.asm⟩
theorem den_skip {st : St} {ρ : Env G} {w : World} {a : Act} {dst : Option Tmp} (hd : Den S ρ w0 F st a w) : Den S ρ w0 F { st with fr := putDst st.fr dst .junk } (a.put dst undef) w :=
  ⟨FrR_put S hd.fr (.inl rfl), by rw [put_defers]; exact hd.df, hd.hp, hd.asm⟩
theorem den_hst {st : St} {ρ : Env G} {w : World} {a : Act} (hd : Den S ρ w0 F st a w) : HSt S w0 F st ρ w := ⟨hd.hp, hd.asm⟩
theorem ask_bool {ρ : Env G} {e : SX} {fr : List SV} {tm : List Value} {d : Nat} (h : FrR S ρ fr tm) (hs : getSV fr d = .one (.bool e)) : True := trivial

/-- What a state's later states may be. -/
def After (st : St) (ρ : Env G) (ρ' : Env G) (st' : St) (a' : Act) (w' : World) : Prop := Ext st.n ρ ρ' ∧ st.n ≤ st'.n ∧ Den S ρ' w0 F st' a' w'
theorem After.step {st st1 st' : St} {ρ ρ1 ρ' : Env G} {a' : Act} {w' : World} (h : Ext st.n ρ ρ1) (hn : st.n ≤ st1.n) (k : After S w0 F st1 ρ1 ρ' st' a' w') : After S w0 F st ρ ρ' st' a' w' :=
  ⟨h.trans k.1 hn, Nat.le_trans hn k.2.1, k.2.2⟩

/-- A region in the order of its text. -/
theorem seqR_sound {body : Nat → List SV → St → (SV → St → VC) → VC} (hb : BodyOk S w0 F P body) (hC : CxOk S P C) {ops : Array Oper} {K : St → VC} {Q : Exit → Act → World → Prop} :
    ∀ (l : List Oper) (st : St) (ρ : Env G) (a : Act) (w : World), Den S ρ w0 F st a w → (seqR P C body ops l st K).den S ρ →
      (∀ ρ' st' a' w', After S w0 F st ρ ρ' st' a' w' → (K st').den S ρ' → Q .normal a' w') → wpList P ops Q l a w
  | [], st, ρ, a, w, hd, h, hK => wpList_nil (hK ρ st a w ⟨Ext.refl _ _, Nat.le_refl _, hd⟩ h)
  | o :: rest, st, ρ, a, w, hd, h, hK => by
    simp only [seqR] at h
    have hg := guard_sound S hd.fr ops o
    have go : ∀ st1, Den S ρ w0 F st1 a w → st1.n = st.n → Region.wanted o (yielded ops a.tmps) = true →
        (doOp P C body st1 o fun v st => seqR P C body ops rest { st with fr := putDst st.fr o.dst v } K).den S ρ → wpList P ops Q (o :: rest) a w := by
      intro st1 hd1 hn1 hw h1
      refine wpList_step fun K' hK' => ?_
      rw [if_pos hw]
      refine doOp_sound S w0 F hb hC (den_hst S w0 F hd1) (fun x => lk_eval S hd1.fr x) h1 ?_
      intro ρ' sv st' w' v hn hsv hk
      refine hK' _ _ (seqR_sound hb hC rest _ ρ' _ w' (den_next S w0 F hd1 hn hsv) hk ?_)
      intro ρ2 st2 a2 w2 haf hk2
      exact hK _ _ _ _ (After.step S w0 F (st1 := st') (by rw [← hn1]; exact hn.ext) (by rw [← hn1]; exact hn.le) haf) hk2
    have skip : ∀ st1, Den S ρ w0 F st1 a w → st1.n = st.n → Region.wanted o (yielded ops a.tmps) = false →
        (seqR P C body ops rest { st1 with fr := putDst st1.fr o.dst .junk } K).den S ρ → wpList P ops Q (o :: rest) a w := by
      intro st1 hd1 hn1 hw h1
      refine wpList_step fun K' hK' => ?_
      rw [if_neg (by rw [hw]; simp)]
      refine hK' _ _ (seqR_sound hb hC rest _ ρ _ w (den_skip S w0 F hd1) h1 ?_)
      intro ρ2 st2 a2 w2 haf hk2
      exact hK _ _ _ _ (After.step S w0 F (st1 := { st1 with fr := putDst st1.fr o.dst .junk }) (Ext.refl _ _) (Nat.le_of_eq hn1.symm) haf) hk2
    split at h
    · rename_i he; rw [he] at hg; exact go st hd rfl hg h
    · rename_i he; rw [he] at hg; exact skip st hd rfl hg h
    · rename_i d e want he
      rw [he] at hg
      obtain ⟨hs, hy, hno⟩ := hg
      obtain ⟨ht, hf⟩ := h
      by_cases hw : (e.den S ρ).toBool = want
      · obtain ⟨st1, hd1, hn1, h1⟩ := assume_sound S w0 F hd hs hw ht
        exact go st1 hd1 hn1 (hy hw) h1
      · have hw' : (e.den S ρ).toBool = !want := by cases hx : (e.den S ρ).toBool <;> cases want <;> simp_all
        obtain ⟨st1, hd1, hn1, h1⟩ := assume_sound S w0 F hd hs hw' hf
        exact skip st1 hd1 hn1 (hno hw) h1
    · exact h.elim

/-! ### A region that draws its order -/
/-- Whatever order is picked from here on; what 'T' says of the operations that have been carried out holds behind each. -/
def wpAnyS (P : Program) (ops : Array Oper) (Q : Exit → Act → World → Prop) (T : Array Bool → World → Prop) : Nat → Array Bool → Act → World → Prop
  | 0, listed, a, w => Region.ready .any ops listed = [] ∧ Q .normal a w
  | fuel + 1, listed, a, w =>
    (Region.ready .any ops listed = [] → Q .normal a w) ∧
    ∀ i ∈ Region.ready .any ops listed, wpOp P ops Q i (fun a' w' => T (listed.setIfInBounds i true) w' ∧ wpAnyS P ops Q T fuel (listed.setIfInBounds i true) a' w') a w
theorem wpAny_of_S {ops : Array Oper} {Q : Exit → Act → World → Prop} {T : Array Bool → World → Prop} : ∀ (fuel : Nat) (listed : Array Bool) (a : Act) (w : World), wpAnyS P ops Q T fuel listed a w → wpAny P .any ops Q fuel listed a w
  | 0, _, _, _, h => h
  | fuel + 1, _, _, _, h => ⟨h.1, fun i hi => wpOp_mono (fun a' w' h' => wpAny_of_S fuel _ a' w' h'.2) (h.2 i hi)⟩
theorem wpAnyS_mono {ops : Array Oper} {Q : Exit → Act → World → Prop} {T T' : Array Bool → World → Prop} (hT : ∀ l w, T l w → T' l w) : ∀ (fuel : Nat) (listed : Array Bool) (a : Act) (w : World), wpAnyS P ops Q T fuel listed a w → wpAnyS P ops Q T' fuel listed a w
  | 0, _, _, _, h => h
  | fuel + 1, _, _, _, h => ⟨h.1, fun i hi => wpOp_mono (fun a' w' h' => ⟨hT _ _ h'.1, wpAnyS_mono hT fuel _ a' w' h'.2⟩) (h.2 i hi)⟩

/-- What has been listed has what it waits for listed. -/
def Closed (ops : Array Oper) (listed : Array Bool) : Prop := ∀ j o, ops[j]? = some o → listed.getD j true = true → ∀ e ∈ o.after, Region.binds .any e = true → listed.getD e.on false = true
def YieldsT (P : Program) (ops : Array Oper) (T : Array Bool → World → Prop) (i : Nat) (o : Oper) (v : Value) (a : Act) : Prop :=
  (Region.wanted o (yielded ops a.tmps) = true ∧ ∀ l w, Closed ops l → l.getD i true = false → T l w → (execOp a.eval o).run P w = .ok (.value v) w) ∨
  (Region.wanted o (yielded ops a.tmps) = false ∧ v = undef)
theorem YieldsT.wpOp {ops : Array Oper} {Q : Exit → Act → World → Prop} {T : Array Bool → World → Prop} {i : Nat} {o : Oper} {v : Value} {a : Act} (hi : ops[i]? = some o) (hy : YieldsT P ops T i o v a)
    {l : Array Bool} {K : Act → World → Prop} {w : World} (hc : Closed ops l) (hl : l.getD i true = false) (hT : T l w) (h : K (a.put o.dst v) w) : wpOp P ops Q i K a w := by
  unfold Go.wpOp
  simp only [hi]
  rcases hy with ⟨hw, hv⟩ | ⟨hw, rfl⟩
  · simp only [hw, if_true, Oper.wp, hv l w hc hl hT, Oper.upon]; exact .inl h
  · simp only [hw, Bool.false_eq_true, if_false]; exact h
theorem YieldsT.of_same {ops : Array Oper} {T : Array Bool → World → Prop} {i : Nat} {o : Oper} {v : Value} {a a' : Act} (hy : YieldsT P ops T i o v a) (he : execOp a'.eval o = execOp a.eval o)
    (hw : Region.wanted o (yielded ops a'.tmps) = Region.wanted o (yielded ops a.tmps)) : YieldsT P ops T i o v a' := by
  unfold YieldsT at *
  rw [he, hw]
  exact hy

theorem wpOp_putT {ops : Array Oper} {Q : Exit → Act → World → Prop} {T : Array Bool → World → Prop} {i j : Nat} {oi oj : Oper} {v : Value} (hj : ops[j]? = some oj) (hap : oi.apart ops oj = true)
    (hsi : ∀ cs b, oi.op ≠ .select cs b) (hsj : ∀ cs b, oj.op ≠ .select cs b)
    (hQ : ∀ c a w, Q (.panic c) (a.put oi.dst v) w → Q (.panic c) a w) {K : Act → World → Prop} {a : Act} {w : World}
    (hy : YieldsT P ops T i oi v a) (h : wpOp P ops Q j K (a.put oi.dst v) w) :
    wpOp P ops Q j (fun a' w' => YieldsT P ops T i oi v a' ∧ K (a'.put oi.dst v) w') a w := by
  obtain ⟨h1, h2, h3⟩ := Oper.apart_spec hap
  have keep : ∀ (a : Act), YieldsT P ops T i oi v a → ∀ u, YieldsT P ops T i oi v (a.put oj.dst u) := fun a hy u =>
    hy.of_same (execOp_put oi hsi a oj.dst u h3) (wanted_put oi a oj.dst u h3)
  have keepD : ∀ d, YieldsT P ops T i oi v { a with defers := d :: a.defers } := fun d => hy.of_same rfl rfl
  unfold wpOp at *
  simp only [hj] at *
  rw [wanted_put oj a oi.dst v h1] at h
  split
  · rename_i hw
    simp only [hw, if_true] at h
    rcases h with h | ⟨hasks, hlets⟩
    case inr => exact .inr ⟨by unfold Oper.asks at *; rw [execOp_put oj hsj a oi.dst v h1] at hasks; exact hasks, hlets⟩
    refine .inl ?_
    unfold Oper.wp at *
    rw [execOp_put oj hsj a oi.dst v h1] at h
    generalize (execOp a.eval oj).run P w = r at *
    cases r with
    | ok n w' =>
      cases n <;> simp only [Oper.upon] at h ⊢
      case value u => exact ⟨keep a hy u, by rw [← Act.put_comm a v u h2]; exact h⟩
      case skip => exact ⟨keep a hy _, by rw [← Act.put_comm a v undef h2]; exact h⟩
      case defer d =>
        refine ⟨keep _ (keepD d) _, ?_⟩
        rw [← Act.put_comm _ v undef h2, ← Act.put_defers]
        exact h
      case enter f args =>
        refine Calls.mono h fun e w'' he => ?_
        cases e with
        | returned u => exact ⟨keep a hy u, by rw [← Act.put_comm a v u h2]; exact he⟩
        | panicked c => exact hQ _ _ _ he
        | outgrown => exact he
      case row row args => exact Rows.mono h fun u w'' he => ⟨keep a hy u, by rw [← Act.put_comm a v u h2]; exact he⟩
    | halt x w' =>
      cases x <;> simp only [Oper.upon] at h ⊢
      case panic u => exact hQ _ _ _ h
  · rename_i hw
    simp only [hw] at h
    exact ⟨keep a hy _, by rw [← Act.put_comm a v undef h2]; exact h⟩

theorem Closed.set {ops : Array Oper} {l : Array Bool} {i : Nat} (h : Closed ops l) (hi : i ∈ Region.ready .any ops l) : Closed ops (l.setIfInBounds i true) := by
  intro j o hj hl e he hb
  by_cases hji : j = i
  · subst hji
    obtain ⟨_, o', ho', hall⟩ := mem_ready.1 hi
    rw [hj] at ho'; cases ho'
    exact getD_set_true (hall e he hb)
  · rw [getD_set_ne true (Ne.symm hji)] at hl
    exact getD_set_true (h j o hj hl e he hb)

/-- **An operation that may come up now may be taken first**, if it answers so whenever it may come up. -/
theorem wpAnyS_first {ops : Array Oper} {Q : Exit → Act → World → Prop} {T : Array Bool → World → Prop} {i : Nat} {oi : Oper} {v : Value} (hi : ops[i]? = some oi) (hsel : ∀ (j : Nat) (o : Oper) cs b, ops[j]? = some o → o.op ≠ .select cs b)
    (hQ : ∀ c a w, Q (.panic c) (a.put oi.dst v) w → Q (.panic c) a w) (hTi : ∀ l w, T (l.setIfInBounds i true) w → T l w) :
    ∀ (fuel : Nat) (listed : Array Bool) (a : Act) (w : World), Closed ops listed →
      (∀ j oj, ops[j]? = some oj → j ≠ i → listed.getD j true = false → (∀ e ∈ oj.after, Region.binds .any e = true → e.on ≠ i) → oi.apart ops oj = true) →
      i ∈ Region.ready .any ops listed → YieldsT P ops T i oi v a → T listed w → T (listed.setIfInBounds i true) w →
      wpAnyS P ops Q T fuel (listed.setIfInBounds i true) (a.put oi.dst v) w → wpAnyS P ops Q T (fuel + 1) listed a w := by
  intro fuel
  induction fuel with
  | zero =>
    intro listed a w hc _ hr hy hT hT' H
    refine ⟨fun h => (by rw [h] at hr; cases hr), fun j hj => ?_⟩
    by_cases hji : j = i
    · subst hji; exact hy.wpOp hi hc (mem_ready.1 hr).1 hT ⟨hT', H⟩
    · have := ready_mono hj hji
      rw [H.1] at this
      cases this
  | succ fuel ih =>
    intro listed a w hc hfree hr hy hT hT' H
    refine ⟨fun h => (by rw [h] at hr; cases hr), fun j hj => ?_⟩
    by_cases hji : j = i
    · subst hji; exact hy.wpOp hi hc (mem_ready.1 hr).1 hT ⟨hT', H⟩
    · have h1 := H.2 j (ready_mono hj hji)
      obtain ⟨hjun, oj, hoj, hall⟩ := mem_ready.1 hj
      have hnot : ∀ e ∈ oj.after, Region.binds .any e = true → e.on ≠ i := fun e he hb heq => by
        have h1 := hall e he hb
        have h0 := (mem_ready.1 hr).1
        rw [heq] at h1
        rcases Nat.lt_or_ge i listed.size with h' | h'
        · simp [h'] at h0 h1; rw [h0] at h1; cases h1
        · simp [Array.getElem?_eq_none h'] at h1
      have h2 := wpOp_putT hoj (hfree j oj hoj hji hjun hnot) (fun cs b => hsel i oi cs b hi) (fun cs b => hsel j oj cs b hoj) hQ hy h1
      have hfree' : ∀ k ok, ops[k]? = some ok → k ≠ i → (listed.setIfInBounds j true).getD k true = false →
          (∀ e ∈ ok.after, Region.binds .any e = true → e.on ≠ i) → oi.apart ops ok = true := fun k ok hk hki hun hno => by
        refine hfree k ok hk hki ?_ hno
        by_cases hjk : j = k
        · subst hjk; exact hjun
        · rw [getD_set_ne true hjk] at hun; exact hun
      refine wpOp_mono (fun a' w' h3 => ?_) h2
      obtain ⟨hy', hT3, H3⟩ := h3
      rw [Array.setIfInBounds_comm _ _ (Ne.symm hji)] at hT3 H3
      have hT4 := hTi _ _ hT3
      exact ⟨hT4, ih (listed.setIfInBounds j true) a' w' (hc.set hj) hfree' (ready_mono hr (Ne.symm hji)) hy' hT4 hT3 H3⟩
end
end Go.Eng
