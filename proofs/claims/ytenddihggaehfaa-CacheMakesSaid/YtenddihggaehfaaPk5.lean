/- All that the laws need. -/
import Derived.Test.YtenddihggaehfaaPk4
import Derived.Orders
import Derived.Lib.Overlaps
import Derived.Test.YtenddihggaehfaaPk2
set_option linter.unusedSimpArgs false
set_option linter.unusedVariables false
namespace Go.Eng
noncomputable section
open Go.RowKit (Below)

section
variable {G : Type} (S : Sig G) (w0 : World) (F : HProp) {P : Program} {C : Cx}

/-- The run of a body, handed to the run of code: calls by it are the model's calls. -/
def BodyOk (S : Sig G) (w0 : World) (F : HProp) (P : Program) (body : Nat → List SV → St → (SV → St → VC) → VC) : Prop :=
  ∀ (f : Nat) (args : List SV) (st : St) (K : SV → St → VC) (ρ : Env G) (w : World) (xs : List Value) (R : Ending → World → Prop), HSt S w0 F st ρ w → st.ok = true → argsR S ρ args xs → (body f args st K).den S ρ →
    (∀ ρ' sv st' w' v, Next' S w0 F st ρ ρ' st' w' → sv.R S ρ' v → (K sv st').den S ρ' → R (.returned v) w') → Calls P f xs.toArray w R
/-- An entry of the model's own, for a function with no body, keeps a contract. -/
def ExtOk (S : Sig G) (P : Program) (f : FuncId) (sp : Ctr) : Prop := ∀ (ch : Nat → Bool) (w0 : World) (F : HProp) (ρ : Env G) (w : World) (xs : List Value),
  argsR S ρ sp.args xs → (∀ e ∈ sp.reqs, (e.den S ρ).toProp) → Sat w0 (star (hpDen (S.wc ch) ρ w0 sp.pre) F) w →
  ∃ v w', (callFunc f xs.toArray).run P w = .ok (.value v) w' ∧ ∃ ρ', Ext sp.ss.length ρ ρ' ∧ sp.res.R S ρ' v ∧ Sat w0 (star (hpDen (S.wc ch) ρ' w0 sp.post) F) w' ∧ ∀ x ∈ sp.facts, (x.den S ρ').toProp
def CxOk (S : Sig G) (P : Program) (C : Cx) : Prop :=
  (∀ f sps, assoc C.specs f = some sps → ∀ sp ∈ sps, sp.wf = true ∧ CtrOk S P f sp) ∧
  (∀ f l, assoc C.anns f = some l → ∀ i sp args, (i, Ann.ghost sp args) ∈ l → sp.wf = true ∧ GhOk S sp) ∧
  (∀ f sps, assoc C.exts f = some sps → ∀ sp ∈ sps, sp.wf = true ∧ ExtOk S P f sp)

theorem lk_R {ρ : Env G} {fr : List SV} {tm : List Value} (h : FrR S ρ fr tm) : ∀ i, (getSV fr i).R S ρ (tm.getD i undef) := by
  intro i
  induction fr generalizing tm i with
  | nil => exact .inl rfl
  | cons s l ih =>
    cases tm with
    | nil => exact h.elim
    | cons v m =>
      cases i with
      | zero => exact h.1
      | succ i => simpa [getSV_succ] using ih h.2 i
theorem lk_eval {ρ : Env G} {fr : List SV} {a : Act} (h : FrR S ρ fr a.tmps.toList) (x : Operand) : (lk fr x).R S ρ (a.eval x) := by
  cases x with
  | tmp t =>
    have := lk_R S h t
    simp only [lk, Act.eval]
    rw [List.getD_eq_getElem?_getD] at this
    rw [Array.getD_eq_getD_getElem?]
    simpa using this
  | const v => exact litSV_R S ρ v
  | global g =>
    right
    simp only [lk, SV.den, SC.den, Act.eval]
    rw [if_neg (show ¬ ((SX.den S ρ (.int (g : Nat))).toInt < 0) by simp only [SX.den, U.toInt_int]; omega)]; rfl
  | func f => right; rfl
theorem FrR_set {ρ : Env G} : ∀ {fr : List SV} {tm : List Value} (i : Nat) {sv : SV} {v : Value}, FrR S ρ fr tm → sv.R S ρ v → FrR S ρ (setSV fr i sv) (tm.set i v)
  | [], [], i, sv, v, h, hv => by rw [setSV_nil]; simp; trivial
  | s :: l, x :: m, 0, sv, v, h, hv => ⟨hv, h.2⟩
  | s :: l, x :: m, i + 1, sv, v, h, hv => ⟨h.1, FrR_set i h.2 hv⟩
  | [], _ :: _, _, _, _, h, _ => h.elim
  | _ :: _, [], _, _, _, h, _ => h.elim
theorem FrR_put {ρ : Env G} {fr : List SV} {a : Act} {dst : Option Tmp} {sv : SV} {v : Value} (h : FrR S ρ fr a.tmps.toList) (hv : sv.R S ρ v) : FrR S ρ (putDst fr dst sv) (a.put dst v).tmps.toList := by
  cases dst with
  | none => exact h
  | some d =>
    simp only [putDst, Act.put, Array.toList_setIfInBounds]
    exact FrR_set S d h hv
theorem put_defers (a : Act) (dst : Option Tmp) (v : Value) : (a.put dst v).defers = a.defers := by cases dst <;> rfl

theorem next_refl {st : St} {ρ : Env G} {w : World} {ns : List SX} (h : HSt S w0 F st ρ w) (hn : ∀ x ∈ ns, (x.den S ρ).toProp) : Next' S w0 F st ρ ρ (st.add ns) w :=
  ⟨Ext.refl _ _, Nat.le_refl _, rfl, fun _ h => h, ⟨h.hp, fun e he => by
    rcases List.mem_append.1 he with he | he
    · exact hn e he
    · exact h.asm e he⟩⟩
theorem next_trans {st st' st'' : St} {ρ ρ' ρ'' : Env G} {w' w'' : World} (h : Next' S w0 F st ρ ρ' st' w') (k : Next' S w0 F st' ρ' ρ'' st'' w'') : Next' S w0 F st ρ ρ'' st'' w'' :=
  ⟨h.ext.trans k.ext h.le, Nat.le_trans h.le k.le, k.fr.trans h.fr, fun l hl => by have := k.frR l (by rw [h.fr]; exact h.frR l hl); rw [h.fr] at this; exact this, k.hs⟩

theorem capsOf_den {ρ : Env G} : ∀ {g : SC} {f : Nat} {l : List SC}, capsOf g = some (f, l) → g.den S ρ = .func (.func f) #[] (l.map (SC.den S ρ)).toArray := by
  intro g
  induction g with
  | fn f => intro f' l h; cases h; rfl
  | cap g x ih _ =>
    intro f l h
    obtain ⟨⟨f', l'⟩, h1, h⟩ := ob_some h
    cases h
    simp only [SC.den, ih h1]
    simp
  | _ => intro f l h; cases h

theorem argsR_map {ρ : Env G} {L : Operand → SV} {ev : Operand → Value} (hL : ∀ x, (L x).R S ρ (ev x)) : ∀ (l : List Operand), argsR S ρ (l.map L) (l.map ev)
  | [] => trivial
  | x :: l => ⟨hL x, argsR_map hL l⟩
theorem argsR_append {ρ : Env G} : ∀ {a b : List SV} {x y : List Value}, argsR S ρ a x → argsR S ρ b y → argsR S ρ (a ++ b) (x ++ y)
  | [], b, [], y, _, h => h
  | s :: a, b, v :: x, y, h, h' => ⟨h.1, argsR_append h.2 h'⟩
  | [], _, _ :: _, _, h, _ => h.elim
  | _ :: _, _, [], _, h, _ => h.elim
theorem argsR_caps {ρ : Env G} : ∀ (l : List SC), argsR S ρ (l.map SV.one) (l.map (SC.den S ρ))
  | [] => trivial
  | c :: l => ⟨.inr rfl, argsR_caps l⟩

theorem callSpecs_sound {f : Nat} {st : St} {ρ : Env G} {w : World} {args : List SV} {K : SV → St → VC} {xs : List Value} {R : Ending → World → Prop} (hst : HSt S w0 F st ρ w) (hx : argsR S ρ args xs)
    (hK : ∀ ρ' sv st' w' v, Next' S w0 F st ρ ρ' st' w' → sv.R S ρ' v → (K sv st').den S ρ' → R (.returned v) w') :
    ∀ (sps : List Ctr), (∀ sp ∈ sps, sp.wf = true ∧ CtrOk S P f sp) → (callSpecs st args K sps).den S ρ → Calls P f xs.toArray w R
  | [], _, h => h.elim
  | sp :: l, hsp, h => by
    simp only [callSpecs] at h
    split at h
    · rename_i v hv
      obtain ⟨hwf, hok⟩ := hsp sp List.mem_cons_self
      obtain ⟨ch, ρc, F', h1, h2, h3, h4⟩ := callSpec_core S ρ w0 hwf hst hx hv h
      refine (hok ch w0 F' ρc w xs h1 h2 h3).mono ?_
      rintro e w' ⟨ρc', v, he, rfl, hr, hs, hf⟩
      obtain ⟨ρ', sv, st', hn, hsv, hk⟩ := h4 ρc' w' he hs hf
      exact hK ρ' sv st' w' v hn (hsv v hr) hk
    · exact callSpecs_sound hst hx hK l (fun sp hm => hsp sp (List.mem_cons_of_mem _ hm)) h

theorem callExts_sound {f : Nat} {st : St} {ρ : Env G} {w : World} {args : List SV} {K : SV → St → VC} {xs : List Value} {R : Ending → World → Prop} (hst : HSt S w0 F st ρ w) (hx : argsR S ρ args xs)
    (hK : ∀ ρ' sv st' w' v, Next' S w0 F st ρ ρ' st' w' → sv.R S ρ' v → (K sv st').den S ρ' → R (.returned v) w') :
    ∀ (sps : List Ctr), (∀ sp ∈ sps, sp.wf = true ∧ ExtOk S P f sp) → (callSpecs st args K sps).den S ρ → ∃ v w', (callFunc f xs.toArray).run P w = .ok (.value v) w' ∧ R (.returned v) w'
  | [], _, h => h.elim
  | sp :: l, hsp, h => by
    simp only [callSpecs] at h
    split at h
    · rename_i v hv
      obtain ⟨hwf, hok⟩ := hsp sp List.mem_cons_self
      obtain ⟨ch, ρc, F', h1, h2, h3, h4⟩ := callSpec_core S ρ w0 hwf hst hx hv h
      obtain ⟨v, w', hrun, ρc', he, hr, hs, hf⟩ := hok ch w0 F' ρc w xs h1 h2 h3
      obtain ⟨ρ', sv, st', hn, hsv, hk⟩ := h4 ρc' w' he hs hf
      exact ⟨v, w', hrun, hK ρ' sv st' w' v hn (hsv v hr) hk⟩
    · exact callExts_sound hst hx hK l (fun sp hm => hsp sp (List.mem_cons_of_mem _ hm)) h

theorem callFn_sound {body : Nat → List SV → St → (SV → St → VC) → VC} (hb : BodyOk S w0 F P body) (hC : CxOk S P C) {st : St} {f : Nat} {ρ : Env G} {w : World} {args : List SV} {K : SV → St → VC} {xs : List Value} {R : Ending → World → Prop}
    (hst : HSt S w0 F st ρ w) (hx : argsR S ρ args xs) (h : (callFn P C body st f args K).den S ρ)
    (hK : ∀ ρ' sv st' w' v, Next' S w0 F st ρ ρ' st' w' → sv.R S ρ' v → (K sv st').den S ρ' → R (.returned v) w') :
    ((callFunc f xs.toArray).run P w = .ok (.enter f xs.toArray) w ∧ Calls P f xs.toArray w R) ∨ (∃ v w', (callFunc f xs.toArray).run P w = .ok (.value v) w' ∧ R (.returned v) w') := by
  unfold callFn at h
  split at h
  · exact h.elim
  · rename_i fn hfn
    cases hnm : (fn.name == "runtime.NumGoroutine")
    · cases hbd : fn.body.isSome
      · rw [hbd, hnm] at h
        simp only [cond_false] at h
        split at h
        · rename_i sps hs
          exact .inr (callExts_sound S w0 F hst hx hK sps (hC.2.2 f sps hs) h)
        · exact h.elim
      · rw [hbd, hnm] at h
        simp only [cond_true, cond_false] at h
        refine .inl ⟨?_, ?_⟩
        · have hnone : fn.body.isNone = false := by cases hq : fn.body <;> simp [hq] at hbd ⊢
          have hne : fn.name ≠ "runtime.NumGoroutine" := by simpa using hnm
          have hbn : fn.body ≠ none := by intro hq; rw [hq] at hnone; cases hnone
          simp [callFunc, hfn, hne, hbn]
        · split at h
          · rename_i sps hs
            exact callSpecs_sound S w0 F hst hx hK sps (hC.1 f sps hs) h
          · cases hok : st.ok
            · rw [hok] at h; exact h.elim
            · rw [hok] at h
              exact hb f args st K ρ w xs R hst hok hx h hK
    · rw [hnm] at h; exact h.elim

/-- One operation. -/
theorem doOp_sound {body : Nat → List SV → St → (SV → St → VC) → VC} (hb : BodyOk S w0 F P body) (hC : CxOk S P C) {st : St} {o : Oper} {ρ : Env G} {w : World} {K : SV → St → VC} {a : Act} {next : Act → World → Prop} {Q : Exit → Act → World → Prop}
    (hst : HSt S w0 F st ρ w) (hL : ∀ x, (lk st.fr x).R S ρ (a.eval x)) (h : (doOp P C body st o K).den S ρ)
    (hK : ∀ ρ' sv st' w' v, Next' S w0 F st ρ ρ' st' w' → sv.R S ρ' v → (K sv st').den S ρ' → next (a.put o.dst v) w') : o.wp P a w next Q := by
  unfold doOp at h
  cases hq : quietOp P o.op
  · rw [hq] at h
    simp only [cond_false] at h
    have lopcase : (lop P st o.op K).den S ρ → o.wp P a w next Q := fun hl => by
      obtain ⟨w', hr⟩ := lop_sound S ρ w0 hst hL hl
      unfold Oper.wp
      rcases hr with ⟨v, hrun, ρ', sv, st', hn, hsv, hk⟩ | ⟨hrun, ρ', sv, st', hn, hsv, hk⟩
      · rw [hrun]; exact hK ρ' sv st' w' v hn hsv hk
      · rw [hrun]; exact hK ρ' sv st' w' undef hn hsv hk
    split at h
    · rename_i c hop
      split at h
      · rename_i f hcal
        split at h
        · rename_i g hg
          split at h
          · rename_i f' caps hcaps
            have hgd := R_one S ρ (hg ▸ hL f)
            rw [capsOf_den S hcaps] at hgd
            have hargs := argsR_append S (argsR_map S hL c.args.toList) (argsR_caps S (ρ := ρ) caps)
            have hcf := callFn_sound S w0 F hb hC (R := fun e w'' => match e with | .returned v => next (a.put o.dst v) w'' | .panicked chain => Q (.panic chain) a w'' | .outgrown => LetsOut Q) hst hargs h
              (fun ρ' sv st' w' v hn hsv hk => hK ρ' sv st' w' v hn hsv hk)
            have hrun : (execOp a.eval o).run P w = (callFunc f' (c.args.toList.map a.eval ++ caps.map (SC.den S ρ)).toArray).run P w := by
              unfold execOp
              rw [hop]
              have harr : (c.args.map a.eval ++ (caps.map (SC.den S ρ)).toArray) = (c.args.toList.map a.eval ++ caps.map (SC.den S ρ)).toArray := by apply Array.ext'; simp
              rw [← harr]
              simp [resolve, hcal, hgd, Deferred.ofValue, invoke]
            unfold Oper.wp
            rcases hcf with ⟨h1, h2⟩ | ⟨v, w', h1, h2⟩
            · rw [hrun, h1, Oper.upon_enter]
              exact h2.mono (fun e w' hh => by cases e <;> exact hh)
            · rw [hrun, h1]
              exact h2
          · exact h.elim
        · exact h.elim
      · exact lopcase h
    · exact lopcase h
  · rw [hq] at h
    simp only [cond_true] at h
    split at h
    · rename_i ns v hv
      obtain ⟨hn, hk⟩ := needs_den S ρ h
      obtain ⟨x, hrun, hx⟩ := qev_sound S ρ w0 hst.asm hst.hp hL hv hn
      unfold Oper.wp
      rw [hrun]
      exact hK ρ v (st.add ns) w x (next_refl S w0 F hst hn) hx hk
    · exact h.elim

/-! ### Guards -/
theorem guard_sound {ρ : Env G} {fr : List SV} {a : Act} (h : FrR S ρ fr a.tmps.toList) (ops : Array Oper) (o : Oper) :
    match guardOf ops fr o with
    | .go => Region.wanted o (yielded ops a.tmps) = true
    | .skip => Region.wanted o (yielded ops a.tmps) = false
    | .ask d e want => (getSV fr d = .one (.bool e)) ∧ ((e.den S ρ).toBool = want → Region.wanted o (yielded ops a.tmps) = true) ∧ ((e.den S ρ).toBool ≠ want → Region.wanted o (yielded ops a.tmps) = false)
    | .bad => True := by
  unfold guardOf
  cases hg : o.guard with
  | none => simp [Region.wanted, hg]
  | some jw =>
    obtain ⟨j, want⟩ := jw
    simp only
    cases hd : (ops[j]?).bind (·.dst) with
    | none => simp
    | some d =>
      simp only
      have hr := lk_R S h d
      have key : ∀ e, getSV fr d = .one (.bool e) → yielded ops a.tmps j = some (e.den S ρ).toBool := fun e he => by
        rw [he] at hr
        have := R_one S ρ hr
        have hlt : a.tmps[d]? = some (.bool (e.den S ρ).toBool) := by
          rw [List.getD_eq_getElem?_getD] at this
          cases hx : a.tmps.toList[d]? with
          | none => rw [hx] at this; simp [undef, SC.den] at this
          | some v => rw [hx] at this; simp only [Option.getD_some] at this; rw [← Array.getElem?_toList, hx, this]; rfl
        unfold yielded
        rw [hd]
        simp only [Option.bind_some, hlt]
      cases hgs : getSV fr d with
      | one c =>
        cases c with
        | bool e =>
          have hy := key e hgs
          have ask : (getSV fr d = .one (.bool e)) ∧ ((e.den S ρ).toBool = want → Region.wanted o (yielded ops a.tmps) = true) ∧ ((e.den S ρ).toBool ≠ want → Region.wanted o (yielded ops a.tmps) = false) :=
            ⟨hgs, fun hw => by simp [Region.wanted, hg, hy, hw], fun hw => by simp [Region.wanted, hg, hy, hw]⟩
          cases e with
          | bool b =>
            simp only
            cases hbq : bbq b want
            · simp only [cond_false]
              refine ask.2.2 ?_
              simp only [SX.den, U.toBool_bool]
              rintro rfl; cases b <;> simp [bbq] at hbq
            · simp only [cond_true]
              exact ask.2.1 (bbq_eq hbq)
          | _ => simp only; exact ask
        | _ => trivial
      | tup vs =>
        cases vs with
        | cons _ _ => trivial
        | nil =>
          rw [hgs] at hr
          have this : a.tmps.toList.getD d undef = undef := by
            rcases hr with h | h
            · cases h
            · exact h
          have hy : yielded ops a.tmps j = none := by
            unfold yielded
            rw [hd]
            simp only [Option.bind_some]
            rw [List.getD_eq_getElem?_getD, Array.getElem?_toList] at this
            cases hx : a.tmps[d]? with
            | none => rfl
            | some v => rw [hx] at this; simp only [Option.getD_some] at this; rw [this]; rfl
          simp [Region.wanted, hg, hy]
      | _ => trivial

theorem srt_bool {ρ : Env G} {e : SX} (h : sq e.srt .bool = true) : e.den S ρ = .bool (e.den S ρ).toBool := by
  have := SX.srt_co S ρ e
  rw [sq_eq h] at this
  exact this.symm
theorem assume_sound {st : St} {ρ : Env G} {w : World} {a : Act} {d : Nat} {e : SX} {b : Bool} {k : St → VC} (hd : Den S ρ w0 F st a w) (hs : getSV st.fr d = .one (.bool e)) (hb : (e.den S ρ).toBool = b)
    (h : (assume st d e b k).den S ρ) : ∃ st', Den S ρ w0 F st' a w ∧ st'.n = st.n ∧ (k st').den S ρ := by
  unfold assume at h
  simp only at h
  cases hq : sq e.srt .bool
  · rw [hq] at h; exact h.elim
  rw [hq] at h
  simp only [cond_true] at h
  obtain ⟨x, hx⟩ : ∃ x, e.den S ρ = .bool x := ⟨_, srt_bool S hq⟩
  have hx' : x = b := by rw [hx] at hb; exact hb
  subst hx'
  have e1 : ((bif x then e else eNot e).den S ρ).toProp := by
    cases x
    · rw [cond_false, eNot_den, hx]; rfl
    · rw [cond_true, hx]; rfl
  have e2 : ¬ ((bif x then eNot e else e).den S ρ).toProp := by
    cases x
    · rw [cond_false, hx]; simp
    · rw [cond_true, eNot_den, hx]; simp
  cases hin : inAsm (bif x then eNot e else e) st.asm
  · rw [hin] at h
    simp only [cond_false] at h
    refine ⟨{ st with fr := setSV st.fr d (.one (.bool (.bool x))), asm := (bif x then e else eNot e) :: st.asm }, ⟨?_, hd.df, hd.hp, ?_⟩, rfl, h e1⟩
    · have hr := lk_R S hd.fr d
      rw [hs] at hr
      have hv := R_one S ρ hr
      by_cases hlt : d < a.tmps.toList.length
      · have hset : a.tmps.toList = a.tmps.toList.set d (.bool x) := by
          rw [List.getD_eq_getElem?_getD, List.getElem?_eq_getElem hlt] at hv
          simp only [Option.getD_some, SC.den, hx, U.toBool_bool] at hv
          rw [← hv, List.set_getElem_self]
        have := FrR_set S d (sv := .one (.bool (.bool x))) (v := .bool x) hd.fr (.inr rfl)
        rw [← hset] at this; exact this
      · exfalso
        rw [List.getD_eq_getElem?_getD, List.getElem?_eq_none (by omega)] at hv
        simp [undef, SC.den] at hv
    · intro y hy
      rcases List.mem_cons.1 hy with rfl | hy
      · exact e1
      · exact hd.asm y hy
  · exact absurd (hd.asm _ (inAsm_mem hin)) e2

theorem den_next {st st' : St} {ρ ρ' : Env G} {w w' : World} {a : Act} {dst : Option Tmp} {sv : SV} {v : Value} (hd : Den S ρ w0 F st a w) (hn : Next' S w0 F st ρ ρ' st' w') (hv : sv.R S ρ' v) :
    Den S ρ' w0 F { st' with fr := putDst st'.fr dst sv } (a.put dst v) w' :=
  ⟨FrR_put S (by rw [hn.fr]; exact hn.frR _ hd.fr) hv, by rw [put_defers]; exact hd.df, hn.hs.hp, hn.hs.asm⟩
theorem den_skip {st : St} {ρ : Env G} {w : World} {a : Act} {dst : Option Tmp} (hd : Den S ρ w0 F st a w) : Den S ρ w0 F { st with fr := putDst st.fr dst (.tup []) } (a.put dst undef) w :=
  ⟨FrR_put S hd.fr (.inr rfl), by rw [put_defers]; exact hd.df, hd.hp, hd.asm⟩
theorem den_hst {st : St} {ρ : Env G} {w : World} {a : Act} (hd : Den S ρ w0 F st a w) : HSt S w0 F st ρ w := ⟨hd.hp, hd.asm⟩
theorem ask_bool {ρ : Env G} {e : SX} {fr : List SV} {tm : List Value} {d : Nat} (h : FrR S ρ fr tm) (hs : getSV fr d = .one (.bool e)) : True := trivial

/-- What a state's later states may be. -/
def After (st : St) (ρ : Env G) (ρ' : Env G) (st' : St) (a' : Act) (w' : World) : Prop := Ext st.n ρ ρ' ∧ st.n ≤ st'.n ∧ Den S ρ' w0 F st' a' w'
theorem After.step {st st1 st' : St} {ρ ρ1 ρ' : Env G} {a' : Act} {w' : World} (h : Ext st.n ρ ρ1) (hn : st.n ≤ st1.n) (k : After S w0 F st1 ρ1 ρ' st' a' w') : After S w0 F st ρ ρ' st' a' w' :=
  ⟨h.trans k.1 hn, Nat.le_trans hn k.2.1, k.2.2⟩

/-- A region in the order of its text. -/
theorem seqR_sound {body : Nat → List SV → St → (SV → St → VC) → VC} (hb : BodyOk S w0 F P body) (hC : CxOk S P C) {ops : Array Oper} {K : St → VC} {Q : Exit → Act → World → Prop} :
    ∀ (l : List Oper) (st : St) (ρ : Env G) (a : Act) (w : World), Den S ρ w0 F st a w → (seqR P C body ops l st K).den S ρ →
      (∀ ρ' st' a' w', After S w0 F st ρ ρ' st' a' w' → (K st').den S ρ' → Q .normal a' w') → wpList P ops Q l a w
  | [], st, ρ, a, w, hd, h, hK => wpList_nil (hK ρ st a w ⟨Ext.refl _ _, Nat.le_refl _, hd⟩ h)
  | o :: rest, st, ρ, a, w, hd, h, hK => by
    simp only [seqR] at h
    have hg := guard_sound S hd.fr ops o
    have go : ∀ st1, Den S ρ w0 F st1 a w → st1.n = st.n → Region.wanted o (yielded ops a.tmps) = true →
        (doOp P C body st1 o fun v st => seqR P C body ops rest { st with fr := putDst st.fr o.dst v } K).den S ρ → wpList P ops Q (o :: rest) a w := by
      intro st1 hd1 hn1 hw h1
      refine wpList_step fun K' hK' => ?_
      rw [if_pos hw]
      refine doOp_sound S w0 F hb hC (den_hst S w0 F hd1) (fun x => lk_eval S hd1.fr x) h1 ?_
      intro ρ' sv st' w' v hn hsv hk
      refine hK' _ _ (seqR_sound hb hC rest _ ρ' _ w' (den_next S w0 F hd1 hn hsv) hk ?_)
      intro ρ2 st2 a2 w2 haf hk2
      exact hK _ _ _ _ (After.step S w0 F (st1 := st') (by rw [← hn1]; exact hn.ext) (by rw [← hn1]; exact hn.le) haf) hk2
    have skip : ∀ st1, Den S ρ w0 F st1 a w → st1.n = st.n → Region.wanted o (yielded ops a.tmps) = false →
        (seqR P C body ops rest { st1 with fr := putDst st1.fr o.dst (.tup []) } K).den S ρ → wpList P ops Q (o :: rest) a w := by
      intro st1 hd1 hn1 hw h1
      refine wpList_step fun K' hK' => ?_
      rw [if_neg (by rw [hw]; simp)]
      refine hK' _ _ (seqR_sound hb hC rest _ ρ _ w (den_skip S w0 F hd1) h1 ?_)
      intro ρ2 st2 a2 w2 haf hk2
      exact hK _ _ _ _ (After.step S w0 F (st1 := { st1 with fr := putDst st1.fr o.dst (.tup []) }) (Ext.refl _ _) (Nat.le_of_eq hn1.symm) haf) hk2
    split at h
    · rename_i he; rw [he] at hg; exact go st hd rfl hg h
    · rename_i he; rw [he] at hg; exact skip st hd rfl hg h
    · rename_i d e want he
      rw [he] at hg
      obtain ⟨hs, hy, hno⟩ := hg
      obtain ⟨ht, hf⟩ := h
      by_cases hw : (e.den S ρ).toBool = want
      · obtain ⟨st1, hd1, hn1, h1⟩ := assume_sound S w0 F hd hs hw ht
        exact go st1 hd1 hn1 (hy hw) h1
      · have hw' : (e.den S ρ).toBool = !want := by cases hx : (e.den S ρ).toBool <;> cases want <;> simp_all
        obtain ⟨st1, hd1, hn1, h1⟩ := assume_sound S w0 F hd hs hw' hf
        exact skip st1 hd1 hn1 (hno hw) h1
    · exact h.elim

/-! ### A region that draws its order -/
/-- Whatever order is picked from here on; what 'T' says of the operations that have been carried out holds behind each. -/
def wpAnyS (P : Program) (ops : Array Oper) (Q : Exit → Act → World → Prop) (T : Array Bool → World → Prop) : Nat → Array Bool → Act → World → Prop
  | 0, listed, a, w => Region.ready .any ops listed = [] ∧ Q .normal a w
  | fuel + 1, listed, a, w =>
    (Region.ready .any ops listed = [] → Q .normal a w) ∧
    ∀ i ∈ Region.ready .any ops listed, wpOp P ops Q i (fun a' w' => T (listed.setIfInBounds i true) w' ∧ wpAnyS P ops Q T fuel (listed.setIfInBounds i true) a' w') a w
theorem wpAny_of_S {ops : Array Oper} {Q : Exit → Act → World → Prop} {T : Array Bool → World → Prop} : ∀ (fuel : Nat) (listed : Array Bool) (a : Act) (w : World), wpAnyS P ops Q T fuel listed a w → wpAny P .any ops Q fuel listed a w
  | 0, _, _, _, h => h
  | fuel + 1, _, _, _, h => ⟨h.1, fun i hi => wpOp_mono (fun a' w' h' => wpAny_of_S fuel _ a' w' h'.2) (h.2 i hi)⟩
theorem wpAnyS_mono {ops : Array Oper} {Q : Exit → Act → World → Prop} {T T' : Array Bool → World → Prop} (hT : ∀ l w, T l w → T' l w) : ∀ (fuel : Nat) (listed : Array Bool) (a : Act) (w : World), wpAnyS P ops Q T fuel listed a w → wpAnyS P ops Q T' fuel listed a w
  | 0, _, _, _, h => h
  | fuel + 1, _, _, _, h => ⟨h.1, fun i hi => wpOp_mono (fun a' w' h' => ⟨hT _ _ h'.1, wpAnyS_mono hT fuel _ a' w' h'.2⟩) (h.2 i hi)⟩

/-- What has been listed has what it waits for listed. -/
def Closed (ops : Array Oper) (listed : Array Bool) : Prop := ∀ j o, ops[j]? = some o → listed.getD j true = true → ∀ e ∈ o.after, Region.binds .any e = true → listed.getD e.on false = true
def YieldsT (P : Program) (ops : Array Oper) (T : Array Bool → World → Prop) (i : Nat) (o : Oper) (v : Value) (a : Act) : Prop :=
  (Region.wanted o (yielded ops a.tmps) = true ∧ ∀ l w, Closed ops l → l.getD i true = false → T l w → (execOp a.eval o).run P w = .ok (.value v) w) ∨
  (Region.wanted o (yielded ops a.tmps) = false ∧ v = undef)
theorem YieldsT.wpOp {ops : Array Oper} {Q : Exit → Act → World → Prop} {T : Array Bool → World → Prop} {i : Nat} {o : Oper} {v : Value} {a : Act} (hi : ops[i]? = some o) (hy : YieldsT P ops T i o v a)
    {l : Array Bool} {K : Act → World → Prop} {w : World} (hc : Closed ops l) (hl : l.getD i true = false) (hT : T l w) (h : K (a.put o.dst v) w) : wpOp P ops Q i K a w := by
  unfold Go.wpOp
  simp only [hi]
  rcases hy with ⟨hw, hv⟩ | ⟨hw, rfl⟩
  · simp only [hw, if_true, Oper.wp, hv l w hc hl hT, Oper.upon]; exact .inl h
  · simp only [hw, Bool.false_eq_true, if_false]; exact h
theorem YieldsT.of_same {ops : Array Oper} {T : Array Bool → World → Prop} {i : Nat} {o : Oper} {v : Value} {a a' : Act} (hy : YieldsT P ops T i o v a) (he : execOp a'.eval o = execOp a.eval o)
    (hw : Region.wanted o (yielded ops a'.tmps) = Region.wanted o (yielded ops a.tmps)) : YieldsT P ops T i o v a' := by
  unfold YieldsT at *
  rw [he, hw]
  exact hy

theorem wpOp_putT {ops : Array Oper} {Q : Exit → Act → World → Prop} {T : Array Bool → World → Prop} {i j : Nat} {oi oj : Oper} {v : Value} (hj : ops[j]? = some oj) (hap : oi.apart ops oj = true)
    (hsi : ∀ cs b, oi.op ≠ .select cs b) (hsj : ∀ cs b, oj.op ≠ .select cs b)
    (hQ : ∀ c a w, Q (.panic c) (a.put oi.dst v) w → Q (.panic c) a w) {K : Act → World → Prop} {a : Act} {w : World}
    (hy : YieldsT P ops T i oi v a) (h : wpOp P ops Q j K (a.put oi.dst v) w) :
    wpOp P ops Q j (fun a' w' => YieldsT P ops T i oi v a' ∧ K (a'.put oi.dst v) w') a w := by
  obtain ⟨h1, h2, h3⟩ := Oper.apart_spec hap
  have keep : ∀ (a : Act), YieldsT P ops T i oi v a → ∀ u, YieldsT P ops T i oi v (a.put oj.dst u) := fun a hy u =>
    hy.of_same (execOp_put oi hsi a oj.dst u h3) (wanted_put oi a oj.dst u h3)
  have keepD : ∀ d, YieldsT P ops T i oi v { a with defers := d :: a.defers } := fun d => hy.of_same rfl rfl
  unfold wpOp at *
  simp only [hj] at *
  rw [wanted_put oj a oi.dst v h1] at h
  split
  · rename_i hw
    simp only [hw, if_true] at h
    rcases h with h | ⟨hasks, hlets⟩
    case inr => exact .inr ⟨by unfold Oper.asks at *; rw [execOp_put oj hsj a oi.dst v h1] at hasks; exact hasks, hlets⟩
    refine .inl ?_
    unfold Oper.wp at *
    rw [execOp_put oj hsj a oi.dst v h1] at h
    generalize (execOp a.eval oj).run P w = r at *
    cases r with
    | ok n w' =>
      cases n <;> simp only [Oper.upon] at h ⊢
      case value u => exact ⟨keep a hy u, by rw [← Act.put_comm a v u h2]; exact h⟩
      case skip => exact ⟨keep a hy _, by rw [← Act.put_comm a v undef h2]; exact h⟩
      case defer d =>
        refine ⟨keep _ (keepD d) _, ?_⟩
        rw [← Act.put_comm _ v undef h2, ← Act.put_defers]
        exact h
      case enter f args =>
        refine Calls.mono h fun e w'' he => ?_
        cases e with
        | returned u => exact ⟨keep a hy u, by rw [← Act.put_comm a v u h2]; exact he⟩
        | panicked c => exact hQ _ _ _ he
        | outgrown => exact he
      case row row args => exact Rows.mono h fun u w'' he => ⟨keep a hy u, by rw [← Act.put_comm a v u h2]; exact he⟩
    | halt x w' =>
      cases x <;> simp only [Oper.upon] at h ⊢
      case panic u => exact hQ _ _ _ h
  · rename_i hw
    simp only [hw] at h
    exact ⟨keep a hy _, by rw [← Act.put_comm a v undef h2]; exact h⟩

theorem Closed.set {ops : Array Oper} {l : Array Bool} {i : Nat} (h : Closed ops l) (hi : i ∈ Region.ready .any ops l) : Closed ops (l.setIfInBounds i true) := by
  intro j o hj hl e he hb
  by_cases hji : j = i
  · subst hji
    obtain ⟨_, o', ho', hall⟩ := mem_ready.1 hi
    rw [hj] at ho'; cases ho'
    exact getD_set_true (hall e he hb)
  · rw [getD_set_ne true (Ne.symm hji)] at hl
    exact getD_set_true (h j o hj hl e he hb)

/-- **An operation that may come up now may be taken first**, if it answers so whenever it may come up. -/
theorem wpAnyS_first {ops : Array Oper} {Q : Exit → Act → World → Prop} {T : Array Bool → World → Prop} {i : Nat} {oi : Oper} {v : Value} (hi : ops[i]? = some oi) (hsel : ∀ (j : Nat) (o : Oper) cs b, ops[j]? = some o → o.op ≠ .select cs b)
    (hQ : ∀ c a w, Q (.panic c) (a.put oi.dst v) w → Q (.panic c) a w) (hTi : ∀ l w, T (l.setIfInBounds i true) w → T l w) :
    ∀ (fuel : Nat) (listed : Array Bool) (a : Act) (w : World), Closed ops listed →
      (∀ j oj, ops[j]? = some oj → j ≠ i → listed.getD j true = false → (∀ e ∈ oj.after, Region.binds .any e = true → e.on ≠ i) → oi.apart ops oj = true) →
      i ∈ Region.ready .any ops listed → YieldsT P ops T i oi v a → T listed w → T (listed.setIfInBounds i true) w →
      wpAnyS P ops Q T fuel (listed.setIfInBounds i true) (a.put oi.dst v) w → wpAnyS P ops Q T (fuel + 1) listed a w := by
  intro fuel
  induction fuel with
  | zero =>
    intro listed a w hc _ hr hy hT hT' H
    refine ⟨fun h => (by rw [h] at hr; cases hr), fun j hj => ?_⟩
    by_cases hji : j = i
    · subst hji; exact hy.wpOp hi hc (mem_ready.1 hr).1 hT ⟨hT', H⟩
    · have := ready_mono hj hji
      rw [H.1] at this
      cases this
  | succ fuel ih =>
    intro listed a w hc hfree hr hy hT hT' H
    refine ⟨fun h => (by rw [h] at hr; cases hr), fun j hj => ?_⟩
    by_cases hji : j = i
    · subst hji; exact hy.wpOp hi hc (mem_ready.1 hr).1 hT ⟨hT', H⟩
    · have h1 := H.2 j (ready_mono hj hji)
      obtain ⟨hjun, oj, hoj, hall⟩ := mem_ready.1 hj
      have hnot : ∀ e ∈ oj.after, Region.binds .any e = true → e.on ≠ i := fun e he hb heq => by
        have h1 := hall e he hb
        have h0 := (mem_ready.1 hr).1
        rw [heq] at h1
        rcases Nat.lt_or_ge i listed.size with h' | h'
        · simp [h'] at h0 h1; rw [h0] at h1; cases h1
        · simp [Array.getElem?_eq_none h'] at h1
      have h2 := wpOp_putT hoj (hfree j oj hoj hji hjun hnot) (fun cs b => hsel i oi cs b hi) (fun cs b => hsel j oj cs b hoj) hQ hy h1
      have hfree' : ∀ k ok, ops[k]? = some ok → k ≠ i → (listed.setIfInBounds j true).getD k true = false →
          (∀ e ∈ ok.after, Region.binds .any e = true → e.on ≠ i) → oi.apart ops ok = true := fun k ok hk hki hun hno => by
        refine hfree k ok hk hki ?_ hno
        by_cases hjk : j = k
        · subst hjk; exact hjun
        · rw [getD_set_ne true hjk] at hun; exact hun
      refine wpOp_mono (fun a' w' h3 => ?_) h2
      obtain ⟨hy', hT3, H3⟩ := h3
      rw [Array.setIfInBounds_comm _ _ (Ne.symm hji)] at hT3 H3
      have hT4 := hTi _ _ hT3
      exact ⟨hT4, ih (listed.setIfInBounds j true) a' w' (hc.set hj) hfree' (ready_mono hr (Ne.symm hji)) hy' hT4 hT3 H3⟩
end
end
end Go.Eng

/- Regions that draw their order: that the symbolic run holds for every order. -/
set_option linter.unusedSimpArgs false
set_option linter.unusedVariables false
namespace Go.Eng
noncomputable section
open Go.RowKit (Below)

section
variable {G : Type} (S : Sig G) (w0 : World) (F : HProp) {P : Program} {C : Cx}

/-- What a record says. -/
structure Say where
  i : Nat
  o : Oper
  ev : Operand → Value
  v : Value
/-- No operation that was carried out, other than the ones taken first, waits for this one. -/
def Valid (ops : Array Oper) (X : Nat → Prop) (l : Array Bool) (s : Say) : Prop :=
  ∀ j o, ops[j]? = some o → ¬ X j → l.getD j true = true → waits o s.i = false
def TR (P : Program) (ops : Array Oper) (X : Nat → Prop) (R : List Say) (l : Array Bool) (w : World) : Prop :=
  ∀ s ∈ R, Valid ops X l s → (execOp s.ev s.o).run P w = .ok (.value s.v) w
def RecDen (ρ : Env G) (r : Rec) (s : Say) : Prop := r.i = s.i ∧ r.o = s.o ∧ (∀ x, (lkA r.L x).R S ρ (s.ev x)) ∧ r.v.R S ρ s.v
def Rels (ops : Array Oper) (X : Nat → Prop) (ρ : Env G) (listed : Array Bool) (recs : List Rec) (R : List Say) : Prop :=
  ∀ s ∈ R, Valid ops X listed s → ∃ r ∈ recs, RecDen S ρ r s

theorem same_den {ρ : Env G} {a b : SV} (h : SV.same a b = true) : a.isJunk = false ∧ b.isJunk = false ∧ a.den S ρ = b.den S ρ := by
  cases a with
  | junk => cases b <;> cases h
  | one c => have := SV.bq_eq (a := .one c) h; subst this; exact ⟨rfl, rfl, rfl⟩
  | agg c => have := SV.bq_eq (a := .agg c) h; subst this; exact ⟨rfl, rfl, rfl⟩
  | tup x =>
    cases b with
    | tup y =>
      simp only [SV.same] at h
      split at h
      · rename_i heq
        exact ⟨rfl, rfl, (eqTs_sound S ρ (asm := []) (by simp) heq (by simp)).1⟩
      · cases h
    | junk => cases h
    | one c => cases h
    | agg c => cases h
theorem assoc_mem {α : Type} : ∀ {l : List (Nat × α)} {i : Nat} {x : α}, assoc l i = some x → (i, x) ∈ l
  | [], _, _, h => by cases h
  | (j, y) :: l, i, x, h => by
    simp only [assoc] at h
    cases hq : Nat.beq j i
    · first
        | (rw [hq] at h; exact List.mem_cons_of_mem _ (assoc_mem h))
        | (rw [show Nat.beq i j = false by cases h' : Nat.beq i j; rfl; rw [Nat.eq_of_beq_eq_true h'] at hq; simp at hq] at h; exact List.mem_cons_of_mem _ (assoc_mem h))
    · have := Nat.eq_of_beq_eq_true hq
      subst this
      rw [hq] at h; cases h; exact List.mem_cons_self
theorem lkA_ext {n : Nat} {ρ ρ' : Env G} (h : Ext n ρ ρ') {L : List (Nat × SV)} (hl : L.all (fun p => p.2.lt n) = true) {x : Operand} {v : Value} (hv : (lkA L x).R S ρ v) : (lkA L x).R S ρ' v := by
  cases x with
  | tmp t =>
    simp only [lkA] at *
    split at hv
    · rename_i sv hs
      have hm : (t, sv) ∈ L := assoc_mem hs
      have := List.all_eq_true.1 hl _ hm
      rcases hv with hv | hv
      · exact .inl hv
      · exact .inr (by rw [SV.den_ext S h this]; exact hv)
    · exact .inl rfl
  | const c =>
    have h1 := litSV_R S ρ c
    have h2 := litSV_R S ρ' c
    rcases hv with hv | hv
    · exact .inl hv
    · rcases h1 with h1 | h1
      · exact .inl h1
      · have : v = c := by rw [h1]; exact hv
        subst this; exact h2
  | global g => exact hv.imp id fun h' => h'
  | func f => exact hv.imp id fun h' => h'
theorem snap_R {ρ : Env G} {fr : List SV} {a : Act} (h : FrR S ρ fr a.tmps.toList) (o : Op) (x : Operand) : (lkA (snap fr o) x).R S ρ (a.eval x) := by
  have hx := lk_eval S h x
  cases x with
  | tmp t =>
    simp only [lkA]
    split
    · rename_i sv hs
      have hm := assoc_mem hs
      unfold snap at hm
      obtain ⟨y, _, hy⟩ := List.mem_filterMap.1 hm
      cases y <;> simp at hy
      obtain ⟨rfl, rfl⟩ := hy
      exact hx
    · exact .inl rfl
  | const c => exact hx
  | global g => exact hx
  | func f => exact hx

theorem firstQuiet_spec {fr : List SV} {ops : Array Oper} : ∀ {l : List Nat} {i : Nat} {o : Oper}, firstQuiet P fr ops l = some (i, o) → i ∈ l ∧ ops[i]? = some o
  | [], _, _, h => nomatch h
  | j :: l, i, o, h => by
    simp only [firstQuiet] at h
    split at h
    · rename_i o' ho
      cases hq : quietAt P fr ops o'
      · rw [hq] at h; have := firstQuiet_spec h; exact ⟨List.mem_cons_of_mem _ this.1, this.2⟩
      · rw [hq] at h; cases h; exact ⟨List.mem_cons_self, ho⟩
    · cases h

/-- How many have not been carried out. -/
def left (listed : Array Bool) : Nat := listed.toList.countP (· == false)
theorem left_set {l : Array Bool} {i : Nat} (h : l.getD i true = false) : left (l.setIfInBounds i true) + 1 = left l := by
  unfold left
  rw [Array.toList_setIfInBounds]
  rw [Array.getD_eq_getD_getElem?, ← Array.getElem?_toList] at h
  revert h
  generalize l.toList = m
  intro h
  induction m generalizing i with
  | nil => simp at h
  | cons b m ih =>
    cases i with
    | zero => simp at h; subst h; simp
    | succ i =>
      have := ih (i := i) (by simpa using h)
      simp only [List.set_cons_succ, List.countP_cons]
      omega
theorem left_zero {ops : Array Oper} {l : Array Bool} (h : left l = 0) : Region.ready .any ops l = [] := by
  apply List.eq_nil_iff_forall_not_mem.2
  intro i hi
  have := left_set (mem_ready.1 hi).1
  omega
theorem getD_lt {l : Array Bool} {i : Nat} (h : l.getD i true = false) : i < l.size := by
  rcases Nat.lt_or_ge i l.size with h' | h'
  · exact h'
  · simp [Array.getElem?_eq_none h'] at h
theorem getD_set_self {l : Array Bool} {i : Nat} (h : l.getD i true = false) (d : Bool) : (l.setIfInBounds i true).getD i d = true := by
  simp [getD_lt h]

theorem wpAnyS_done {ops : Array Oper} {Q : Exit → Act → World → Prop} {T : Array Bool → World → Prop} {listed : Array Bool} {a : Act} {w : World} (hr : Region.ready .any ops listed = []) (h : Q .normal a w) : ∀ k, wpAnyS P ops Q T k listed a w
  | 0 => ⟨hr, h⟩
  | k + 1 => ⟨fun _ => h, by rw [hr]; simp⟩

theorem valid_anti {ops : Array Oper} {X : Nat → Prop} {l : Array Bool} {i : Nat} {s : Say} (hl : l.getD i true = false) (h : Valid ops X (l.setIfInBounds i true) s) : Valid ops X l s := by
  intro j o hj hx hlj
  refine h j o hj hx ?_
  by_cases hij : i = j
  · subst hij; exact getD_set_self hl _
  · rw [getD_set_ne true hij]; exact hlj
theorem valid_drop {ops : Array Oper} {X : Nat → Prop} {l : Array Bool} {i : Nat} {s : Say} (hl : l.getD i true = false) (h : Valid ops (fun j => X j ∨ j = i) l s) : Valid ops X l s := by
  intro j o hj hx hlj
  refine h j o hj (fun h' => ?_) hlj
  rcases h' with h' | rfl
  · exact hx h'
  · rw [hl] at hlj; cases hlj
theorem valid_setX {ops : Array Oper} {X : Nat → Prop} {l : Array Bool} {i : Nat} {s : Say} (h : Valid ops (fun j => X j ∨ j = i) (l.setIfInBounds i true) s) : Valid ops (fun j => X j ∨ j = i) l s := by
  intro j o hj hx hlj
  have hij : i ≠ j := fun h' => hx (.inr h'.symm)
  exact h j o hj hx (by rw [getD_set_ne true hij]; exact hlj)
theorem valid_setX' {ops : Array Oper} {X : Nat → Prop} {l : Array Bool} {i : Nat} {s : Say} (h : Valid ops (fun j => X j ∨ j = i) l s) : Valid ops (fun j => X j ∨ j = i) (l.setIfInBounds i true) s := by
  intro j o hj hx hlj
  have hij : i ≠ j := fun h' => hx (.inr h'.symm)
  exact h j o hj hx (by rw [getD_set_ne true hij] at hlj; exact hlj)

theorem conj_den {ρ : Env G} : ∀ {l : List VC}, (VC.conj l).den S ρ → ∀ v ∈ l, v.den S ρ
  | [], _, v, hv => nomatch hv
  | [a], h, v, hv => by rw [List.mem_singleton] at hv; subst hv; exact h
  | a :: b :: l, h, v, hv => by
    obtain ⟨h1, h2⟩ := h
    rcases List.mem_cons.1 hv with rfl | hv
    · exact h1
    · exact conj_den (l := b :: l) h2 v hv
theorem firstAsk_spec {ρ : Env G} {fr : List SV} {a : Act} (hfr : FrR S ρ fr a.tmps.toList) {ops : Array Oper} {d : Nat} {e : SX} {want : Bool} : ∀ {l : List Nat}, firstAsk fr ops l = some (d, e, want) → getSV fr d = .one (.bool e) ∧ True
  | [], h => nomatch h
  | i :: l, h => by
    simp only [firstAsk] at h
    split at h
    · rename_i o ho
      have hg := guard_sound S hfr ops o
      split at h
      · rename_i d' e' want' he
        rw [he] at hg
        cases h
        exact ⟨hg.1, trivial⟩
      · exact firstAsk_spec hfr h
    · cases h
theorem drawR_sound {body : Nat → List SV → St → (SV → St → VC) → VC} (hb : BodyOk S w0 F P body) (hC : CxOk S P C) {ops : Array Oper} {K : St → VC} {Q : Exit → Act → World → Prop} (hns : Region.noSelect ops = true) (hQp : ∀ c a w, ¬ Q (.panic c) a w) :
    ∀ (fuel : Nat) (listed : Array Bool) (recs : List Rec) (st : St) (X : Nat → Prop) (R : List Say) (k : Nat) (ρ : Env G) (a : Act) (w : World), Den S ρ w0 F st a w → Closed ops listed → (∀ j, X j → listed.getD j true = true) →
      Rels S ops X ρ listed recs R → TR P ops X R listed w → left listed ≤ k → (drawR P C body ops fuel listed recs st K).den S ρ →
      (∀ ρ' st' a' w', After S w0 F st ρ ρ' st' a' w' → (K st').den S ρ' → Q .normal a' w') → wpAnyS P ops Q (TR P ops X R) k listed a w := by
  intro fuel
  induction fuel with
  | zero =>
    intro listed recs st X R k ρ a w hd hc hX hrel hT hk h hK
    simp only [drawR] at h
    split at h
    · rename_i hr; exact wpAnyS_done hr (hK ρ st a w ⟨Ext.refl _ _, Nat.le_refl _, hd⟩ h) k
    · exact h.elim
  | succ fuel ih =>
    intro listed recs st X R k ρ a w hd hc hX hrel hT hk h hK
    have done : ∀ st1, Den S ρ w0 F st1 a w → st1.n = st.n → (drawR P C body ops fuel listed recs st1 K).den S ρ → wpAnyS P ops Q (TR P ops X R) k listed a w := fun st1 hd1 hn1 h1 =>
      ih listed recs st1 X R k ρ a w hd1 hc hX hrel hT hk h1 fun ρ' st' a' w' haf hk' => hK ρ' st' a' w' (After.step S w0 F (st1 := st1) (Ext.refl _ _) (Nat.le_of_eq hn1.symm) haf) hk'
    simp only [drawR] at h
    split at h
    · rename_i hr; exact wpAnyS_done hr (hK ρ st a w ⟨Ext.refl _ _, Nat.le_refl _, hd⟩ h) k
    · rename_i i0 rest hready
      split at h
      · -- a quiet one is taken first
        rename_i i o hfq
        obtain ⟨hmem, hi⟩ := firstQuiet_spec hfq
        have hir : i ∈ Region.ready .any ops listed := by rw [hready]; exact hmem
        have hil := (mem_ready.1 hir).1
        cases hfree : Region.free .any ops listed i
        · rw [hfree] at h; exact h.elim
        rw [hfree] at h
        simp only [cond_true] at h
        obtain ⟨k', rfl⟩ : ∃ k', k = k' + 1 := ⟨k - 1, by have := left_set hil; omega⟩
        have hk' : left (listed.setIfInBounds i true) ≤ k' := by have := left_set hil; omega
        have hX' : ∀ j, (X j ∨ j = i) → (listed.setIfInBounds i true).getD j true = true := by
          rintro j (hj | rfl)
          · by_cases hij : i = j
            · subst hij; exact getD_set_self hil _
            · rw [getD_set_ne true hij]; exact hX j hj
          · exact getD_set_self hil _
        -- what the records of before say holds for the larger set, too
        have mono : ∀ R', (∀ s ∈ R, s ∈ R') → ∀ l w, TR P ops (fun j => X j ∨ j = i) R' l w → TR P ops X R l w := fun R' hsub l w hT' s hs hv =>
          hT' s (hsub s hs) fun j o' hj hx hlj => hv j o' hj (fun h' => hx (.inl h')) hlj
        have core : ∀ (R' : List Say) (v : Value) , (∀ s ∈ R, s ∈ R') → YieldsT P ops (TR P ops (fun j => X j ∨ j = i) R') i o v a → TR P ops (fun j => X j ∨ j = i) R' listed w →
            wpAnyS P ops Q (TR P ops (fun j => X j ∨ j = i) R') k' (listed.setIfInBounds i true) (a.put o.dst v) w → wpAnyS P ops Q (TR P ops X R) (k' + 1) listed a w := by
          intro R' v hsub hy hTl hrest
          refine wpAnyS_mono (mono R' hsub) _ _ _ _ ?_
          refine wpAnyS_first hi (Region.noSelect_spec hns) (fun c a w h' => absurd h' (hQp c _ w)) ?_ k' listed a w hc (Region.free_spec hi hfree) hir hy hTl ?_ hrest
          · intro l w hTl s hs hv; exact hTl s hs (valid_setX' hv)
          · intro s hs hv; exact hTl s hs (valid_setX hv)
        have hT1 : TR P ops (fun j => X j ∨ j = i) R listed w := fun s hs hv => hT s hs (valid_drop hil hv)
        have hrel1 : ∀ s ∈ R, Valid ops (fun j => X j ∨ j = i) (listed.setIfInBounds i true) s → ∃ r ∈ recs, RecDen S ρ r s := fun s hs hv => hrel s hs (valid_drop hil (valid_setX hv))
        have go : ∀ st1, Den S ρ w0 F st1 a w → st1.n = st.n → Region.wanted o (yielded ops a.tmps) = true →
            (match qev P st1.hp st1.asm (lkA (snap st1.fr o.op)) o.op with
              | some (ns, v) => VC.needs ns (drawR P C body ops fuel (listed.setIfInBounds i true) (⟨i, o, snap st1.fr o.op, v⟩ :: recs) { (st1.add ns) with fr := putDst st1.fr o.dst v } K)
              | none => VC.ff 35).den S ρ → wpAnyS P ops Q (TR P ops X R) (k' + 1) listed a w := by
          intro st1 hd1 hn1 hw h1
          split at h1
          · rename_i ns sv hv
            obtain ⟨hn, hk2⟩ := needs_den S ρ h1
            have hL := fun x => snap_R S hd1.fr o.op x
            obtain ⟨x, hrun, hx⟩ := qev_sound S ρ w0 hd1.asm hd1.hp hL hv hn
            refine core (⟨i, o, a.eval, x⟩ :: R) x (fun s hs => List.mem_cons_of_mem _ hs) ?_ ?_ ?_
            · refine .inl ⟨hw, fun l w hcl hli hTl => hTl ⟨i, o, a.eval, x⟩ List.mem_cons_self ?_⟩
              intro j o' hj hx' hlj
              cases hwt : waits o' i
              · rfl
              · exfalso
                obtain ⟨e, he, hbe⟩ := Array.any_eq_true'.1 hwt
                simp only [Bool.and_eq_true, beq_iff_eq] at hbe
                have := hcl j o' hj hlj e he hbe.1
                rw [hbe.2] at this
                have hlt := getD_lt hli
                simp [hlt] at this hli
                rw [hli] at this; cases this
            · intro s hs hv'
              rcases List.mem_cons.1 hs with rfl | hs
              · exact hrun
              · exact hT1 s hs hv'
            · refine ih _ _ _ _ _ k' ρ _ w (den_next S w0 F hd1 (next_refl S w0 F (den_hst S w0 F hd1) hn) hx) (hc.set hir) hX' ?_ ?_ hk' hk2 ?_
              · intro s hs hv'
                rcases List.mem_cons.1 hs with rfl | hs
                · exact ⟨_, List.mem_cons_self, rfl, rfl, hL, hx⟩
                · obtain ⟨r, hr, hrd⟩ := hrel1 s hs hv'
                  exact ⟨r, List.mem_cons_of_mem _ hr, hrd⟩
              · intro s hs hv'
                rcases List.mem_cons.1 hs with rfl | hs
                · exact hrun
                · exact hT1 s hs (valid_setX hv')
              · intro ρ' st' a' w' haf hk3
                exact hK _ _ _ _ (After.step S w0 F (st1 := { (st1.add ns) with fr := putDst st1.fr o.dst sv }) (Ext.refl _ _) (Nat.le_of_eq hn1.symm) haf) hk3
          · exact h1.elim
        have skip : ∀ st1, Den S ρ w0 F st1 a w → st1.n = st.n → Region.wanted o (yielded ops a.tmps) = false →
            (drawR P C body ops fuel (listed.setIfInBounds i true) recs { st1 with fr := putDst st1.fr o.dst (.tup []) } K).den S ρ → wpAnyS P ops Q (TR P ops X R) (k' + 1) listed a w := by
          intro st1 hd1 hn1 hw h1
          refine core R undef (fun s hs => hs) (.inr ⟨hw, rfl⟩) hT1 ?_
          refine ih _ _ _ _ _ k' ρ _ w (den_skip S w0 F hd1) (hc.set hir) hX' hrel1 (fun s hs hv => hT1 s hs (valid_setX hv)) hk' h1 ?_
          intro ρ' st' a' w' haf hk3
          exact hK _ _ _ _ (After.step S w0 F (st1 := { st1 with fr := putDst st1.fr o.dst (.tup []) }) (Ext.refl _ _) (Nat.le_of_eq hn1.symm) haf) hk3
        have hg := guard_sound S hd.fr ops o
        split at h
        · rename_i he; rw [he] at hg; exact go st hd rfl hg h
        · rename_i he; rw [he] at hg; exact skip st hd rfl hg h
        · rename_i d e want he
          rw [he] at hg
          obtain ⟨hs, hy, hno⟩ := hg
          obtain ⟨ht, hf⟩ := h
          by_cases hw : (e.den S ρ).toBool = want
          · obtain ⟨st1, hd1, hn1, h1⟩ := assume_sound S w0 F hd hs hw ht
            exact go st1 hd1 hn1 (hy hw) h1
          · have hw' : (e.den S ρ).toBool = !want := by cases hx : (e.den S ρ).toBool <;> cases want <;> simp_all
            obtain ⟨st1, hd1, hn1, h1⟩ := assume_sound S w0 F hd hs hw' hf
            exact done st1 hd1 hn1 h1
        · exact h.elim
      · -- loud ones: whichever comes
        split at h
        · rename_i d e want hfa
          obtain ⟨hs, _⟩ := firstAsk_spec S hd.fr hfa
          obtain ⟨ht, hf⟩ := h
          by_cases hw : (e.den S ρ).toBool = want
          · obtain ⟨st1, hd1, hn1, h1⟩ := assume_sound S w0 F hd hs hw ht
            exact done st1 hd1 hn1 h1
          · have hw' : (e.den S ρ).toBool = !want := by cases hx : (e.den S ρ).toBool <;> cases want <;> simp_all
            obtain ⟨st1, hd1, hn1, h1⟩ := assume_sound S w0 F hd hs hw' hf
            exact done st1 hd1 hn1 h1
        · have hir0 : i0 ∈ Region.ready .any ops listed := by rw [hready]; exact List.mem_cons_self
          have hil0 := (mem_ready.1 hir0).1
          obtain ⟨k', rfl⟩ : ∃ k', k = k' + 1 := ⟨k - 1, by have := left_set hil0; omega⟩
          refine ⟨fun h0 => (by rw [h0] at hir0; cases hir0), fun j hj => ?_⟩
          have hil := (mem_ready.1 hj).1
          have hir := hj
          have hk' : left (listed.setIfInBounds j true) ≤ k' := by have := left_set hil; omega
          rw [hready] at hj
          have h := conj_den S h _ (List.mem_map_of_mem hj)
          split at h
          · rename_i o hi
            have hg := guard_sound S hd.fr ops o
            split at h
            · rename_i he
              rw [he] at hg
              unfold Go.wpOp
              simp only [hi, hg, if_true]
              refine .inl (doOp_sound S w0 F hb hC (den_hst S w0 F hd) (fun x => lk_eval S hd.fr x) h ?_)
              intro ρ' sv st' w' v hn hsv hk2
              cases hall : (recs.filter fun r => !(waits o r.i)).all (recOk P st'.hp st'.asm st.n)
              · rw [hall] at hk2; exact hk2.elim
              rw [hall] at hk2
              simp only [cond_true] at hk2
              have hrel2 : ∀ s ∈ R, Valid ops X (listed.setIfInBounds j true) s → ∃ r ∈ recs.filter (fun r => !(waits o r.i)), RecDen S ρ r s := by
                intro s hs hv
                obtain ⟨r, hr, hrd⟩ := hrel s hs (valid_anti hil hv)
                refine ⟨r, List.mem_filter.2 ⟨hr, ?_⟩, hrd⟩
                have := hv j o hi (fun hx => by have := hX j hx; rw [hil] at this; cases this) (getD_set_self hil _)
                rw [hrd.1, this]; rfl
              have hrec : ∀ r ∈ recs.filter (fun r => !(waits o r.i)), ∀ s, RecDen S ρ r s → RecDen S ρ' r s ∧ (execOp s.ev s.o).run P w' = .ok (.value s.v) w' := by
                intro r hr s hrd
                have hro := List.all_eq_true.1 hall r hr
                unfold recOk at hro
                cases hvl : r.v.lt st.n
                · rw [hvl] at hro; cases hro
                cases hLl : r.L.all (fun p => p.2.lt st.n)
                · rw [hvl, hLl] at hro; cases hro
                rw [hvl, hLl] at hro
                simp only [cond_true] at hro
                split at hro
                · rename_i v' hq
                  obtain ⟨h1, h2, h3, h4⟩ := hrd
                  have h3' : ∀ x, (lkA r.L x).R S ρ' (s.ev x) := fun x => lkA_ext S hn.ext hLl (h3 x)
                  obtain ⟨x, hrun, hx⟩ := qev_sound S ρ' w0 hn.hs.asm hn.hs.hp h3' hq (fun e he => nomatch he)
                  obtain ⟨hj1, hj2, hsame⟩ := same_den S (ρ := ρ') hro
                  have hvd : s.v = r.v.den S ρ := h4.resolve_left (by rw [hj1]; simp)
                  have hxd : x = v'.den S ρ' := hx.resolve_left (by rw [hj2]; simp)
                  have hsv' : s.v = r.v.den S ρ' := by rw [hvd, SV.den_ext S hn.ext hvl]
                  refine ⟨⟨h1, h2, h3', .inr hsv'⟩, ?_⟩
                  rw [← h2, hrun, hxd, hsv', hsame]
                · cases hro
              have hT2 : TR P ops X R (listed.setIfInBounds j true) w' := by
                intro s hs hv
                obtain ⟨r, hr, hrd⟩ := hrel2 s hs hv
                exact (hrec r hr s hrd).2
              refine ⟨hT2, ih _ _ _ X R k' ρ' _ w' (den_next S w0 F hd hn hsv) (hc.set hir) ?_ ?_ hT2 hk' hk2 ?_⟩
              · intro j' hj'
                by_cases hij : j = j'
                · subst hij; exact getD_set_self hil _
                · rw [getD_set_ne true hij]; exact hX j' hj'
              · intro s hs hv
                obtain ⟨r, hr, hrd⟩ := hrel2 s hs hv
                exact ⟨r, hr, (hrec r hr s hrd).1⟩
              · intro ρ2 st2 a2 w2 haf hk3
                exact hK _ _ _ _ (After.step S w0 F (st1 := { st' with fr := putDst st'.fr o.dst sv }) hn.ext hn.le haf) hk3
            · exact h.elim
          · exact h.elim

theorem drew_sat {H : HProp} {w : World} (h : Sat w0 H w) : Sat w0 H { w with drawn := w.drawn + 1 } := Sat.drew h _

theorem region_draw_sound {body : Nat → List SV → St → (SV → St → VC) → VC} (hb : BodyOk S w0 F P body) (hC : CxOk S P C) {id : Nat} {ops : Array Oper} {K : St → VC} {Q : Exit → Act → World → Prop} (hm : P.follows .mixedOrders = true) (hns : Region.noSelect ops = true) (hQp : ∀ c a w, ¬ Q (.panic c) a w)
    {fuel : Nat} {st : St} {ρ : Env G} {a : Act} {w : World} (hd : Den S ρ w0 F st a w) (h : (drawR P C body ops fuel (Array.replicate ops.size false) [] st K).den S ρ)
    (hK : ∀ ρ' st' a' w', After S w0 F st ρ ρ' st' a' w' → (K st').den S ρ' → Q .normal a' w') : (Code.region id ops true).wp P Q a w := by
  refine wp_region_any hm ?_
  refine wpAny_of_S _ _ _ _ (drawR_sound S w0 F hb hC hns hQp fuel _ [] st (fun _ => False) [] ops.size ρ a _ ⟨hd.fr, hd.df, Sat.drew hd.hp _, hd.asm⟩ ?_ (fun _ h => h.elim) (fun s hs => nomatch hs) (fun s hs => nomatch hs) ?_ h hK)
  · intro j o hj hl
    have hlt : j < ops.size := (Array.getElem?_eq_some_iff.1 hj).1
    simp [hlt] at hl
  · unfold left
    exact Nat.le_trans List.countP_le_length (by simp)
end
end
end Go.Eng

/- Code, bodies, contracts: that the symbolic run is the model's. -/
set_option linter.unusedSimpArgs false
set_option linter.unusedVariables false
namespace Go.Eng
noncomputable section
open Go.RowKit (Below)

section
variable {G : Type} (S : Sig G) (w0 : World) (F : HProp) {P : Program} {C : Cx}

/-! ### Loops -/
def WpIn (P : Program) (c : Code) (Q : Exit → Act → World → Prop) (a : Act) (w : World) : Prop :=
  ∀ (b : Frame) (k : List Item) (cs : List Frame), ∃ e a' w', Q e a' w' ∧ Arrives P (lone (b.at a (.code c :: .inLoop c :: k)) cs w) b k cs e a' w'
theorem wpIn_loop {c : Code} {Q : Exit → Act → World → Prop} {a : Act} {w : World} (h : WpIn P c Q a w) : (Code.loop c).wp P Q a w := by
  intro b k cs
  obtain ⟨e, a', w', hq, harr⟩ := h b k cs
  exact ⟨e, a', w', hq, .of_steps (.one step_loop) harr⟩
theorem wpIn_step {c : Code} {Q : Exit → Act → World → Prop} {a : Act} {w : World} (h : c.wp P (Exit.then (WpIn P c Q) Q) a w) : WpIn P c Q a w := by
  intro b k cs
  obtain ⟨e, a₁, w₁, hq, harr⟩ := h b (.inLoop c :: k) cs
  cases e with
  | normal =>
    obtain ⟨e₂, a₂, w₂, hq₂, harr₂⟩ := hq b k cs
    exact ⟨e₂, a₂, w₂, hq₂, .of_steps (Steps.trans harr (.one step_inLoop)) harr₂⟩
  | exit id => exact ⟨_, a₁, w₁, hq, .pass (x := .inLoop c) rfl (fun _ _ => .inl (by simp)) harr⟩
  | goto l => exact ⟨_, a₁, w₁, hq, .pass (x := .inLoop c) rfl (fun _ _ => .inl (by simp)) harr⟩
  | ret => exact ⟨_, a₁, w₁, hq, .pass (x := .inLoop c) rfl (fun _ _ => .inl (by simp)) harr⟩
  | panic ch => exact ⟨_, a₁, w₁, hq, .pass (x := .inLoop c) rfl (fun _ _ => .inl (by simp)) harr⟩
  | outgrown => exact ⟨_, a₁, w₁, hq, .pass (x := .inLoop c) rfl (fun _ _ => .inl (by simp)) harr⟩
theorem wpIn_inv {c : Code} {Q : Exit → Act → World → Prop} (I : Nat → Act → World → Prop) (round : ∀ n a w, I n a w → c.wp P (Exit.then (fun a' w' => ∃ m, m < n ∧ I m a' w') Q) a w) :
    ∀ n a w, I n a w → WpIn P c Q a w := by
  intro n
  induction n using Nat.strongRecOn with
  | _ n ih =>
    intro a w hI
    refine wpIn_step (wp_mono (round n a w hI) ?_)
    intro e a' w' h
    cases e with
    | normal => obtain ⟨m, hm, hI'⟩ := h; exact ih m hm a' w' hI'
    | _ => exact h

/-! ### Annotations -/
theorem annsOf_mem {f id : Nat} {a : Ann} (h : a ∈ annsOf C f id) : ∃ l i, assoc C.anns f = some l ∧ (i, a) ∈ l := by
  unfold annsOf at h
  split at h
  · rename_i l hl
    obtain ⟨⟨i, b⟩, hm, hb⟩ := List.mem_filterMap.1 h
    simp only [Bool.cond_eq_ite] at hb
    split at hb
    · cases hb; exact ⟨l, i, hl, hm⟩
    · cases hb
  · cases h

theorem ghosts_sound (K : St → VC) : ∀ (l : List Ann), (∀ sp args, Ann.ghost sp args ∈ l → sp.wf = true ∧ GhOk S sp) → ∀ (st : St) (ρ : Env G) (a : Act) (w : World), Den S ρ w0 F st a w → (ghosts st K l).den S ρ →
    ∃ ρ' st', After S w0 F st ρ ρ' st' a w ∧ (K st').den S ρ'
  | [], _, st, ρ, a, w, hd, h => ⟨ρ, st, ⟨Ext.refl _ _, Nat.le_refl _, hd⟩, h⟩
  | .inv i :: l, hl, st, ρ, a, w, hd, h => ghosts_sound K l (fun sp args hm => hl sp args (List.mem_cons_of_mem _ hm)) st ρ a w hd h
  | .ghost sp args :: l, hl, st, ρ, a, w, hd, h => by
    simp only [ghosts] at h
    split at h
    · rename_i v hv
      obtain ⟨hwf, hg⟩ := hl sp args List.mem_cons_self
      obtain ⟨ch, ρc, F', h1, h2, h3, h4⟩ := callSpec_core S ρ w0 hwf (den_hst S w0 F hd) (argsR_map S (fun x => lk_eval S hd.fr x) args) hv h
      obtain ⟨ρc', he, hs, hf⟩ := hg ch w0 F' ρc w h2 h3
      obtain ⟨ρ', sv, st', hn, _, hk⟩ := h4 ρc' w he hs hf
      have hd' : Den S ρ' w0 F st' a w := ⟨by rw [hn.fr]; exact hn.frR _ hd.fr, hd.df, hn.hs.hp, hn.hs.asm⟩
      obtain ⟨ρ2, st2, haf, hk2⟩ := ghosts_sound K l (fun sp args hm => hl sp args (List.mem_cons_of_mem _ hm)) st' ρ' a w hd' hk
      exact ⟨ρ2, st2, After.step S w0 F hn.ext hn.le haf, hk2⟩
    · exact h.elim

/-! ### Invariants -/
theorem Ch.bq_eq {a b : Ch} (h : Ch.bq a b = true) : a = b := by
  cases a <;> cases b <;> simp only [Ch.bq, Bool.cond_eq_ite] at h <;> first | (cases h; done) | skip
  · split at h
    · rename_i h1; split at h
      · rename_i h2; rw [Nat.eq_of_beq_eq_true h1, SX.bq_eq h2, SCs.bq_eq h]
      · cases h
    · cases h
  · split at h
    · rename_i h1; split at h
      · rename_i h2; split at h
        · rename_i h3; rw [of_decide_eq_true h1, SX.bq_eq h2, SX.bq_eq h3, SX.bq_eq h]
        · cases h
      · cases h
    · cases h
  · split at h
    · rename_i h1; split at h
      · rename_i h2; split at h
        · rename_i h3; rw [of_decide_eq_true h1, SX.bq_eq h2, SX.bq_eq h3, SX.bq_eq h]
        · cases h
      · cases h
    · cases h
  · split at h
    · rename_i h0; split at h
      · rename_i h1; split at h
        · rename_i h2; split at h
          · rename_i h3; split at h
            · rename_i h4; rw [Nat.eq_of_beq_eq_true h0, of_decide_eq_true h1, SX.bq_eq h2, SX.bq_eq h3, SX.bq_eq h4, SX.bq_eq h]
            · cases h
          · cases h
        · cases h
      · cases h
    · cases h
  · split at h
    · rename_i h0; split at h
      · rename_i h1; split at h
        · rename_i h2; rw [kn_inj (Nat.eq_of_beq_eq_true h0), of_decide_eq_true h1, SX.bq_eq h2, SX.bq_eq h]
        · cases h
      · cases h
    · cases h
  · split at h
    · rename_i h1; split at h
      · rename_i h2; rw [Nat.eq_of_beq_eq_true h1, SX.bq_eq h2, SX.bq_eq h]
      · cases h
    · cases h
  · simp only [← Bool.cond_eq_ite] at h
    rename_i kk v b m r l c kk' v' b' m' r' l' c'
    cases h1 : Nat.beq (kn kk) (kn kk')
    · rw [h1] at h; cases h
    cases h2 : decide (v = v')
    · rw [h1, h2] at h; cases h
    cases h3 : SX.bq b b'
    · rw [h1, h2, h3] at h; cases h
    cases h4 : SX.bq m m'
    · rw [h1, h2, h3, h4] at h; cases h
    cases h5 : SX.bq r r'
    · rw [h1, h2, h3, h4, h5] at h; cases h
    cases h6 : SX.bq l l'
    · rw [h1, h2, h3, h4, h5, h6] at h; cases h
    rw [h1, h2, h3, h4, h5, h6] at h
    rw [kn_inj (Nat.eq_of_beq_eq_true h1), of_decide_eq_true h2, SX.bq_eq h3, SX.bq_eq h4, SX.bq_eq h5, SX.bq_eq h6, SX.bq_eq h]

theorem dropCh_sound {ρ : Env G} {c : Ch} : ∀ {l r : List Ch}, dropCh c l = some r → hpDen S ρ w0 l = star (c.den S ρ w0) (hpDen S ρ w0 r)
  | [], r, h => nomatch h
  | d :: l, r, h => by
    simp only [dropCh, Bool.cond_eq_ite] at h
    split at h
    · rename_i hq; cases h; rw [Ch.bq_eq hq]; rfl
    · obtain ⟨r', h1, h⟩ := ob_some h
      cases h
      rw [hpDen_cons, dropCh_sound h1, hpDen_cons, star_left_comm]
theorem holdAll_sound {ρ : Env G} : ∀ {l hp r : List Ch}, holdAll l hp = some r → hpDen S ρ w0 hp = star (hpDen S ρ w0 l) (hpDen S ρ w0 r)
  | [], hp, r, h => by
    cases h
    have : hpDen S ρ w0 [] = emp := rfl
    rw [this, star_comm, star_emp]
  | c :: l, hp, r, h => by
    obtain ⟨hp', h1, h⟩ := ob_some h
    rw [dropCh_sound S w0 h1, holdAll_sound h, hpDen_cons, star_assoc]

theorem frOk_sound {d : Nat} {th : List SX} {ss : List Srt} {slots : List (Nat × SV)} {ρ ρI : Env G} {asm : List SX} (ha : ∀ x ∈ asm, (x.den S ρ).toProp) (hT : ThR S d th ss ρ ρI)
    (hsl : slots.all (fun p => p.2.wf d ss) = true) (hE : ∀ e : SV, e.lt d = true → e.den S ρI = e.den S ρ) :
    ∀ {head fr : List SV} {i : Nat} {ns ns' : List SX} {tm : List Value}, frOk asm d th slots ns i head fr = some ns' → (∀ x ∈ ns', (x.den S ρ).toProp) → head.all (SV.lt d) = true → FrR S ρ fr tm →
      FrR S ρI (setSlots slots i head) tm ∧ ∀ x ∈ ns, (x.den S ρ).toProp
  | [], [], i, ns, ns', tm, h, hn, hh, hf => by
    cases h
    cases tm with
    | nil => exact ⟨trivial, hn⟩
    | cons => exact hf.elim
  | [], _ :: _, i, ns, ns', tm, h, hn, hh, hf => nomatch h
  | _ :: _, [], i, ns, ns', tm, h, hn, hh, hf => nomatch h
  | g :: hs, v :: vs, i, ns, ns', tm, h, hn, hh, hf => by
    cases tm with
    | nil => exact hf.elim
    | cons x tm =>
      simp only [List.all_cons, Bool.and_eq_true] at hh
      simp only [frOk] at h
      split at h
      · rename_i p hp
        obtain ⟨n1, e1, h⟩ := ob_some h
        obtain ⟨h2, hn1⟩ := frOk_sound ha hT hsl hE h hn hh.2 hf.2
        obtain ⟨h1, hn0⟩ := eqV_sound S ρ ha e1 hn1
        refine ⟨?_, hn0⟩
        simp only [setSlots, hp]
        have hw : p.wf d ss = true := List.all_eq_true.1 hsl _ (assoc_mem hp)
        exact ⟨(SV.sub_R S ρ hT hw).1 (h1 x hf.1), h2⟩
      · rename_i hp
        obtain ⟨n1, e1, h⟩ := ob_some h
        obtain ⟨h2, hn1⟩ := frOk_sound ha hT hsl hE h hn hh.2 hf.2
        obtain ⟨h1, hn0⟩ := eqV_sound S ρ ha e1 hn1
        refine ⟨?_, hn0⟩
        simp only [setSlots, hp]
        refine ⟨?_, h2⟩
        rcases h1 x hf.1 with hj | he
        · exact .inl hj
        · exact .inr (by rw [hE g hh.1]; exact he)

theorem inv_wf {iv : Inv} {n : Nat} (h : iv.wf n = true) : iv.meas.wf n iv.ss = true ∧ iv.facts.all (SX.wf n iv.ss) = true ∧ iv.hp.all (Ch.wf n iv.ss) = true ∧ iv.slots.all (fun p => p.2.wf n iv.ss) = true ∧ iv.meas.lt (n + iv.ss.length) = true := by
  unfold Inv.wf at h
  simp only [Bool.cond_eq_ite] at h
  split at h
  · rename_i h1; split at h
    · rename_i h2; split at h
      · rename_i h3; split at h
        · rename_i h4; exact ⟨h1, h2, h3, h4, h⟩
        · cases h
      · cases h
    · cases h
  · cases h

/-- An invariant that is met stands, at some of its atoms. -/
theorem meet_sound {n : Nat} {ρ ρ' : Env G} {st : St} {iv : Inv} {head : List SV} {th ns : List SX} {rest base : List Ch} {left : List Ch} {asm0 : List SX} {a : Act} {w : World} (hE : Ext n ρ ρ') (hd : Den S ρ' w0 F st a w)
    (hw : iv.wf n = true) (hh : head.all (SV.lt n) = true) (hb : base.all (Ch.lt n) = true) (h : meet n st iv head = some (th, ns, rest)) (hn : ∀ x ∈ ns, (x.den S ρ').toProp) (hold : hpDen S ρ' w0 rest = star (hpDen S ρ' w0 base) (hpDen S ρ' w0 left))
    (has : asm0.all (SX.lt n) = true) (ha0 : ∀ x ∈ asm0, (x.den S ρ).toProp) :
    ∃ us : List (U G), us.length = iv.ss.length ∧ Den S (updL S ρ n iv.ss us) w0 F { fr := setSlots iv.slots 0 head, hp := iv.hp ++ base, n := n + iv.ss.length, asm := iv.facts ++ asm0 } a w ∧
      (∀ x ∈ iv.facts, (x.den S (updL S ρ n iv.ss us)).toProp) ∧ (iv.meas.sub n th).den S ρ' = iv.meas.den S (updL S ρ n iv.ss us) := by
  obtain ⟨w1, w2, w3, w4, w5⟩ := inv_wf hw
  unfold meet at h
  simp only at h
  obtain ⟨th', hth, h⟩ := ob_some h
  simp only [Bool.cond_eq_ite] at h
  split at h
  · rename_i hok
    obtain ⟨ns1, hfr, h⟩ := ob_some h
    obtain ⟨⟨ns2, rest', ks⟩, htk, h⟩ := ob_some h
    simp only at h
    split at h
    · cases h
      let us : List (U G) := (List.range iv.ss.length).map fun j => (getTh th j).den S ρ'
      have hus : us.length = iv.ss.length := by simp [us]
      have husj : ∀ j s, iv.ss[j]? = some s → us[j]? = some ((getTh th j).den S ρ') := fun j s hs => by
        have := (List.getElem?_eq_some_iff.1 hs).1
        simp [us, this]
      have hEI : Ext n ρ (updL S ρ n iv.ss us) := updL_ext S ρ n iv.ss us
      have hT : ThR S n th iv.ss ρ' (updL S ρ n iv.ss us) := ⟨fun i hi => by rw [hEI i hi, hE i hi], fun i s hs => by
        rw [updL_high S (n := n) (ρ := ρ) hs (husj _ _ hs), U.co_co]
        have h1 := thOk_get hok i s hs
        have h2 := SX.srt_co S ρ' (getTh th i)
        rw [h1] at h2
        exact h2⟩
      obtain ⟨hfa, hn2⟩ := foldr_need S ρ' hd.asm hn
      have hfacts := (mem_sub S ρ' hT w2).1 hfa
      obtain ⟨hn1, htake⟩ := takeChs_sound S ρ' w0 hd.asm S.ch htk hn2 (fun i K hm => nomatch hm)
      have hEE : ∀ e : SV, e.lt n = true → e.den S (updL S ρ n iv.ss us) = e.den S ρ' := fun e he => by rw [SV.den_ext S hEI he, SV.den_ext S hE he]
      obtain ⟨hfrR, _⟩ := frOk_sound S hd.asm hT w4 hEE hfr hn1 hh hd.fr
      refine ⟨us, hus, ⟨hfrR, hd.df, ?_, ?_⟩, hfacts, SX.sub_den S ρ' hT w1⟩
      · have key : ∀ y, star (hpDen S ρ' w0 st.hp) F y → star (hpDen S ρ' w0 left) (star (hpDen S (updL S ρ n iv.ss us) w0 (iv.hp ++ base)) F) y := by
          intro y hy
          have := htake _ _ hy
          rw [hp_sub_den S ρ' w0 hT S.ch w3, hold] at this
          have hbase : hpDen S ρ' w0 base = hpDen S (updL S ρ n iv.ss us) w0 base := by rw [hpDen_ext S hE w0 hb, hpDen_ext S hEI w0 hb]
          rw [hbase] at this
          rw [hpDen_append]
          rw [star_assoc, star_left_comm (hpDen S ρ' w0 left), star_left_comm (hpDen S ρ' w0 left), ← star_assoc (hpDen S (updL S ρ n iv.ss us) w0 base)]
          exact this
        exact Sat.drop (hd.hp.mono key)
      · intro e he
        rcases List.mem_append.1 he with he | he
        · exact hfacts e he
        · rw [SX.den_ext S hEI (List.all_eq_true.1 has e he)]; exact ha0 e he
    · cases h
  · cases h
end
end
end Go.Eng

/- Code, bodies, contracts: that the symbolic run is the model's. -/
set_option linter.unusedSimpArgs false
set_option linter.unusedVariables false
namespace Go.Eng
noncomputable section
open Go.RowKit (Below)

section
variable {G : Type} (S : Sig G) (w0 : World) (F : HProp) {P : Program} {C : Cx}

def Wp (P : Program) (c : Code) (Q : Exit → Act → World → Prop) (a : Act) (w : World) : Prop := (∀ b, c = .loop b → WpIn P b Q a w) ∧ c.wp P Q a w
theorem Wp.of {c : Code} {Q : Exit → Act → World → Prop} {a : Act} {w : World} (hc : ∀ b, c ≠ .loop b) (h : c.wp P Q a w) : Wp P c Q a w := ⟨fun b hb => absurd hb (hc b), h⟩
theorem Wp.loop {b : Code} {Q : Exit → Act → World → Prop} {a : Act} {w : World} (h : WpIn P b Q a w) : Wp P (.loop b) Q a w := ⟨fun b' hb => by cases hb; exact h, wpIn_loop h⟩

/-- What a continuation promises, from a state on. -/
structure KtR (K : Kt) (st : St) (ρ : Env G) (Q : Exit → Act → World → Prop) : Prop where
  nrm : ∀ ρ' st' a' w', After S w0 F st ρ ρ' st' a' w' → (K.nrm st').den S ρ' → Q .normal a' w'
  ret : ∀ ρ' st' a' w', After S w0 F st ρ ρ' st' a' w' → (K.ret st').den S ρ' → Q .ret a' w'
  ext : ∀ i ρ' st' a' w', After S w0 F st ρ ρ' st' a' w' → (K.ext i st').den S ρ' → Q (.exit i) a' w'
  pan : ∀ c a w, ¬ Q (.panic c) a w
theorem KtR.step {K : Kt} {st st1 : St} {ρ ρ1 : Env G} {Q : Exit → Act → World → Prop} (hE : Ext st.n ρ ρ1) (hn : st.n ≤ st1.n) (h : KtR S w0 F K st ρ Q) : KtR S w0 F K st1 ρ1 Q :=
  ⟨fun _ _ _ _ ha hk => h.nrm _ _ _ _ (After.step S w0 F hE hn ha) hk, fun _ _ _ _ ha hk => h.ret _ _ _ _ (After.step S w0 F hE hn ha) hk, fun i _ _ _ _ ha hk => h.ext i _ _ _ _ (After.step S w0 F hE hn ha) hk, h.pan⟩
theorem KtR.asm {K : Kt} {st st1 : St} {ρ : Env G} {Q : Exit → Act → World → Prop} (hn : st.n = st1.n) (h : KtR S w0 F K st ρ Q) : KtR S w0 F K st1 ρ Q := h.step S w0 F (Ext.refl _ _) (Nat.le_of_eq hn)

theorem asm_cons {ρ : Env G} {e : SX} {l : List SX} (h : (e.den S ρ).toProp) (h' : ∀ x ∈ l, (x.den S ρ).toProp) : ∀ x ∈ e :: l, (x.den S ρ).toProp := fun x hx => by
  rcases List.mem_cons.1 hx with rfl | hx
  · exact h
  · exact h' x hx

theorem sx_sound {body : Nat → List SV → St → (SV → St → VC) → VC} (hb : BodyOk S w0 F P body) (hC : CxOk S P C) (f : Nat) :
    ∀ (fuel : Nat) (c : Code) (st : St) (ρ : Env G) (a : Act) (w : World) (K : Kt) (Q : Exit → Act → World → Prop), Den S ρ w0 F st a w → (sx P C body f fuel c st K).den S ρ → KtR S w0 F K st ρ Q → Wp P c Q a w := by
  intro fuel
  induction fuel with
  | zero => intro c st ρ a w K Q hd h hK; exact h.elim
  | succ fuel ih =>
    intro c st ρ a w K Q hd h hK
    have refl : After S w0 F st ρ ρ st a w := ⟨Ext.refl _ _, Nat.le_refl _, hd⟩
    unfold sx at h
    split at h
    · exact Wp.of (by intros; simp) (wp_skip (hK.nrm _ _ _ _ refl h))
    · exact Wp.of (by intros; simp) (wp_label (hK.nrm _ _ _ _ refl h))
    · -- region
      rename_i id ops draw
      refine Wp.of (by intros; simp) ?_
      obtain ⟨ρ1, st1, haf, hk⟩ := ghosts_sound S w0 F _ (annsOf C f id) (fun sp args hm => by obtain ⟨l, i, hl, hm⟩ := annsOf_mem hm; exact hC.2.1 f l hl i sp args hm) st ρ a w hd h
      have hn : ∀ ρ' st' a' w', After S w0 F st1 ρ1 ρ' st' a' w' → (K.nrm st').den S ρ' → Q .normal a' w' := fun ρ' st' a' w' h1 h2 => hK.nrm _ _ _ _ (After.step S w0 F haf.1 haf.2.1 h1) h2
      cases draw
      · simp only [cond_false] at hk
        exact wp_region_list (seqR_sound S w0 F hb hC ops.toList st1 ρ1 a w haf.2.2 hk hn)
      · simp only [cond_true] at hk
        cases hm : P.follows .mixedOrders
        · rw [hm] at hk; exact hk.elim
        cases hns : Region.noSelect ops
        · rw [hm, hns] at hk; exact hk.elim
        rw [hm, hns] at hk
        exact region_draw_sound S w0 F hb hC hm hns hK.pan haf.2.2 hk hn
    · -- seq
      rename_i x y
      refine Wp.of (by intros; simp) (wp_seq (ih x st ρ a w _ _ hd h ⟨?_, ?_, ?_, ?_⟩).2)
      · intro ρ' st' a' w' haf hk
        exact (ih y st' ρ' a' w' K Q haf.2.2 hk (hK.step S w0 F haf.1 haf.2.1)).2
      · intro ρ' st' a' w' haf hk; exact hK.ret _ _ _ _ haf hk
      · intro i ρ' st' a' w' haf hk; exact hK.ext i _ _ _ _ haf hk
      · intro c a w h; exact hK.pan c a w h
    · -- cond
      rename_i x c1 c2
      refine Wp.of (by intros; simp) ?_
      have hx := lk_eval S hd.fr x
      split at h
      · rename_i he; rw [he] at hx
        exact wp_cond_true (by rw [R_one S ρ hx]; rfl) (ih c1 st ρ a w K Q hd h hK).2
      · rename_i he; rw [he] at hx
        exact wp_cond_false (by rw [R_one S ρ hx]; rfl) (ih c2 st ρ a w K Q hd h hK).2
      · rename_i e _ _ he; rw [he] at hx
        cases hq : sq e.srt .bool
        · rw [hq] at h; exact h.elim
        rw [hq] at h
        simp only [cond_true] at h
        obtain ⟨ht, hf⟩ := h
        have hev := R_one S ρ hx
        simp only [SC.den] at hev
        cases hv : (e.den S ρ).toBool
        · rw [hv] at hev
          have hp : ¬ (e.den S ρ).toProp := by rw [srt_bool S hq, hv]; simp
          have hp' : ((eNot e).den S ρ).toProp := by rw [eNot_den, srt_bool S hq, hv]; rfl
          refine wp_cond_false hev ?_
          cases hin : inAsm e st.asm
          · rw [hin] at hf
            exact (ih c2 { st with asm := eNot e :: st.asm } ρ a w K Q ⟨hd.fr, hd.df, hd.hp, asm_cons S hp' hd.asm⟩ (hf hp') (KtR.asm S w0 F (st := st) rfl hK)).2
          · exact absurd (hd.asm _ (inAsm_mem hin)) hp
        · rw [hv] at hev
          have hp : (e.den S ρ).toProp := by rw [srt_bool S hq, hv]; rfl
          have hp' : ¬ ((eNot e).den S ρ).toProp := by rw [eNot_den, srt_bool S hq, hv]; simp
          refine wp_cond_true hev ?_
          cases hin : inAsm (eNot e) st.asm
          · rw [hin] at ht
            exact (ih c1 { st with asm := e :: st.asm } ρ a w K Q ⟨hd.fr, hd.df, hd.hp, asm_cons S hp hd.asm⟩ (ht hp) (KtR.asm S w0 F (st := st) rfl hK)).2
          · exact absurd (hd.asm _ (inAsm_mem hin)) hp'
      · exact h.elim
    · -- block
      rename_i id b
      refine Wp.of (by intros; simp) (wp_block (ih b st ρ a w _ _ hd h ⟨?_, ?_, ?_, ?_⟩).2)
      · intro ρ' st' a' w' haf hk; exact hK.nrm _ _ _ _ haf hk
      · intro ρ' st' a' w' haf hk; exact hK.ret _ _ _ _ haf hk
      · intro i ρ' st' a' w' haf hk
        simp only [Exit.inBlock]
        simp only [Bool.cond_eq_ite] at hk
        split at hk
        · rename_i hi; rw [if_pos (Nat.eq_of_beq_eq_true hi)]; exact hK.nrm _ _ _ _ haf hk
        · rename_i hi
          rw [if_neg (fun h => hi (by subst h; simp))]
          exact hK.ext i _ _ _ _ haf hk
      · intro c a w h; exact hK.pan c a w h
    · exact Wp.of (by intros; simp) (wp_exit (hK.ext _ _ _ _ _ refl h))
    · exact Wp.of (by intros; simp) (wp_ret (hK.ret _ _ _ _ refl h))
    · -- loop
      rename_i b
      split at h
      · exact h.elim
      · rename_i key hkey
        split at h
        · -- a round by itself
          refine Wp.loop (wpIn_step (ih b st ρ a w _ _ hd h ⟨?_, ?_, ?_, ?_⟩).2)
          · intro ρ' st' a' w' haf hk
            exact (ih (.loop b) st' ρ' a' w' K Q haf.2.2 hk (hK.step S w0 F haf.1 haf.2.1)).1 b rfl
          · intro ρ' st' a' w' haf hk; exact hK.ret _ _ _ _ haf hk
          · intro i ρ' st' a' w' haf hk; exact hK.ext i _ _ _ _ haf hk
          · intro c a w h; exact hK.pan c a w h
        · rename_i iv0 hiv
          simp only at h
          generalize hIV : iv0.at st.n = iv at h
          generalize junks st.fr (Code.writes b) = head at h
          split at h
          · exact h.elim
          · rename_i th0 ns rest hmeet
            cases h1 : iv.wf st.n
            · rw [h1] at h; exact h.elim
            cases h2 : head.all (SV.lt st.n)
            · rw [h1, h2] at h; exact h.elim
            cases h3 : rest.all (Ch.lt st.n)
            · rw [h1, h2, h3] at h; exact h.elim
            rw [h1, h2, h3] at h
            simp only [cond_true] at h
            obtain ⟨hn, hfr⟩ := needs_den S ρ h
            obtain ⟨hok, hcont⟩ := fresh_den S ρ hfr
            have has : (ns ++ st.asm).all (SX.lt st.n) = true := by
              unfold St.ok at hok
              simp only [Bool.cond_eq_ite] at hok
              split at hok
              · split at hok
                · exact hok
                · cases hok
              · cases hok
            have ha0 : ∀ x ∈ ns ++ st.asm, (x.den S ρ).toProp := fun x hx => (List.mem_append.1 hx).elim (hn x) (hd.asm x)
            let stI : St := { fr := setSlots iv.slots 0 head, hp := iv.hp ++ rest, n := st.n + iv.ss.length, asm := iv.facts ++ (ns ++ st.asm) }
            let I : Nat → Act → World → Prop := fun m a w => ∃ us : List (U G), us.length = iv.ss.length ∧ Den S (updL S ρ st.n iv.ss us) w0 F stI a w ∧ (∀ x ∈ iv.facts, (x.den S (updL S ρ st.n iv.ss us)).toProp) ∧ (iv.meas.den S (updL S ρ st.n iv.ss us)).toInt.toNat = m
            obtain ⟨us, hus, hdI, hf, hm⟩ := meet_sound S w0 F (Ext.refl st.n ρ) hd h1 h2 h3 hmeet hn (left := []) (by have : hpDen S ρ w0 [] = emp := rfl; rw [this, star_emp]) has ha0
            refine Wp.loop (wpIn_inv I ?_ _ a w ⟨us, hus, hdI, hf, rfl⟩)
            rintro m a1 w1 ⟨us, hus, hdI, hf, hm⟩
            have hEI : Ext st.n ρ (updL S ρ st.n iv.ss us) := updL_ext S ρ st.n iv.ss us
            refine (ih b stI _ a1 w1 _ _ hdI (hcont us hus hf) ⟨?_, ?_, ?_, ?_⟩).2
            · intro ρ' st' a' w' haf hk
              simp only at hk
              split at hk
              · exact hk.elim
              · rename_i th1 ns1 rest1 hmeet1
                split at hk
                · exact hk.elim
                · rename_i lft hhold
                  obtain ⟨hk1, _⟩ := needs_den S ρ' hk
                  obtain ⟨hpos, hk2⟩ := need_sound S ρ' haf.2.2.asm hk1
                  obtain ⟨hlt, hk3⟩ := need_sound S ρ' haf.2.2.asm hk2
                  rw [eLe_den] at hpos
                  rw [eLt_den] at hlt
                  obtain ⟨us', hus', hdI', hf', hm'⟩ := meet_sound S w0 F (hEI.trans haf.1 (Nat.le_add_right _ _)) haf.2.2 h1 h2 h3 hmeet1 hk3 (holdAll_sound S w0 hhold) has ha0
                  have hml := (inv_wf h1).2.2.2.2
                  have hm0 : iv.meas.den S ρ' = iv.meas.den S (updL S ρ st.n iv.ss us) := SX.den_ext S haf.1 hml
                  refine ⟨_, ?_, us', hus', hdI', hf', rfl⟩
                  rw [← hm', ← hm]
                  rw [hm0] at hlt
                  simp only [SX.den, U.toInt_int] at hpos
                  omega
            · intro ρ' st' a' w' haf hk; exact hK.ret _ _ _ _ (After.step S w0 F hEI (Nat.le_add_right _ _) haf) hk
            · intro i ρ' st' a' w' haf hk; exact hK.ext i _ _ _ _ (After.step S w0 F hEI (Nat.le_add_right _ _) haf) hk
            · intro c a w h; exact hK.pan c a w h
    · exact h.elim
end
end
end Go.Eng

/- Bodies and contracts: that the symbolic run is the model's. -/
set_option linter.unusedSimpArgs false
set_option linter.unusedVariables false
namespace Go.Eng
noncomputable section
open Go.RowKit (Below)

section
variable {P : Program}
def oneRun (tmps : Array Value) : ResultVar → Sem Value
  | .tmp t => pure (tmps.getD t undef)
  | .cell a t => do loadVar t (← asAddr (tmps.getD a undef))
theorem results_eq (fn : Func) (tmps : Array Value) : results fn tmps = (do
    let vs ← fn.results.mapM (oneRun tmps)
    pure (if h : vs.size = 1 then vs[0] else .tuple vs)) := by
  unfold results
  congr 2
theorem results_1 {fn : Func} {tmps : Array Value} {r : ResultVar} {x : Value} {w : World} (h : fn.results = #[r]) (h1 : (oneRun tmps r).run P w = .ok x w) : (results fn tmps).run P w = .ok x w := by
  rw [results_eq, h]; simp [h1]
theorem results_2 {fn : Func} {tmps : Array Value} {r r2 : ResultVar} {x x2 : Value} {w : World} (h : fn.results = #[r, r2]) (h1 : (oneRun tmps r).run P w = .ok x w) (h2 : (oneRun tmps r2).run P w = .ok x2 w) : (results fn tmps).run P w = .ok (.tuple #[x, x2]) w := by
  rw [results_eq, h]; simp [h1, h2]
theorem results_3 {fn : Func} {tmps : Array Value} {r r2 r3 : ResultVar} {x x2 x3 : Value} {w : World} (h : fn.results = #[r, r2, r3]) (h1 : (oneRun tmps r).run P w = .ok x w) (h2 : (oneRun tmps r2).run P w = .ok x2 w) (h3 : (oneRun tmps r3).run P w = .ok x3 w) : (results fn tmps).run P w = .ok (.tuple #[x, x2, x3]) w := by
  rw [results_eq, h]; simp [h1, h2, h3]
theorem results_4 {fn : Func} {tmps : Array Value} {r r2 r3 r4 : ResultVar} {x x2 x3 x4 : Value} {w : World} (h : fn.results = #[r, r2, r3, r4]) (h1 : (oneRun tmps r).run P w = .ok x w) (h2 : (oneRun tmps r2).run P w = .ok x2 w) (h3 : (oneRun tmps r3).run P w = .ok x3 w) (h4 : (oneRun tmps r4).run P w = .ok x4 w) : (results fn tmps).run P w = .ok (.tuple #[x, x2, x3, x4]) w := by
  rw [results_eq, h]; simp [h1, h2, h3, h4]
end

section
variable {G : Type} (S : Sig G) (w0 : World) (F : HProp) {P : Program} {C : Cx}
theorem oneRes_sound {st : St} {ρ : Env G} {a : Act} {w : World} (hd : Den S ρ w0 F st a w) {r : ResultVar} {p : Bool × List SC} (h : oneRes P st r = some p) : (oneRun a.tmps r).run P w = .ok (tupV S ρ p) w := by
  cases r with
  | tmp t =>
    simp only [oneRes] at h
    have hr := lk_R S hd.fr t
    rw [List.getD_eq_getElem?_getD, Array.getElem?_toList] at hr
    simp only [oneRun]
    rw [Array.getD_eq_getD_getElem?]
    split at h
    · rename_i c hc
      cases h
      rw [hc] at hr
      rw [R_one S ρ hr]; rfl
    · rename_i cs hc
      cases h
      rw [hc] at hr
      have := hr.resolve_left (by simp [SV.isJunk])
      rw [this]; rfl
    · cases h
  | cell x t =>
    simp only [oneRes] at h
    split at h
    · rename_i b o d n hs hd' hn
      have hr := lk_R S hd.fr x
      rw [List.getD_eq_getElem?_getD, Array.getElem?_toList, hs] at hr
      have hv := R_one S ρ hr
      have main : ∀ sv, loadAt st.hp st.asm (tyAgg d) (bif tyAgg d then n else 1) (.ptr b o) = some ([], sv) → held b st.hp = true → (oneRun a.tmps (.cell x t)).run P w = .ok (sv.den S ρ) w := by
        intro sv hl hh
        have hb := held_sound S ρ w0 hh hd.hp
        have := loadAt_sound S ρ w0 hd.asm hd.hp hd' hn hl (fun e he => nomatch he)
        simp only [SC.den] at this hv
        rw [if_neg (by omega)] at this hv
        simp only [oneRun]
        rw [Array.getD_eq_getD_getElem?, hv]
        exact this
      split at h
      · rename_i c hl
        simp only [Bool.cond_eq_ite] at h
        split at h
        · rename_i hh; cases h; exact main _ hl hh
        · cases h
      · rename_i cs hl
        simp only [Bool.cond_eq_ite] at h
        split at h
        · rename_i hh; cases h; exact main _ hl hh
        · cases h
      · cases h
    · cases h
theorem resOf_sound {st : St} {ρ : Env G} {a : Act} {w : World} (hd : Den S ρ w0 F st a w) {fn : Func} {sv : SV} (h : resOf P fn st = some sv) : ∃ v, (results fn a.tmps).run P w = .ok v w ∧ sv.R S ρ v := by
  unfold resOf at h
  split at h
  · rename_i hr
    cases h
    have : fn.results = #[] := by rw [← Array.toList_inj]; exact hr
    exact ⟨.tuple #[], results_none this _ _ _, .inr rfl⟩
  · rename_i r hr
    have : fn.results = #[r] := by rw [← Array.toList_inj]; exact hr
    split at h
    · rename_i c h1; cases h; exact ⟨_, results_1 this (oneRes_sound S w0 F hd h1), .inr rfl⟩
    · rename_i cs h1; cases h; exact ⟨_, results_1 this (oneRes_sound S w0 F hd h1), .inr rfl⟩
    · cases h
  · rename_i r1 r2 hr
    have : fn.results = #[r1, r2] := by rw [← Array.toList_inj]; exact hr
    obtain ⟨a1, h1, h⟩ := ob_some h
    obtain ⟨a2, h2, h⟩ := ob_some h
    cases h
    exact ⟨_, results_2 this (oneRes_sound S w0 F hd h1) (oneRes_sound S w0 F hd h2), .inr rfl⟩
  · rename_i r1 r2 r3 hr
    have : fn.results = #[r1, r2, r3] := by rw [← Array.toList_inj]; exact hr
    obtain ⟨a1, h1, h⟩ := ob_some h
    obtain ⟨a2, h2, h⟩ := ob_some h
    obtain ⟨a3, h3, h⟩ := ob_some h
    cases h
    exact ⟨_, results_3 this (oneRes_sound S w0 F hd h1) (oneRes_sound S w0 F hd h2) (oneRes_sound S w0 F hd h3), .inr rfl⟩
  · rename_i r1 r2 r3 r4 hr
    have : fn.results = #[r1, r2, r3, r4] := by rw [← Array.toList_inj]; exact hr
    obtain ⟨a1, h1, h⟩ := ob_some h
    obtain ⟨a2, h2, h⟩ := ob_some h
    obtain ⟨a3, h3, h⟩ := ob_some h
    obtain ⟨a4, h4, h⟩ := ob_some h
    cases h
    exact ⟨_, results_4 this (oneRes_sound S w0 F hd h1) (oneRes_sound S w0 F hd h2) (oneRes_sound S w0 F hd h3) (oneRes_sound S w0 F hd h4), .inr rfl⟩
  · cases h

theorem FrR_args {ρ : Env G} : ∀ {l : List SV} {xs : List Value} (n : Nat), argsR S ρ l xs → FrR S ρ (l ++ List.replicate n .junk) (xs ++ List.replicate n undef)
  | [], [], n, _ => by
    simp only [List.nil_append]
    induction n with
    | zero => trivial
    | succ n ih => exact ⟨.inl rfl, ih⟩
  | s :: l, v :: xs, n, h => ⟨h.1, FrR_args n h.2⟩
  | [], _ :: _, _, h => h.elim
  | _ :: _, [], _, h => h.elim
theorem argsR_len {ρ : Env G} : ∀ {l : List SV} {xs : List Value}, argsR S ρ l xs → l.length = xs.length
  | [], [], _ => rfl
  | s :: l, v :: xs, h => by simp [argsR_len h.2]
  | [], _ :: _, h => h.elim
  | _ :: _, [], h => h.elim
theorem FrR_ok {ρ ρ' : Env G} {st : St} (hok : st.ok = true) (hE : Ext st.n ρ ρ') {l : List Value} (h : FrR S ρ st.fr l) : FrR S ρ' st.fr l := by
  unfold St.ok at hok
  simp only [Bool.cond_eq_ite] at hok
  split at hok
  · rename_i hf; exact FrR_ext S hE hf h
  · cases hok

/-- Any run of a body is the model's. -/
theorem runBody_sound (hC : CxOk S P C) : ∀ (fuel : Nat), BodyOk S w0 F P (runBody P C fuel)
  | 0, f, args, st, K, ρ, w, xs, R, hst, hok, hx, h, hK => by simp only [runBody] at h; exact h.elim
  | fuel + 1, f, args, st, K, ρ, w, xs, R, hst, hok, hx, h, hK => by
    simp only [runBody] at h
    split at h
    · exact h.elim
    · rename_i fn hfn
      split at h
      · exact h.elim
      · rename_i c hc
        refine calls_of_wp hfn hc ?_
        have hd : Den S ρ w0 F { st with fr := args ++ List.replicate (fn.ntmps - args.length) .junk } { tmps := xs.toArray ++ Array.replicate (fn.ntmps - xs.toArray.size) undef, defers := [] } w := by
          refine ⟨?_, rfl, hst.hp, hst.asm⟩
          have := FrR_args S (fn.ntmps - args.length) hx
          simpa [argsR_len S hx] using this
        let Q : Exit → Act → World → Prop := fun e a w' => match e with | .panic _ => False | e => bodyPost P fn R e a w'
        have fin : ∀ ρ' st' a' w', After S w0 F { st with fr := args ++ List.replicate (fn.ntmps - args.length) .junk } ρ ρ' st' a' w' →
            (match resOf P fn st' with | some v => K v { st' with fr := st.fr } | none => VC.ff 54).den S ρ' → a'.defers = [] ∧ ∃ v, (results fn a'.tmps).run P w' = .ok v w' ∧ R (.returned v) w' := by
          intro ρ' st' a' w' haf hk
          split at hk
          · rename_i sv hsv
            obtain ⟨v, hr, hv⟩ := resOf_sound S w0 F haf.2.2 hsv
            refine ⟨haf.2.2.df, v, hr, hK ρ' sv { st' with fr := st.fr } w' v ⟨haf.1, haf.2.1, rfl, fun l hl => FrR_ok S hok haf.1 hl, ⟨haf.2.2.hp, haf.2.2.asm⟩⟩ hv hk⟩
          · exact hk.elim
        refine wp_mono (Q := Q) (sx_sound S w0 F (runBody_sound hC fuel) hC f 100000 c _ ρ _ w _ Q hd h ⟨?_, ?_, ?_, ?_⟩).2 ?_
        · intro ρ' st' a' w' haf hk; exact fin ρ' st' a' w' haf hk
        · intro ρ' st' a' w' haf hk; exact fin ρ' st' a' w' haf hk
        · intro i ρ' st' a' w' haf hk; exact hk.elim
        · intro c a w h; exact h
        · intro e a w h; cases e <;> first | exact h | exact h.elim

/-! ### A function keeps its contract -/
theorem VC.den_wc (ch : Nat → Bool) : ∀ (v : VC) (ρ : Env G), v.den (S.wc ch) ρ ↔ v.den S ρ
  | .tt, _ => Iff.rfl
  | .ff _, _ => Iff.rfl
  | .and a b, ρ => and_congr (VC.den_wc ch a ρ) (VC.den_wc ch b ρ)
  | .imp e a, ρ => by simp only [VC.den, SX.den_wc]; exact imp_congr Iff.rfl (VC.den_wc ch a ρ)
  | .need e a, ρ => by simp only [VC.den, SX.den_wc]; exact and_congr Iff.rfl (VC.den_wc ch a ρ)
  | .all n .int a, ρ => forall_congr' fun _ => VC.den_wc ch a _
  | .all n .bool a, ρ => forall_congr' fun _ => VC.den_wc ch a _
  | .all n .ints a, ρ => forall_congr' fun _ => VC.den_wc ch a _
  | .all n .bytes a, ρ => forall_congr' fun _ => VC.den_wc ch a _
  | .all n .rows a, ρ => forall_congr' fun _ => VC.den_wc ch a _
  | .all n .amap a, ρ => forall_congr' fun _ => VC.den_wc ch a _
  | .all n .g a, ρ => forall_congr' fun _ => VC.den_wc ch a _
theorem argsR_wc (ch : Nat → Bool) {ρ : Env G} : ∀ {l : List SV} {xs : List Value}, argsR (S.wc ch) ρ l xs ↔ argsR S ρ l xs
  | [], [] => Iff.rfl
  | s :: l, v :: xs => and_congr (SV.R_wc S ρ ch s v) (argsR_wc ch)
  | [], _ :: _ => Iff.rfl
  | _ :: _, [] => Iff.rfl
theorem CtrOk.wc (ch : Nat → Bool) {f : Nat} {sp : Ctr} (h : CtrOk S P f sp) : CtrOk (S.wc ch) P f sp := by
  intro ch' w0 F ρ w xs hx hr hs
  refine (h ch' w0 F ρ w xs ((argsR_wc S ch).1 hx) (fun e he => by have := hr e he; rwa [SX.den_wc] at this) hs).mono ?_
  rintro e w' ⟨ρ', v, hE, he, hv, hs', hf⟩
  exact ⟨ρ', v, hE, he, (SV.R_wc S ρ' ch _ _).2 hv, hs', fun x hx => by rw [SX.den_wc]; exact hf x hx⟩
theorem GhOk.wc (ch : Nat → Bool) {sp : Ctr} (h : GhOk S sp) : GhOk (S.wc ch) sp := by
  intro ch' w0 F ρ w hr hs
  obtain ⟨ρ', hE, hs', hf⟩ := h ch' w0 F ρ w (fun e he => by have := hr e he; rwa [SX.den_wc] at this) hs
  exact ⟨ρ', hE, hs', fun x hx => by rw [SX.den_wc]; exact hf x hx⟩
theorem ExtOk.wc (ch : Nat → Bool) {f : Nat} {sp : Ctr} (h : ExtOk S P f sp) : ExtOk (S.wc ch) P f sp := by
  intro ch' w0 F ρ w xs hx hr hs
  obtain ⟨v, w', hrun, ρ', hE, hv, hs', hf⟩ := h ch' w0 F ρ w xs ((argsR_wc S ch).1 hx) (fun e he => by have := hr e he; rwa [SX.den_wc] at this) hs
  exact ⟨v, w', hrun, ρ', hE, (SV.R_wc S ρ' ch _ _).2 hv, hs', fun x hx => by rw [SX.den_wc]; exact hf x hx⟩
theorem CxOk.wc (ch : Nat → Bool) (h : CxOk S P C) : CxOk (S.wc ch) P C :=
  ⟨fun f sps hf sp hm => ⟨(h.1 f sps hf sp hm).1, (h.1 f sps hf sp hm).2.wc S ch⟩, fun f l hf i sp args hm => ⟨(h.2.1 f l hf i sp args hm).1, (h.2.1 f l hf i sp args hm).2.wc S ch⟩,
    fun f sps hf sp hm => ⟨(h.2.2 f sps hf sp hm).1, (h.2.2 f sps hf sp hm).2.wc S ch⟩⟩

theorem ctr_wf {sp : Ctr} (hwf : sp.wf = true) : sp.args.all (SV.wf 0 sp.ss) = true ∧ sp.pre.all (Ch.wf 0 sp.ss) = true ∧ sp.reqs.all (SX.wf 0 sp.ss) = true ∧ sp.res.wf 0 (sp.ss ++ sp.ps) = true ∧
      sp.post.all (Ch.wf 0 (sp.ss ++ sp.ps)) = true ∧ sp.facts.all (SX.wf 0 (sp.ss ++ sp.ps)) = true := by
  unfold Ctr.wf at hwf
  simp only [Bool.cond_eq_ite] at hwf
  split at hwf
  · rename_i a1
    split at hwf
    · rename_i a2
      split at hwf
      · rename_i a3
        split at hwf
        · rename_i a4
          split at hwf
          · rename_i a5; exact ⟨a1, a2, a3, a4, a5, hwf⟩
          · cases hwf
        · cases hwf
      · cases hwf
    · cases hwf
  · cases hwf

theorem preX_get : ∀ {ss : List Srt} {th : List SX} {k i : Nat} {s : Srt}, preX (ats k ss) th = true → ss[i]? = some s → getTh th i = .at s (k + i)
  | [], th, k, i, s, h, hs => by simp at hs
  | t :: ss, [], k, i, s, h, hs => by cases h
  | t :: ss, e :: th, k, i, s, h, hs => by
    simp only [ats, preX, Bool.cond_eq_ite] at h
    split at h
    · rename_i hq
      cases i with
      | zero => simp at hs; subst hs; simp only [getTh]; rw [← SX.bq_eq hq]; rfl
      | succ i =>
        simp only [getTh]
        rw [preX_get h (by simpa using hs), show k + 1 + i = k + (i + 1) by omega]
    · cases h

/-- **What the symbolic run asks for is enough.** -/
theorem vcOf_sound (hC : CxOk S P C) {fuel f : Nat} {sp : Ctr} (h : ∀ ρ : Env G, (vcOf P C fuel f sp).den S ρ) : CtrOk S P f sp := by
  intro ch w0 F ρ w xs hx hreq hs
  have h := h ρ
  rw [← VC.den_wc S ch] at h
  unfold vcOf at h
  cases hwf : sp.wf
  · rw [hwf] at h; exact h.elim
  cases hok : St.ok { fr := [], hp := sp.pre, n := sp.ss.length, asm := sp.reqs }
  · rw [hwf, hok] at h; exact h.elim
  rw [hwf, hok] at h
  simp only [cond_true] at h
  have h := imps_den (S.wc ch) ρ h (fun e he => by rw [SX.den_wc]; exact hreq e he)
  obtain ⟨w1, w2, w3, w4, w5, w6⟩ := ctr_wf hwf
  refine runBody_sound (S.wc ch) w0 F (hC.wc S ch) fuel f sp.args _ _ ρ w xs _ ⟨hs, fun e he => by rw [SX.den_wc]; exact hreq e he⟩ hok ((argsR_wc S ch).2 hx) h ?_
  intro ρ' sv st' w' v hn hsv hk
  split at hk
  · exact hk.elim
  · rename_i th hth
    cases h1 : thOk th (sp.ss ++ sp.ps)
    · rw [h1] at hk; exact hk.elim
    cases h2 : preX (ats 0 sp.ss) th
    · rw [h1, h2] at hk; exact hk.elim
    rw [h1, h2] at hk
    simp only [cond_true] at hk
    split at hk
    · exact hk.elim
    · rename_i ns1 he
      split at hk
      · exact hk.elim
      · rename_i ns2 rest ks htk
        cases h3 : ks.all backOk
        · rw [h3] at hk; exact hk.elim
        rw [h3] at hk
        simp only [cond_true] at hk
        obtain ⟨hn3, _⟩ := needs_den (S.wc ch) ρ' hk
        obtain ⟨hf, hn2⟩ := foldr_need (S.wc ch) ρ' hn.hs.asm hn3
        have hch : ∀ i K, (i, K) ∈ ks → ch i = chOf (S.wc ch) K := fun i K hm => by
          have := List.all_eq_true.1 h3 _ hm
          cases K with
          | rd j => simp only [backOk] at this; rw [Nat.eq_of_beq_eq_true this]; rfl
          | _ => cases this
        obtain ⟨hn1, htake⟩ := takeChs_sound (S.wc ch) ρ' w0 hn.hs.asm ch htk hn2 hch
        obtain ⟨hv, _⟩ := eqV_sound (S.wc ch) ρ' hn.hs.asm he hn1
        let ρc : Env G := fun i => if i < sp.ss.length then ρ i else (getTh th i).den S ρ'
        have hT : ThR S 0 th (sp.ss ++ sp.ps) ρ' ρc := ⟨fun i hi => absurd hi (Nat.not_lt_zero _), fun i s hs => by
          rw [Nat.zero_add]
          by_cases hi : i < sp.ss.length
          · simp only [ρc, if_pos hi]
            rw [List.getElem?_append_left hi] at hs
            rw [preX_get h2 hs, Nat.zero_add]
            simp only [SX.den]
            rw [hn.ext i hi]
          · simp only [ρc, if_neg hi]
            have e1 := thOk_get h1 i s hs
            have e2 := SX.srt_co S ρ' (getTh th i)
            rw [e1] at e2
            exact e2⟩
        have hT' : ThR (S.wc ch) 0 th (sp.ss ++ sp.ps) ρ' ρc := ⟨hT.low, fun i s hs => by rw [SX.den_wc, co_wc]; exact hT.high i s hs⟩
        refine ⟨ρc, v, fun i hi => by simp only [ρc, if_pos hi], rfl, ?_, ?_, ?_⟩
        · have := (SV.sub_R (S.wc ch) ρ' hT' w4).1 (hv v hsv)
          exact (SV.R_wc S ρc ch _ _).1 this
        · have := hn.hs.hp.mono (htake _)
          rw [hp_sub_den (S.wc ch) ρ' w0 hT' ch w5] at this
          rw [star_left_comm] at this
          exact this.drop
        · have := (mem_sub (S.wc ch) ρ' hT' w6).1 hf
          intro x hx
          have := this x hx
          rwa [SX.den_wc] at this
end
end
end Go.Eng

/- The model's own entry for slices.overlaps keeps a contract: two arrays do not overlap. -/
set_option linter.unusedSimpArgs false
set_option linter.unusedVariables false
namespace Go.Eng
noncomputable section
open Go.RowKit (Below)
def En.srt : En → Srt | .ints _ => .ints | .bytes => .bytes | .rows _ => .rows
def ovCtr (e : En) : Ctr :=
  let i (n : Nat) : SX := .at .int n
  { ss := [.int, .int, .int, .int, .int, e.srt, .int, .int, .int, .int, .int, .int, e.srt, .int]
    args := [.one (.slice (i 0) (.int 0) (i 1) (i 2) (i 3) (i 4) e.stride), .one (.slice (i 7) (.int 0) (i 8) (i 9) (i 10) (i 11) e.stride)]
    pre := [.arr e (i 0) (.at e.srt 5) (i 6), .arr e (i 7) (.at e.srt 12) (i 13)]
    reqs := [eLe (i 3) (i 6), eLe (i 10) (i 13)]
    ps := []
    res := .one (.bool (.bool false))
    post := [.arr e (i 0) (.at e.srt 5) (i 6), .arr e (i 7) (.at e.srt 12) (i 13)]
    facts := [] }
theorem rows_apart {w0 w : World} {b c : Nat} {u v : List Value} {y z : Bool} {H : HProp} (h : Sat w0 (star (row b 0 u y) (star (row c 0 v z) H)) w) (hu : u ≠ []) (hv : v ≠ []) : b ≠ c := by
  obtain ⟨x, ⟨a, r, d, rfl, rfl, a2, r2, d2, rfl, rfl, h3⟩, hi⟩ := h
  intro e
  subst e
  have e1 : rowH b 0 u y b 0 ≠ none := by
    cases u with
    | nil => exact absurd rfl hu
    | cons q l => simp [rowH]
  have e2 : rowH b 0 v z b 0 ≠ none := by
    cases v with
    | nil => exact absurd rfl hv
    | cons q l => simp [rowH]
  rcases d b 0 with e | e
  · exact e1 e
  · unfold Hl.un at e
    cases hq : rowH b 0 v z b 0 with
    | none => exact e2 hq
    | some q => rw [hq] at e; cases e
section
variable {G : Type} (S : Sig G) {P : Program}
theorem ext_overlaps {f : FuncId} {fn : Func} {e : En} {tS tR et : TypeId} (hf : P.funcs[f]? = some fn) (hname : (fn.name == "runtime.NumGoroutine") = false) (hb : fn.body.isNone = true)
    (hn : Extern.findNext fn = none) (he : Extern.find fn = some (Extern.SlicesOverlaps.overlaps fn.params fn.resultTypes)) (hp : fn.params = #[tS, tS]) (hr : fn.resultTypes = #[tR])
    (ht : P.underlying tS = some (.slice et)) (hs : szOf P et = some e.stride) (h1 : 1 ≤ e.stride) : ExtOk S P f (ovCtr e) := by
  intro ch w0 F ρ w xs hx hq hsat
  obtain ⟨v1, v2, rfl, hv1, hv2⟩ : ∃ v1 v2, xs = [v1, v2] ∧ SV.R S ρ (.one (.slice (.at .int 0) (.int 0) (.at .int 1) (.at .int 2) (.at .int 3) (.at .int 4) e.stride)) v1 ∧
      SV.R S ρ (.one (.slice (.at .int 7) (.int 0) (.at .int 8) (.at .int 9) (.at .int 10) (.at .int 11) e.stride)) v2 := by
    match xs, hx with
    | [v1, v2], hx => exact ⟨v1, v2, rfl, hx.1, hx.2.1⟩
  have hv1 := R_one S ρ hv1
  have hv2 := R_one S ρ hv2
  have q1 := hq _ (by simp [ovCtr]; exact .inl rfl)
  have q2 := hq (eLe (.at .int 10) (.at .int 13)) (by simp [ovCtr])
  refine ⟨.bool false, w, ?_, ρ, Ext.refl _ _, .inr rfl, hsat, by simp [ovCtr]⟩
  rw [run_callFunc_extern hf hname hb hn he]
  have main : (Extern.SlicesOverlaps.overlaps fn.params fn.resultTypes #[v1, v2]).run P w = .ok (.bool false) w := by
    rw [hp, hr]
    have hz : ∀ w, (sizeOf et).run P w = .ok e.stride w := fun w => run_sizeOfE hs w
    subst hv1; subst hv2
    have triv : ∀ (a b : Option Addr) (la lb ca cb : Nat), (la = 0 ∨ lb = 0 ∨ a = none ∨ b = none) → (Extern.SlicesOverlaps.overlaps #[tS, tS] #[tR] #[.slice a la ca, .slice b lb cb]).run P w = .ok (.bool false) w := by
      intro a b la lb ca cb hor
      change Sem.run P (α := Value) (do
        let some t := (#[tS, tS] : Array TypeId)[0]? | stuck "slices.overlaps: no parameter types"
        let .slice elem ← underlying t | stuck "slices.overlaps: slice type expected"
        let size ← sizeOf elem
        match (a : Option Addr), (b : Option Addr) with
        | some a, some b =>
          if la = 0 ∨ lb = 0 ∨ size = 0 then pure (Value.bool false)
          else if a.block != b.block && (← frozen a) && (← frozen b) then unsupported .addressObserved
          else do
            if a.block != b.block then do
              noView a; noView b
              if ← mayBeOne a b then return Value.bool ((← choose (.extern "sameAddr.stringBytes" 2)) == 1)
            pure (Value.bool (a.block == b.block && a.off < b.off + lb * size && b.off < a.off + la * size))
        | _, _ => pure (Value.bool false)) w = _
      cases a <;> cases b <;> simp [run_underlying ht, hz]
      rcases hor with h | h | h | h
      · simp [h]
      · simp [h]
      · cases h
      · cases h
    simp only [SC.den]
    rw [eLe_den] at q1 q2
    generalize hb1 : ((SX.at .int 0).den S ρ).toInt = b1 at *
    generalize hb2 : ((SX.at .int 7).den S ρ).toInt = b2 at *
    by_cases n1 : b1 < 0
    · exact triv _ _ _ _ _ _ (.inr (.inr (.inl (by simp [n1]))))
    by_cases n2 : b2 < 0
    · exact triv _ _ _ _ _ _ (.inr (.inr (.inr (by simp [n2]))))
    by_cases n3 : ((SX.at .int 3).den S ρ).toInt.toNat = 0
    · exact triv _ _ _ _ _ _ (.inl n3)
    by_cases n4 : ((SX.at .int 10).den S ρ).toInt.toNat = 0
    · exact triv _ _ _ _ _ _ (.inr (.inl n4))
    rw [if_neg n1, if_neg n2]
    simp only [ovCtr, hpDen_cons, star_assoc, Ch.den] at hsat
    rw [SX.den_wc, SX.den_wc, SX.den_wc, SX.den_wc, SX.den_wc, SX.den_wc] at hsat
    obtain ⟨spare1, hsat⟩ := sat_ex hsat
    obtain ⟨g1, hsat⟩ := sat_and hsat
    obtain ⟨g2, hsat⟩ := sat_and hsat
    obtain ⟨g3, hsat⟩ := sat_and hsat
    rw [← star_assoc, star_comm (row _ _ _ _), star_assoc] at hsat
    obtain ⟨spare2, hsat⟩ := sat_ex hsat
    obtain ⟨k1, hsat⟩ := sat_and hsat
    obtain ⟨k2, hsat⟩ := sat_and hsat
    obtain ⟨k3, hsat⟩ := sat_and hsat
    rw [hb1] at g3 hsat
    rw [hb2] at k3 hsat
    generalize hA : e.vals ((SX.at e.srt 5).den S ρ) ++ spare1 = A at *
    generalize hB : e.vals ((SX.at e.srt 12).den S ρ) ++ spare2 = B at *
    have lA : A.length = ((SX.at .int 6).den S ρ).toInt.toNat * e.stride := by rw [← hA, List.length_append]; exact g1
    have lB : B.length = ((SX.at .int 13).den S ρ).toInt.toNat * e.stride := by rw [← hB, List.length_append]; exact k1
    have pA : 0 < A.length := by rw [lA]; exact Nat.mul_pos (by omega) h1
    have pB : 0 < B.length := by rw [lB]; exact Nat.mul_pos (by omega) h1
    have nA : A ≠ [] := List.length_pos_iff.1 pA
    have nB : B ≠ [] := List.length_pos_iff.1 pB
    have hne := rows_apart hsat nB nA
    obtain ⟨cB, eB, hB'⟩ := Sat.load_strict hsat nB
    obtain ⟨cellB, _⟩ := hsat.load (i := 0) pB
    rw [star_left_comm] at hsat
    obtain ⟨cA, eA, hA'⟩ := Sat.load_strict hsat nA
    refine Lib.run_overlaps_apart w tS tR et ht e.stride hz ⟨b1.toNat, _, none⟩ ⟨b2.toNat, _, none⟩ _ _ _ _ (fun h => hne h.symm) eA eB cA.size cB.size ?_ ?_ ?_ ?_ ?_
    · simp [World.shape?, hA']
    · simp [World.shape?, hB']
    · intro h0
      simp only [World.cell?, hB'] at cellB
      have : cB = #[] := Array.eq_empty_of_size_eq_zero h0
      rw [this] at cellB
      simp at cellB
    · simp [World.frozen?, hA']
    · simp [World.frozen?, hA']
  rw [show ([v1, v2] : List Value).toArray = #[v1, v2] from rfl, main]
  rfl
end
end
end Go.Eng

/- A small judge of formulas: it knows lower bounds. -/
set_option linter.unusedSimpArgs false
set_option linter.unusedVariables false
namespace Go.Eng
noncomputable section
abbrev LB := List (Nat × Int)
def LB.get : LB → Nat → Option Int
  | [], _ => none
  | (j, l) :: r, i => bif Nat.beq j i then some l else LB.get r i
mutual
def lbOf (lo hi : LB) : SX → Option Int
  | .int n => some n
  | .at s i => (match s with | .int => LB.get lo i | _ => none)
  | .f1 f _ => (match f with | 30 | 31 | 32 | 33 => some 0 | _ => none)
  | .f2 f a b => (match f with
    | 40 => (match lbOf lo hi a, lbOf lo hi b with | some x, some y => some (x + y) | _, _ => none)
    | 41 => (match lbOf lo hi a, ubOf lo hi b with | some x, some y => some (x - y) | _, _ => none)
    | 111 => some 0
    | _ => none)
  | _ => none
def ubOf (lo hi : LB) : SX → Option Int
  | .int n => some n
  | .at s i => (match s with | .int => (match LB.get hi i with | some x => some (-x) | none => none) | _ => none)
  | .f2 f a b => (match f with
    | 40 => (match ubOf lo hi a, ubOf lo hi b with | some x, some y => some (x + y) | _, _ => none)
    | 41 => (match ubOf lo hi a, lbOf lo hi b with | some x, some y => some (x - y) | _, _ => none)
    | 111 => some 255
    | _ => none)
  | _ => none
end
def LB.put (i : Nat) (c : Int) : LB → LB
  | [] => [(i, c)]
  | (j, l) :: r => bif Nat.beq j i then (j, max l c) :: r else bif Nat.blt j i then (i, c) :: (j, l) :: r else (j, l) :: LB.put i c r
def learnLo (lo : LB) (e : SX) : LB :=
  match e with
  | .f2 f (.int c) (.at .int i) => (match f with | 47 => LB.put i c lo | 46 => LB.put i (c + 1) lo | _ => lo)
  | _ => lo
def learnHi (hi : LB) (e : SX) : LB :=
  match e with
  | .f2 f (.at .int i) (.int c) => (match f with | 47 => LB.put i (-c) hi | 46 => LB.put i (-(c - 1)) hi | _ => hi)
  | _ => hi
/-- A measure that falls by a written number. -/
def fallsBy : SX → SX → Bool
  | .f2 f x (.f2 g y (.int (.ofNat (_ + 1)))), .f2 f' x' y' => bif (bif Nat.beq f 41 then (bif Nat.beq g 40 then Nat.beq f' 41 else false) else false) then (bif SX.bq x x' then SX.bq y y' else false) else false
  | _, _ => false
def proves (lo hi : LB) : SX → Bool
  | .bool b => b
  | .f1 f x => (match f with
    | 23 => (match lbOf lo hi x, ubOf lo hi x with | some l, some u => bif decide (-9223372036854775808 ≤ l) then decide (u ≤ 9223372036854775807) else false | _, _ => false)
    | _ => false)
  | .f2 f a b => (match f with
    | 47 => (match ubOf lo hi a, lbOf lo hi b with | some u, some l => decide (u ≤ l) | _, _ => false)
    | 46 => bif fallsBy a b then true else (match ubOf lo hi a, lbOf lo hi b with | some u, some l => decide (u < l) | _, _ => false)
    | _ => false)
  | _ => false
def allB (c : Int) : List UInt8 → Bool
  | [] => true
  | x :: l => bif ibq (.ofNat x.toNat) c then allB c l else false
def absurdE (lo hi : LB) : SX → Bool
  | .bool b => !b
  | .f1 f x => (match f, x with
    | 2, .f2 45 (.f2 111 (.byt l) i) (.int c) => (match lbOf lo hi i, ubOf lo hi i with
      | some (.ofNat a), some (.ofNat b) => bif Nat.blt b l.length then allB c ((l.drop a).take (b + 1 - a)) else false
      | _, _ => false)
    | _, _ => false)
  | .f2 f a b => (match f with
    | 47 => (match lbOf lo hi a, ubOf lo hi b with | some l, some u => decide (u < l) | _, _ => false)
    | 46 => (match lbOf lo hi a, ubOf lo hi b with | some l, some u => decide (u ≤ l) | _, _ => false)
    | _ => false)
  | _ => false
def LB.below (n : Nat) : LB → LB
  | [] => []
  | (j, l) :: r => bif Nat.blt j n then (j, l) :: r else LB.below n r
def VC.chk : LB → LB → VC → Bool
  | _, _, .tt => true
  | _, _, .ff _ => false
  | lo, hi, .and a b => bif VC.chk lo hi a then VC.chk lo hi b else false
  | lo, hi, .imp e a => bif absurdE lo hi e then true else VC.chk (learnLo lo e) (learnHi hi e) a
  | lo, hi, .need e a => bif proves lo hi e then VC.chk (learnLo lo e) (learnHi hi e) a else false
  | lo, hi, .all n _ a => VC.chk (LB.below n lo) (LB.below n hi) a

section
variable {G : Type} (S : Sig G)
def LBOk (v : Nat → Int) (env : LB) : Prop := env.Pairwise (fun a b => b.1 < a.1) ∧ ∀ p ∈ env, p.2 ≤ v p.1
theorem LB.get_ok {v : Nat → Int} : ∀ {env : LB}, (∀ p ∈ env, p.2 ≤ v p.1) → ∀ {i : Nat} {l : Int}, LB.get env i = some l → l ≤ v i
  | [], _, _, _, h => nomatch h
  | (j, l') :: r, ho, i, l, h => by
    simp only [LB.get] at h
    cases hb : Nat.beq j i
    · rw [hb] at h; exact LB.get_ok (fun p hp => ho p (List.mem_cons_of_mem _ hp)) h
    · rw [hb] at h; cases h
      have := ho _ List.mem_cons_self
      rw [Nat.eq_of_beq_eq_true hb] at this; exact this
theorem bnd_ok {ρ : Env G} {lo hi : LB} (ho : ∀ p ∈ lo, p.2 ≤ (ρ p.1).toInt) (hh : ∀ p ∈ hi, p.2 ≤ -(ρ p.1).toInt) : ∀ {e : SX},
    (∀ {l : Int}, lbOf lo hi e = some l → l ≤ (e.den S ρ).toInt) ∧ (∀ {l : Int}, ubOf lo hi e = some l → (e.den S ρ).toInt ≤ l) := by
  intro e
  induction e with
  | int n => exact ⟨fun h => (by simp only [lbOf] at h; cases h; exact Int.le_refl _), fun h => (by simp only [ubOf] at h; cases h; exact Int.le_refl _)⟩
  | «at» s i =>
    refine ⟨fun h => ?_, fun h => ?_⟩
    · simp only [lbOf] at h
      cases s <;> simp only [reduceCtorEq] at h
      exact LB.get_ok (v := fun i => (ρ i).toInt) ho h
    · simp only [ubOf] at h
      cases s <;> simp only [reduceCtorEq] at h
      split at h
      · rename_i x hx
        cases h
        have := LB.get_ok (v := fun i => -(ρ i).toInt) hh hx
        simp only [SX.den, U.co, U.toInt_int]
        omega
      · cases h
  | f1 f a _ =>
    refine ⟨fun h => ?_, fun h => ?_⟩
    · simp only [lbOf] at h
      split at h <;> cases h
      all_goals simp only [SX.den, ap1, U.toInt_int]; omega
    · simp only [ubOf] at h; cases h
  | f2 f a b iha ihb =>
    refine ⟨fun h => ?_, fun h => ?_⟩
    · simp only [lbOf] at h
      split at h
      · split at h
        · rename_i x y hx hy
          cases h
          have := iha.1 hx
          have := ihb.1 hy
          simp only [SX.den, ap2, U.toInt_int]; omega
        · cases h
      · split at h
        · rename_i x y hx hy
          cases h
          have := iha.1 hx
          have := ihb.2 hy
          simp only [SX.den, ap2, U.toInt_int]; omega
        · cases h
      · cases h
        simp only [SX.den, ap2, U.toInt_int]; omega
      · cases h
    · simp only [ubOf] at h
      split at h
      · split at h
        · rename_i x y hx hy
          cases h
          have := iha.2 hx
          have := ihb.2 hy
          simp only [SX.den, ap2, U.toInt_int]; omega
        · cases h
      · split at h
        · rename_i x y hx hy
          cases h
          have := iha.2 hx
          have := ihb.1 hy
          simp only [SX.den, ap2, U.toInt_int]; omega
        · cases h
      · cases h
        simp only [SX.den, ap2, U.toInt_int]
        have := (((a.den S ρ).toBytes.getD (b.den S ρ).toInt.toNat 0)).toNat_lt
        omega
      · cases h
  | _ => exact ⟨fun h => (by simp only [lbOf] at h; cases h), fun h => (by simp only [ubOf] at h; cases h)⟩
theorem LB.put_ok {ρ : Nat → Int} {i : Nat} {c : Int} (hc : c ≤ ρ i) : ∀ {env : LB}, LBOk ρ env → LBOk ρ (LB.put i c env) ∧ ∀ p ∈ LB.put i c env, p.1 = i ∨ ∃ q ∈ env, q.1 = p.1
  | [], _ => ⟨⟨List.pairwise_singleton _ _, fun p hp => by rw [LB.put, List.mem_singleton] at hp; subst hp; exact hc⟩, fun p hp => by rw [LB.put, List.mem_singleton] at hp; subst hp; exact .inl rfl⟩
  | (j, l) :: r, h => by
    obtain ⟨hp, ho⟩ := h
    rw [List.pairwise_cons] at hp
    simp only [LB.put]
    cases h1 : Nat.beq j i
    · cases h2 : Nat.blt j i
      · have ih := LB.put_ok hc (env := r) ⟨hp.2, fun p hq => ho p (List.mem_cons_of_mem _ hq)⟩
        have hij : i < j := by
          have e1 : ¬ j < i := fun hh => by rw [← Nat.blt_eq] at hh; rw [h2] at hh; cases hh
          have e2 : j ≠ i := fun hh => by rw [hh, Nat.beq_refl] at h1; cases h1
          omega
        simp only [cond_false]
        refine ⟨⟨List.pairwise_cons.2 ⟨fun p hq => ?_, ih.1.1⟩, fun p hq => ?_⟩, fun p hq => ?_⟩
        · rcases ih.2 p hq with e | ⟨q, hq', e⟩
          · rw [e]; exact hij
          · rw [← e]; exact hp.1 q hq'
        · rcases List.mem_cons.1 hq with rfl | hq
          · exact ho _ List.mem_cons_self
          · exact ih.1.2 p hq
        · rcases List.mem_cons.1 hq with rfl | hq
          · exact .inr ⟨_, List.mem_cons_self, rfl⟩
          · rcases ih.2 p hq with e | ⟨q, hq', e⟩
            · exact .inl e
            · exact .inr ⟨q, List.mem_cons_of_mem _ hq', e⟩
      · rw [Nat.blt_eq] at h2
        simp only [cond_true, cond_false]
        refine ⟨⟨List.pairwise_cons.2 ⟨fun p hq => ?_, List.pairwise_cons.2 hp⟩, fun p hq => ?_⟩, fun p hq => ?_⟩
        · rcases List.mem_cons.1 hq with rfl | hq
          · exact h2
          · have := hp.1 p hq; omega
        · rcases List.mem_cons.1 hq with rfl | hq
          · exact hc
          · exact ho p hq
        · rcases List.mem_cons.1 hq with rfl | hq
          · exact .inl rfl
          · exact .inr ⟨p, hq, rfl⟩
    · have e := Nat.eq_of_beq_eq_true h1
      subst e
      simp only [cond_true]
      refine ⟨⟨List.pairwise_cons.2 ⟨fun p hq => hp.1 p hq, hp.2⟩, fun p hq => ?_⟩, fun p hq => ?_⟩
      · rcases List.mem_cons.1 hq with rfl | hq
        · have := ho (j, l) List.mem_cons_self
          simp only at this ⊢; omega
        · exact ho p (List.mem_cons_of_mem _ hq)
      · rcases List.mem_cons.1 hq with rfl | hq
        · exact .inl rfl
        · exact .inr ⟨p, List.mem_cons_of_mem _ hq, rfl⟩
abbrev loV (ρ : Env G) : Nat → Int := fun i => (ρ i).toInt
abbrev hiV (ρ : Env G) : Nat → Int := fun i => -(ρ i).toInt
theorem learnLo_ok {ρ : Env G} {env : LB} (h : LBOk (loV ρ) env) {e : SX} (he : (e.den S ρ).toProp) : LBOk (loV ρ) (learnLo env e) := by
  unfold learnLo
  split
  · rename_i f c i
    split
    · have he : decide (c ≤ (ρ i).toInt) = true := he
      exact (LB.put_ok (of_decide_eq_true he) h).1
    · have he : decide (c < (ρ i).toInt) = true := he
      have := of_decide_eq_true he
      exact (LB.put_ok (by simp only [loV]; omega) h).1
    · exact h
  · exact h
theorem learnHi_ok {ρ : Env G} {env : LB} (h : LBOk (hiV ρ) env) {e : SX} (he : (e.den S ρ).toProp) : LBOk (hiV ρ) (learnHi env e) := by
  unfold learnHi
  split
  · rename_i f i c
    split
    · have he : decide ((ρ i).toInt ≤ c) = true := he
      have := of_decide_eq_true he
      exact (LB.put_ok (by simp only [hiV]; omega) h).1
    · have he : decide ((ρ i).toInt < c) = true := he
      have := of_decide_eq_true he
      exact (LB.put_ok (by simp only [hiV]; omega) h).1
    · exact h
  · exact h
theorem fallsBy_ok {ρ : Env G} {a b : SX} (h : fallsBy a b = true) : (a.den S ρ).toInt < (b.den S ρ).toInt := by
  unfold fallsBy at h
  split at h
  · rename_i f x g y n f' x' y'
    cases h1 : Nat.beq f 41
    · rw [h1] at h; cases h
    cases h2 : Nat.beq g 40
    · rw [h1, h2] at h; cases h
    cases h3 : Nat.beq f' 41
    · rw [h1, h2, h3] at h; cases h
    cases h4 : SX.bq x x'
    · rw [h1, h2, h3, h4] at h; cases h
    rw [h1, h2, h3, h4] at h
    have e1 := Nat.eq_of_beq_eq_true h1
    have e2 := Nat.eq_of_beq_eq_true h2
    have e3 := Nat.eq_of_beq_eq_true h3
    have e4 := SX.bq_eq h4
    have e5 := SX.bq_eq h
    subst e1; subst e2; subst e3; subst e4; subst e5
    simp only [SX.den, ap2, U.toInt_int]
    have e6 : (Int.ofNat n.succ : Int) = (n : Int) + 1 := rfl
    rw [e6]
    omega
  · cases h
theorem proves_ok {ρ : Env G} {lo hi : LB} (ho : LBOk (loV ρ) lo) (hh : LBOk (hiV ρ) hi) {e : SX} (he : proves lo hi e = true) : (e.den S ρ).toProp := by
  have B := @bnd_ok G S ρ lo hi ho.2 hh.2
  unfold proves at he
  split at he
  · simp [SX.den, he]
  · rename_i f x
    split at he
    · split at he
      · rename_i l u hl hu
        have b1 := (B).1 hl
        have b2 := (B).2 hu
        cases h1 : decide (-9223372036854775808 ≤ l)
        · rw [h1] at he; cases he
        rw [h1] at he
        have q1 := of_decide_eq_true h1
        have q2 := of_decide_eq_true he
        show (decide (IntKind.i64.min ≤ (x.den S ρ).toInt) && decide ((x.den S ρ).toInt ≤ IntKind.i64.max)) = true
        rw [Bool.and_eq_true]
        refine ⟨decide_eq_true ?_, decide_eq_true ?_⟩
        · show (-(2 ^ 63) : Int) ≤ _; omega
        · show _ ≤ (2 ^ 63 - 1 : Int); omega
      · cases he
    · cases he
  · rename_i f a b
    split at he
    · split at he
      · rename_i u l hu hl
        have b1 := (B).2 hu
        have b2 := (B).1 hl
        have := of_decide_eq_true he
        show decide ((a.den S ρ).toInt ≤ (b.den S ρ).toInt) = true
        exact decide_eq_true (by omega)
      · cases he
    · cases hf : fallsBy a b
      · rw [hf] at he
        simp only [cond_false] at he
        split at he
        · rename_i u l hu hl
          have b1 := (B).2 hu
          have b2 := (B).1 hl
          have := of_decide_eq_true he
          show decide ((a.den S ρ).toInt < (b.den S ρ).toInt) = true
          exact decide_eq_true (by omega)
        · cases he
      · show decide ((a.den S ρ).toInt < (b.den S ρ).toInt) = true
        exact decide_eq_true (fallsBy_ok S hf)
    · cases he
  · cases he
theorem allB_ok {c : Int} : ∀ {l : List UInt8}, allB c l = true → ∀ x ∈ l, ((x.toNat : Nat) : Int) = c
  | [], _, x, hx => nomatch hx
  | y :: l, h, x, hx => by
    simp only [allB] at h
    cases h1 : ibq (.ofNat y.toNat) c
    · rw [h1] at h; cases h
    · rw [h1] at h
      rcases List.mem_cons.1 hx with rfl | hx
      · exact ibq_eq h1
      · exact allB_ok h x hx
theorem absurdE_ok {ρ : Env G} {lo hi : LB} (ho : LBOk (loV ρ) lo) (hh : LBOk (hiV ρ) hi) {e : SX} (he : absurdE lo hi e = true) : ¬ (e.den S ρ).toProp := by
  have B := @bnd_ok G S ρ lo hi ho.2 hh.2
  unfold absurdE at he
  split at he
  · rename_i b; cases b <;> simp [SX.den] at he ⊢
  · rename_i f x
    split at he
    · rename_i l i c
      split at he
      · rename_i a b hl hu
        have b1 := (B).1 hl
        have b2 := (B).2 hu
        cases h1 : Nat.blt b l.length
        · rw [h1] at he; cases he
        rw [h1] at he
        simp only [cond_true] at he
        rw [Nat.blt_eq] at h1
        have c1 : (Int.ofNat a : Int) = (a : Int) := rfl
        have c2 : (Int.ofNat b : Int) = (b : Int) := rfl
        have hlt : (i.den S ρ).toInt.toNat < l.length := by omega
        have hval : ((((l.getD (i.den S ρ).toInt.toNat 0).toNat : Nat) : Int)) = c := by
          apply allB_ok he
          rw [List.getD_eq_getElem?_getD, List.getElem?_eq_getElem hlt]
          apply List.mem_iff_getElem?.2
          refine ⟨(i.den S ρ).toInt.toNat - a, ?_⟩
          rw [List.getElem?_take_of_lt (by omega), List.getElem?_drop, show a + ((i.den S ρ).toInt.toNat - a) = (i.den S ρ).toInt.toNat by omega, List.getElem?_eq_getElem hlt]
          rfl
        intro hq
        have hq : (!((((l.getD (i.den S ρ).toInt.toNat 0).toNat : Nat) : Int) == c)) = true := hq
        rw [hval] at hq
        simp at hq
      · cases he
    · cases he
  · rename_i f a b
    split at he
    · split at he
      · rename_i l u hl hu
        have b1 := (B).1 hl
        have b2 := (B).2 hu
        have := of_decide_eq_true he
        intro hq
        have hq : decide ((a.den S ρ).toInt ≤ (b.den S ρ).toInt) = true := hq
        have := of_decide_eq_true hq
        omega
      · cases he
    · split at he
      · rename_i l u hl hu
        have b1 := (B).1 hl
        have b2 := (B).2 hu
        have := of_decide_eq_true he
        intro hq
        have hq : decide ((a.den S ρ).toInt < (b.den S ρ).toInt) = true := hq
        have := of_decide_eq_true hq
        omega
      · cases he
    · cases he
  · cases he
theorem below_ok {v v' : Nat → Int} {n : Nat} (hv : ∀ i, i < n → v' i = v i) : ∀ {env : LB}, LBOk v env → LBOk v' (LB.below n env)
  | [], _ => ⟨List.Pairwise.nil, fun _ h => nomatch h⟩
  | (j, l) :: r, h => by
    simp only [LB.below]
    obtain ⟨hp, ho⟩ := h
    have hp' := List.pairwise_cons.1 hp
    cases h1 : Nat.blt j n
    · exact below_ok hv ⟨hp'.2, fun p hq => ho p (List.mem_cons_of_mem _ hq)⟩
    · rw [Nat.blt_eq] at h1
      refine ⟨hp, fun p hq => ?_⟩
      have hlt : p.1 < n := by
        rcases List.mem_cons.1 hq with rfl | hq
        · exact h1
        · have := hp'.1 p hq; simp only at this; omega
      rw [hv _ hlt]; exact ho p hq
theorem upd_low (ρ : Env G) (n : Nat) (u : U G) (i : Nat) (h : i < n) : ρ.upd n u i = ρ i := by unfold Env.upd; rw [if_neg (by omega)]
theorem VC.chk_ok : ∀ (v : VC) (lo hi : LB) (ρ : Env G), LBOk (loV ρ) lo → LBOk (hiV ρ) hi → VC.chk lo hi v = true → v.den S ρ := by
  intro v
  induction v with
  | tt => intro _ _ _ _ _ _; trivial
  | ff n => intro _ _ _ _ _ h; cases h
  | and a b iha ihb =>
    intro lo hi ρ ho hh h
    simp only [VC.chk] at h
    cases h1 : VC.chk lo hi a
    · rw [h1] at h; cases h
    · rw [h1] at h; exact ⟨iha lo hi ρ ho hh h1, ihb lo hi ρ ho hh h⟩
  | imp e a ih =>
    intro lo hi ρ ho hh h he
    simp only [VC.chk] at h
    cases h1 : absurdE lo hi e
    · rw [h1] at h; exact ih _ _ ρ (learnLo_ok S ho he) (learnHi_ok S hh he) h
    · exact absurd he (absurdE_ok S ho hh h1)
  | need e a ih =>
    intro lo hi ρ ho hh h
    simp only [VC.chk] at h
    cases h1 : proves lo hi e
    · rw [h1] at h; cases h
    · rw [h1] at h
      have he := proves_ok S ho hh h1
      exact ⟨he, ih _ _ ρ (learnLo_ok S ho he) (learnHi_ok S hh he) h⟩
  | all n s a ih =>
    intro lo hi ρ ho hh h
    have key : ∀ u : U G, a.den S (ρ.upd n u) := fun u => ih _ _ _ (below_ok (fun i hi => by simp only [loV, upd_low ρ n u i hi]) ho) (below_ok (fun i hi => by simp only [hiV, upd_low ρ n u i hi]) hh) h
    cases s <;> exact fun x => key _
theorem vc_chk {v : VC} (h : VC.chk [] [] v = true) (ρ : Env G) : v.den S ρ := VC.chk_ok S v [] [] ρ ⟨List.Pairwise.nil, fun _ h => nomatch h⟩ ⟨List.Pairwise.nil, fun _ h => nomatch h⟩ h
end
end
end Go.Eng

/- What each of the library's functions means, one equation each. -/
set_option linter.unusedSimpArgs false
set_option linter.unusedVariables false
namespace Go.Eng
noncomputable section
section
variable {G : Type}
theorem ap1_1 (a : U G) : ap1 1 a = .int (-a.toInt) := rfl
theorem ap1_2 (a : U G) : ap1 2 a = .bool (!a.toBool) := rfl
theorem ap1_3 (a : U G) : ap1 3 a = .int (if a.toBool then 1 else 0) := rfl
theorem ap1_4 (a : U G) : ap1 4 a = .int a.toInt := rfl
theorem ap1_10 (a : U G) : ap1 10 a = .int (IntKind.wrap .i8 a.toInt) := rfl
theorem ap1_11 (a : U G) : ap1 11 a = .int (IntKind.wrap .i16 a.toInt) := rfl
theorem ap1_12 (a : U G) : ap1 12 a = .int (IntKind.wrap .i32 a.toInt) := rfl
theorem ap1_13 (a : U G) : ap1 13 a = .int (IntKind.wrap .i64 a.toInt) := rfl
theorem ap1_14 (a : U G) : ap1 14 a = .int (IntKind.wrap .u8 a.toInt) := rfl
theorem ap1_15 (a : U G) : ap1 15 a = .int (IntKind.wrap .u16 a.toInt) := rfl
theorem ap1_16 (a : U G) : ap1 16 a = .int (IntKind.wrap .u32 a.toInt) := rfl
theorem ap1_17 (a : U G) : ap1 17 a = .int (IntKind.wrap .u64 a.toInt) := rfl
theorem ap1_20 (a : U G) : ap1 20 a = .bool (decide (IntKind.min .i8 ≤ a.toInt) && decide (a.toInt ≤ IntKind.max .i8)) := rfl
theorem ap1_21 (a : U G) : ap1 21 a = .bool (decide (IntKind.min .i16 ≤ a.toInt) && decide (a.toInt ≤ IntKind.max .i16)) := rfl
theorem ap1_22 (a : U G) : ap1 22 a = .bool (decide (IntKind.min .i32 ≤ a.toInt) && decide (a.toInt ≤ IntKind.max .i32)) := rfl
theorem ap1_23 (a : U G) : ap1 23 a = .bool (decide (IntKind.min .i64 ≤ a.toInt) && decide (a.toInt ≤ IntKind.max .i64)) := rfl
theorem ap1_24 (a : U G) : ap1 24 a = .bool (decide (IntKind.min .u8 ≤ a.toInt) && decide (a.toInt ≤ IntKind.max .u8)) := rfl
theorem ap1_25 (a : U G) : ap1 25 a = .bool (decide (IntKind.min .u16 ≤ a.toInt) && decide (a.toInt ≤ IntKind.max .u16)) := rfl
theorem ap1_26 (a : U G) : ap1 26 a = .bool (decide (IntKind.min .u32 ≤ a.toInt) && decide (a.toInt ≤ IntKind.max .u32)) := rfl
theorem ap1_27 (a : U G) : ap1 27 a = .bool (decide (IntKind.min .u64 ≤ a.toInt) && decide (a.toInt ≤ IntKind.max .u64)) := rfl
theorem ap1_30 (a : U G) : ap1 30 a = .int a.toInts.length := rfl
theorem ap1_31 (a : U G) : ap1 31 a = .int a.toBytes.length := rfl
theorem ap1_32 (a : U G) : ap1 32 a = .int a.toRows.length := rfl
theorem ap1_33 (a : U G) : ap1 33 a = .int a.toMap.length := rfl
theorem ap1_152 (a : U G) : ap1 152 a = .ints [] := rfl
theorem ap1_153 (a : U G) : ap1 153 a = .bytes [] := rfl
theorem ap1_154 (a : U G) : ap1 154 a = .rows [] := rfl
theorem ap1_155 (a : U G) : ap1 155 a = .amap [] := rfl
theorem ap1_160 (a : U G) : ap1 160 a = .int (crcRun 4294967295 a.toBytes : Nat) := rfl
theorem ap2_40 (a b : U G) : ap2 40 a b = .int (a.toInt + b.toInt) := rfl
theorem ap2_41 (a b : U G) : ap2 41 a b = .int (a.toInt - b.toInt) := rfl
theorem ap2_42 (a b : U G) : ap2 42 a b = .int (a.toInt * b.toInt) := rfl
theorem ap2_43 (a b : U G) : ap2 43 a b = .int (a.toInt.tdiv b.toInt) := rfl
theorem ap2_44 (a b : U G) : ap2 44 a b = .int (a.toInt.tmod b.toInt) := rfl
theorem ap2_45 (a b : U G) : ap2 45 a b = .bool (a.toInt == b.toInt) := rfl
theorem ap2_46 (a b : U G) : ap2 46 a b = .bool (decide (a.toInt < b.toInt)) := rfl
theorem ap2_47 (a b : U G) : ap2 47 a b = .bool (decide (a.toInt ≤ b.toInt)) := rfl
theorem ap2_48 (a b : U G) : ap2 48 a b = .bool (a.toBool == b.toBool) := rfl
theorem ap2_49 (a b : U G) : ap2 49 a b = .bool (a.toBool && b.toBool) := rfl
theorem ap2_50 (a b : U G) : ap2 50 a b = .bool (a.toBool || b.toBool) := rfl
theorem ap2_51 (a b : U G) : ap2 51 a b = .int (if b.toInt < a.toInt then b.toInt else a.toInt) := rfl
theorem ap2_52 (a b : U G) : ap2 52 a b = .int (if b.toInt > a.toInt then b.toInt else a.toInt) := rfl
theorem ap2_60 (a b : U G) : ap2 60 a b = .int (bitsV .and .i8 a.toInt b.toInt) := rfl
theorem ap2_61 (a b : U G) : ap2 61 a b = .int (bitsV .and .i16 a.toInt b.toInt) := rfl
theorem ap2_62 (a b : U G) : ap2 62 a b = .int (bitsV .and .i32 a.toInt b.toInt) := rfl
theorem ap2_63 (a b : U G) : ap2 63 a b = .int (bitsV .and .i64 a.toInt b.toInt) := rfl
theorem ap2_64 (a b : U G) : ap2 64 a b = .int (bitsV .and .u8 a.toInt b.toInt) := rfl
theorem ap2_65 (a b : U G) : ap2 65 a b = .int (bitsV .and .u16 a.toInt b.toInt) := rfl
theorem ap2_66 (a b : U G) : ap2 66 a b = .int (bitsV .and .u32 a.toInt b.toInt) := rfl
theorem ap2_67 (a b : U G) : ap2 67 a b = .int (bitsV .and .u64 a.toInt b.toInt) := rfl
theorem ap2_68 (a b : U G) : ap2 68 a b = .int (bitsV .or .i8 a.toInt b.toInt) := rfl
theorem ap2_69 (a b : U G) : ap2 69 a b = .int (bitsV .or .i16 a.toInt b.toInt) := rfl
theorem ap2_70 (a b : U G) : ap2 70 a b = .int (bitsV .or .i32 a.toInt b.toInt) := rfl
theorem ap2_71 (a b : U G) : ap2 71 a b = .int (bitsV .or .i64 a.toInt b.toInt) := rfl
theorem ap2_72 (a b : U G) : ap2 72 a b = .int (bitsV .or .u8 a.toInt b.toInt) := rfl
theorem ap2_73 (a b : U G) : ap2 73 a b = .int (bitsV .or .u16 a.toInt b.toInt) := rfl
theorem ap2_74 (a b : U G) : ap2 74 a b = .int (bitsV .or .u32 a.toInt b.toInt) := rfl
theorem ap2_75 (a b : U G) : ap2 75 a b = .int (bitsV .or .u64 a.toInt b.toInt) := rfl
theorem ap2_76 (a b : U G) : ap2 76 a b = .int (bitsV .xor .i8 a.toInt b.toInt) := rfl
theorem ap2_77 (a b : U G) : ap2 77 a b = .int (bitsV .xor .i16 a.toInt b.toInt) := rfl
theorem ap2_78 (a b : U G) : ap2 78 a b = .int (bitsV .xor .i32 a.toInt b.toInt) := rfl
theorem ap2_79 (a b : U G) : ap2 79 a b = .int (bitsV .xor .i64 a.toInt b.toInt) := rfl
theorem ap2_80 (a b : U G) : ap2 80 a b = .int (bitsV .xor .u8 a.toInt b.toInt) := rfl
theorem ap2_81 (a b : U G) : ap2 81 a b = .int (bitsV .xor .u16 a.toInt b.toInt) := rfl
theorem ap2_82 (a b : U G) : ap2 82 a b = .int (bitsV .xor .u32 a.toInt b.toInt) := rfl
theorem ap2_83 (a b : U G) : ap2 83 a b = .int (bitsV .xor .u64 a.toInt b.toInt) := rfl
theorem ap2_84 (a b : U G) : ap2 84 a b = .int (bitsV .andNot .i8 a.toInt b.toInt) := rfl
theorem ap2_85 (a b : U G) : ap2 85 a b = .int (bitsV .andNot .i16 a.toInt b.toInt) := rfl
theorem ap2_86 (a b : U G) : ap2 86 a b = .int (bitsV .andNot .i32 a.toInt b.toInt) := rfl
theorem ap2_87 (a b : U G) : ap2 87 a b = .int (bitsV .andNot .i64 a.toInt b.toInt) := rfl
theorem ap2_88 (a b : U G) : ap2 88 a b = .int (bitsV .andNot .u8 a.toInt b.toInt) := rfl
theorem ap2_89 (a b : U G) : ap2 89 a b = .int (bitsV .andNot .u16 a.toInt b.toInt) := rfl
theorem ap2_90 (a b : U G) : ap2 90 a b = .int (bitsV .andNot .u32 a.toInt b.toInt) := rfl
theorem ap2_91 (a b : U G) : ap2 91 a b = .int (bitsV .andNot .u64 a.toInt b.toInt) := rfl
theorem ap2_92 (a b : U G) : ap2 92 a b = .int (IntKind.wrap .i8 (a.toInt * 2 ^ (min b.toInt.toNat (IntKind.bits .i8)))) := rfl
theorem ap2_93 (a b : U G) : ap2 93 a b = .int (IntKind.wrap .i16 (a.toInt * 2 ^ (min b.toInt.toNat (IntKind.bits .i16)))) := rfl
theorem ap2_94 (a b : U G) : ap2 94 a b = .int (IntKind.wrap .i32 (a.toInt * 2 ^ (min b.toInt.toNat (IntKind.bits .i32)))) := rfl
theorem ap2_95 (a b : U G) : ap2 95 a b = .int (IntKind.wrap .i64 (a.toInt * 2 ^ (min b.toInt.toNat (IntKind.bits .i64)))) := rfl
theorem ap2_96 (a b : U G) : ap2 96 a b = .int (IntKind.wrap .u8 (a.toInt * 2 ^ (min b.toInt.toNat (IntKind.bits .u8)))) := rfl
theorem ap2_97 (a b : U G) : ap2 97 a b = .int (IntKind.wrap .u16 (a.toInt * 2 ^ (min b.toInt.toNat (IntKind.bits .u16)))) := rfl
theorem ap2_98 (a b : U G) : ap2 98 a b = .int (IntKind.wrap .u32 (a.toInt * 2 ^ (min b.toInt.toNat (IntKind.bits .u32)))) := rfl
theorem ap2_99 (a b : U G) : ap2 99 a b = .int (IntKind.wrap .u64 (a.toInt * 2 ^ (min b.toInt.toNat (IntKind.bits .u64)))) := rfl
theorem ap2_100 (a b : U G) : ap2 100 a b = .int (a.toInt.fdiv (2 ^ (min b.toInt.toNat (IntKind.bits .i8)))) := rfl
theorem ap2_101 (a b : U G) : ap2 101 a b = .int (a.toInt.fdiv (2 ^ (min b.toInt.toNat (IntKind.bits .i16)))) := rfl
theorem ap2_102 (a b : U G) : ap2 102 a b = .int (a.toInt.fdiv (2 ^ (min b.toInt.toNat (IntKind.bits .i32)))) := rfl
theorem ap2_103 (a b : U G) : ap2 103 a b = .int (a.toInt.fdiv (2 ^ (min b.toInt.toNat (IntKind.bits .i64)))) := rfl
theorem ap2_104 (a b : U G) : ap2 104 a b = .int (a.toInt.fdiv (2 ^ (min b.toInt.toNat (IntKind.bits .u8)))) := rfl
theorem ap2_105 (a b : U G) : ap2 105 a b = .int (a.toInt.fdiv (2 ^ (min b.toInt.toNat (IntKind.bits .u16)))) := rfl
theorem ap2_106 (a b : U G) : ap2 106 a b = .int (a.toInt.fdiv (2 ^ (min b.toInt.toNat (IntKind.bits .u32)))) := rfl
theorem ap2_107 (a b : U G) : ap2 107 a b = .int (a.toInt.fdiv (2 ^ (min b.toInt.toNat (IntKind.bits .u64)))) := rfl
theorem ap2_110 (a b : U G) : ap2 110 a b = .int (a.toInts.getD b.toInt.toNat 0) := rfl
theorem ap2_111 (a b : U G) : ap2 111 a b = .int ((a.toBytes.getD b.toInt.toNat 0).toNat : Nat) := rfl
theorem ap2_113 (a b : U G) : ap2 113 a b = .ints (a.toInts.take b.toInt.toNat) := rfl
theorem ap2_114 (a b : U G) : ap2 114 a b = .bytes (a.toBytes.take b.toInt.toNat) := rfl
theorem ap2_115 (a b : U G) : ap2 115 a b = .rows (a.toRows.take b.toInt.toNat) := rfl
theorem ap2_116 (a b : U G) : ap2 116 a b = .ints (a.toInts.drop b.toInt.toNat) := rfl
theorem ap2_117 (a b : U G) : ap2 117 a b = .bytes (a.toBytes.drop b.toInt.toNat) := rfl
theorem ap2_118 (a b : U G) : ap2 118 a b = .rows (a.toRows.drop b.toInt.toNat) := rfl
theorem ap2_119 (a b : U G) : ap2 119 a b = .ints (a.toInts ++ b.toInts) := rfl
theorem ap2_120 (a b : U G) : ap2 120 a b = .bytes (a.toBytes ++ b.toBytes) := rfl
theorem ap2_121 (a b : U G) : ap2 121 a b = .rows (a.toRows ++ b.toRows) := rfl
theorem ap2_122 (a b : U G) : ap2 122 a b = .ints (a.toInt :: b.toInts) := rfl
theorem ap2_123 (a b : U G) : ap2 123 a b = .bytes (UInt8.ofNat a.toInt.toNat :: b.toBytes) := rfl
theorem ap2_124 (a b : U G) : ap2 124 a b = .rows (a.toInts :: b.toRows) := rfl
theorem ap2_125 (a b : U G) : ap2 125 a b = .ints (List.replicate a.toInt.toNat b.toInt) := rfl
theorem ap2_126 (a b : U G) : ap2 126 a b = .bytes (List.replicate a.toInt.toNat (UInt8.ofNat b.toInt.toNat)) := rfl
theorem ap2_127 (a b : U G) : ap2 127 a b = .rows (List.replicate a.toInt.toNat b.toInts) := rfl
theorem ap2_141 (a b : U G) : ap2 141 a b = .bool (mhas a.toMap b.toInt) := rfl
theorem ap2_143 (a b : U G) : ap2 143 a b = .amap (mdel a.toMap b.toInt) := rfl
theorem ap2_150 (a b : U G) : ap2 150 a b = .bool (a.toBytes == b.toBytes) := rfl
theorem ap2_151 (a b : U G) : ap2 151 a b = .bool (Op.bytesLess a.toBytes b.toBytes) := rfl
theorem ap2_153 (a b : U G) : ap2 153 a b = .bool (a.toInts == b.toInts) := rfl
theorem ap3_112 (a b c : U G) : ap3 112 a b c = .int ((a.toRows.getD b.toInt.toNat []).getD c.toInt.toNat 0) := rfl
theorem ap3_130 (a b c : U G) : ap3 130 a b c = .ints (a.toInts.set b.toInt.toNat c.toInt) := rfl
theorem ap3_131 (a b c : U G) : ap3 131 a b c = .bytes (a.toBytes.set b.toInt.toNat (UInt8.ofNat c.toInt.toNat)) := rfl
theorem ap3_132 (a b c : U G) : ap3 132 a b c = .rows (a.toRows.set b.toInt.toNat c.toInts) := rfl
theorem ap3_133 (a b c : U G) : ap3 133 a b c = .int (if a.toBool then b.toInt else c.toInt) := rfl
theorem ap3_134 (a b c : U G) : ap3 134 a b c = .bool (if a.toBool then b.toBool else c.toBool) := rfl
theorem ap3_140 (a b c : U G) : ap3 140 a b c = .int (mget a.toInt b.toMap c.toInt) := rfl
theorem ap3_142 (a b c : U G) : ap3 142 a b c = .amap (mset a.toMap b.toInt c.toInt) := rfl

def imin (x y : Int) : Int := if y < x then y else x
def imax (x y : Int) : Int := if y > x then y else x
theorem ap2_51i {G : Type} (a b : U G) : ap2 51 a b = .int (imin a.toInt b.toInt) := rfl
theorem ap2_52i {G : Type} (a b : U G) : ap2 52 a b = .int (imax a.toInt b.toInt) := rfl
theorem imin_left {x y : Int} (h : x ≤ y) : imin x y = x := by unfold imin; rw [if_neg (by omega)]
theorem imin_right {x y : Int} (h : y ≤ x) : imin x y = y := by unfold imin; split <;> omega
def leB (x y : Int) : Bool := decide (x ≤ y)
def ltB (x y : Int) : Bool := decide (x < y)
theorem t47 {G : Type} (a b : U G) : (ap2 47 a b).toBool = leB a.toInt b.toInt := rfl
theorem t46 {G : Type} (a b : U G) : (ap2 46 a b).toBool = ltB a.toInt b.toInt := rfl
theorem leB_iff {x y : Int} : leB x y = true ↔ x ≤ y := by unfold leB; simp
theorem ltB_iff {x y : Int} : ltB x y = true ↔ x < y := by unfold ltB; simp
theorem dec_true {p : Prop} {i : Decidable p} : (@decide p i = true) = p := propext ⟨fun h => of_decide_eq_true h, fun h => decide_eq_true h⟩
theorem p45 {G : Type} (a b : U G) : (ap2 45 a b).toProp = (a.toInt = b.toInt) := by simp [ap2_45]
theorem p153 {G : Type} (a b : U G) : (ap2 153 a b).toProp = (a.toInts = b.toInts) := by simp [ap2_153]
theorem p46 {G : Type} (a b : U G) : (ap2 46 a b).toProp = (a.toInt < b.toInt) := dec_true
theorem p47 {G : Type} (a b : U G) : (ap2 47 a b).toProp = (a.toInt ≤ b.toInt) := dec_true
theorem p2_45 {G : Type} (a b : U G) : (ap1 2 (ap2 45 a b)).toProp = ¬ (a.toInt = b.toInt) := by simp [ap1_2, ap2_45]
theorem p2_46 {G : Type} (a b : U G) : (ap1 2 (ap2 46 a b)).toProp = ¬ (a.toInt < b.toInt) := by
  rw [ap1_2, ap2_46]; simp only [U.toProp_bool, U.toBool_bool]; by_cases h : a.toInt < b.toInt <;> simp [h]
theorem p2_47 {G : Type} (a b : U G) : (ap1 2 (ap2 47 a b)).toProp = ¬ (a.toInt ≤ b.toInt) := by
  rw [ap1_2, ap2_47]; simp only [U.toProp_bool, U.toBool_bool]; by_cases h : a.toInt ≤ b.toInt <;> simp [h]
theorem p49 {G : Type} (a b : U G) : (ap2 49 a b).toProp = (a.toBool = true ∧ b.toBool = true) := by simp [ap2_49]
theorem p50 {G : Type} (a b : U G) : (ap2 50 a b).toProp = (a.toBool = true ∨ b.toBool = true) := by simp [ap2_50]
theorem b45 {G : Type} (a b : U G) : ((ap2 45 a b).toBool = true) = (a.toInt = b.toInt) := p45 a b
theorem b46 {G : Type} (a b : U G) : ((ap2 46 a b).toBool = true) = (a.toInt < b.toInt) := p46 a b
theorem b47 {G : Type} (a b : U G) : ((ap2 47 a b).toBool = true) = (a.toInt ≤ b.toInt) := p47 a b
theorem p20 {G : Type} (a : U G) : (ap1 20 a).toProp = (IntKind.min .i8 ≤ a.toInt ∧ a.toInt ≤ IntKind.max .i8) := by
  rw [ap1_20, U.toProp_bool, Bool.and_eq_true, dec_true, dec_true]
theorem p21 {G : Type} (a : U G) : (ap1 21 a).toProp = (IntKind.min .i16 ≤ a.toInt ∧ a.toInt ≤ IntKind.max .i16) := by
  rw [ap1_21, U.toProp_bool, Bool.and_eq_true, dec_true, dec_true]
theorem p22 {G : Type} (a : U G) : (ap1 22 a).toProp = (IntKind.min .i32 ≤ a.toInt ∧ a.toInt ≤ IntKind.max .i32) := by
  rw [ap1_22, U.toProp_bool, Bool.and_eq_true, dec_true, dec_true]
theorem p23 {G : Type} (a : U G) : (ap1 23 a).toProp = (IntKind.min .i64 ≤ a.toInt ∧ a.toInt ≤ IntKind.max .i64) := by
  rw [ap1_23, U.toProp_bool, Bool.and_eq_true, dec_true, dec_true]
theorem p24 {G : Type} (a : U G) : (ap1 24 a).toProp = (IntKind.min .u8 ≤ a.toInt ∧ a.toInt ≤ IntKind.max .u8) := by
  rw [ap1_24, U.toProp_bool, Bool.and_eq_true, dec_true, dec_true]
theorem p25 {G : Type} (a : U G) : (ap1 25 a).toProp = (IntKind.min .u16 ≤ a.toInt ∧ a.toInt ≤ IntKind.max .u16) := by
  rw [ap1_25, U.toProp_bool, Bool.and_eq_true, dec_true, dec_true]
theorem p26 {G : Type} (a : U G) : (ap1 26 a).toProp = (IntKind.min .u32 ≤ a.toInt ∧ a.toInt ≤ IntKind.max .u32) := by
  rw [ap1_26, U.toProp_bool, Bool.and_eq_true, dec_true, dec_true]
theorem p27 {G : Type} (a : U G) : (ap1 27 a).toProp = (IntKind.min .u64 ≤ a.toInt ∧ a.toInt ≤ IntKind.max .u64) := by
  rw [ap1_27, U.toProp_bool, Bool.and_eq_true, dec_true, dec_true]
theorem upd_self (ρ : Env G) (n : Nat) (u : U G) : ρ.upd n u n = u := by simp [Env.upd]
theorem upd_ne (ρ : Env G) {n m : Nat} (u : U G) (h : m ≠ n) : ρ.upd n u m = ρ m := by simp [Env.upd, h]
end

/-! ### Bits of words without sign, and the check sum -/
theorem ofInt_nat (n m : Nat) : BitVec.ofInt n (m : Int) = BitVec.ofNat n m := by
  rw [BitVec.ofInt_natCast]
theorem bitsV_u32_xor (a b : Nat) (ha : a < 4294967296) (hb : b < 4294967296) : bitsV .xor .u32 a b = ((a ^^^ b : Nat) : Int) := by
  have e0 : bitsV .xor .u32 a b = IntKind.u32.wrap ((BitVec.ofInt 32 (a : Int) ^^^ BitVec.ofInt 32 (b : Int)).toNat : Nat) := rfl
  rw [e0, ofInt_nat, ofInt_nat]
  have h1 : (BitVec.ofNat 32 a ^^^ BitVec.ofNat 32 b).toNat = a ^^^ b := by
    rw [BitVec.toNat_xor, BitVec.toNat_ofNat, BitVec.toNat_ofNat, Nat.mod_eq_of_lt ha, Nat.mod_eq_of_lt hb]
  rw [h1]
  have h2 : a ^^^ b < 2 ^ 32 := Nat.xor_lt_two_pow ha hb
  unfold IntKind.wrap
  simp only [IntKind.signed, IntKind.bits]
  simp
  omega
theorem bitsV_u32_and15 (a : Nat) (ha : a < 4294967296) : bitsV .and .u32 a 15 = ((a &&& 15 : Nat) : Int) := by
  have e0 : bitsV .and .u32 a 15 = IntKind.u32.wrap ((BitVec.ofInt 32 (a : Int) &&& BitVec.ofInt 32 ((15 : Nat) : Int)).toNat : Nat) := rfl
  rw [e0, ofInt_nat, ofInt_nat]
  have h1 : (BitVec.ofNat 32 a &&& BitVec.ofNat 32 15).toNat = a &&& 15 := by
    rw [BitVec.toNat_and, BitVec.toNat_ofNat, BitVec.toNat_ofNat, Nat.mod_eq_of_lt ha, Nat.mod_eq_of_lt (by omega)]
  rw [h1]
  have h2 : a &&& 15 ≤ 15 := Nat.and_le_right
  unfold IntKind.wrap
  simp only [IntKind.signed, IntKind.bits]
  simp
  omega
theorem crcTab_lt (n : Nat) : crcTab.getD n 0 < 4294967296 := by
  match n with
  | 0 | 1 | 2 | 3 | 4 | 5 | 6 | 7 | 8 | 9 | 10 | 11 | 12 | 13 | 14 | 15 => decide
  | n + 16 => simp [crcTab]
theorem crcHalf_lt {r : Nat} (h : r < 4294967296) : crcHalf r < 4294967296 := Nat.xor_lt_two_pow (n := 32) (crcTab_lt _) (by omega)
theorem crcByte_lt {r x : Nat} (h : r < 4294967296) (hx : x < 256) : crcByte r x < 4294967296 :=
  crcHalf_lt (crcHalf_lt (Nat.xor_lt_two_pow (n := 32) h (by omega)))
theorem crcRun_lt : ∀ (l : List UInt8) {r : Nat}, r < 4294967296 → crcRun r l < 4294967296
  | [], _, h => h
  | x :: l, _, h => crcRun_lt l (crcByte_lt h (by have := x.toNat_lt; omega))
theorem crcRun_append : ∀ (l m : List UInt8) (r : Nat), crcRun r (l ++ m) = crcRun (crcRun r l) m
  | [], _, _ => rfl
  | x :: l, m, r => by simp only [List.cons_append, crcRun]; exact crcRun_append l m _
theorem crcRun_take (l : List UInt8) (i : Nat) (h : i < l.length) (r : Nat) : crcRun r (l.take (i + 1)) = crcByte (crcRun r (l.take i)) (l.getD i 0).toNat := by
  rw [List.take_add_one, crcRun_append, List.getD_eq_getElem?_getD, List.getElem?_eq_getElem h]
  rfl
def tabI : List Int := [0, 274646895, 549293790, 820201905, 1098587580, 1361435347, 1640403810, 1905808397, 2197175160, 2460548119, 2722870694, 2987750089, 3280807620, 3553878443, 3811616794, 4084100981]
theorem tabI_get (n : Nat) : tabI.getD n 0 = ((crcTab.getD n 0 : Nat) : Int) := by
  match n with
  | 0 | 1 | 2 | 3 | 4 | 5 | 6 | 7 | 8 | 9 | 10 | 11 | 12 | 13 | 14 | 15 => rfl
  | n + 16 => simp [tabI, crcTab]
/-- The half step as the code takes it. -/
theorem half_step (r : Nat) (h : r < 4294967296) : bitsV .xor .u32 (tabI.getD (bitsV .and .u32 r 15).toNat 0) ((r : Int).fdiv (2 ^ (min (Int.toNat 4) (IntKind.bits .u32)))) = (crcHalf r : Nat) := by
  rw [bitsV_u32_and15 r h, tabI_get]
  have e : ((r : Int).fdiv (2 ^ (min (Int.toNat 4) (IntKind.bits .u32)))) = ((r / 16 : Nat) : Int) := by
    have : (2 : Int) ^ (min (Int.toNat 4) (IntKind.bits .u32)) = 16 := by decide
    rw [this, Int.fdiv_eq_ediv_of_nonneg _ (by omega)]
    omega
  rw [e, bitsV_u32_xor _ _ (crcTab_lt _) (by omega)]
  rfl
end
end Go.Eng

/- All that the laws need. -/
