/- Regions that draw their order, in the fenced layer: taking an operation first. -/
import Derived.Test.YtmjckbfjaecjjaaGreatDoorCxM
set_option linter.unusedVariables false
set_option linter.unusedSimpArgs false
set_option linter.unnecessarySimpa false
namespace Go.Cx
open Go.RowKit (Below)
section
variable {P : Program} {ro : Option Nat}
/-- Whatever order is picked from here on; what 'T' says of the operations that have been carried out holds behind each. -/
def wpAnyS (P : Program) (ro : Option Nat) (ops : Array Oper) (Q : Exit → Act → World → Prop) (T : Array Bool → World → Prop) : Nat → Array Bool → Act → World → Prop
  | 0, listed, a, w => Region.ready .any ops listed = [] ∧ Q .normal a w
  | fuel + 1, listed, a, w =>
    (Region.ready .any ops listed = [] → Q .normal a w) ∧
    ∀ i ∈ Region.ready .any ops listed, wpOpIn (FF ro) 0 P ops Q i (fun a' w' => T (listed.setIfInBounds i true) w' ∧ wpAnyS P ro ops Q T fuel (listed.setIfInBounds i true) a' w') a w
theorem wpAny_of_S {ops : Array Oper} {Q : Exit → Act → World → Prop} {T : Array Bool → World → Prop} : ∀ (fuel : Nat) (listed : Array Bool) (a : Act) (w : World), wpAnyS P ro ops Q T fuel listed a w → wpAnyIn (FF ro) 0 P .any ops Q fuel listed a w
  | 0, _, _, _, h => h
  | fuel + 1, _, _, _, h => ⟨h.1, fun i hi => wpOpIn_mono (fun a' w' h' => wpAny_of_S fuel _ a' w' h'.2) (h.2 i hi)⟩
theorem wpAnyS_mono {ops : Array Oper} {Q : Exit → Act → World → Prop} {T T' : Array Bool → World → Prop} (hT : ∀ l w, T l w → T' l w) : ∀ (fuel : Nat) (listed : Array Bool) (a : Act) (w : World), wpAnyS P ro ops Q T fuel listed a w → wpAnyS P ro ops Q T' fuel listed a w
  | 0, _, _, _, h => h
  | fuel + 1, _, _, _, h => ⟨h.1, fun i hi => wpOpIn_mono (fun a' w' h' => ⟨hT _ _ h'.1, wpAnyS_mono hT fuel _ a' w' h'.2⟩) (h.2 i hi)⟩

/-- What has been listed has what it waits for listed. -/
def Closed (ops : Array Oper) (listed : Array Bool) : Prop := ∀ j o, ops[j]? = some o → listed.getD j true = true → ∀ e ∈ o.after, Region.binds .any e = true → listed.getD e.on false = true
def YieldsT (P : Program) (ops : Array Oper) (T : Array Bool → World → Prop) (i : Nat) (o : Oper) (v : Value) (a : Act) : Prop :=
  (Region.wanted o (yielded ops a.tmps) = true ∧ ∀ l w, Closed ops l → l.getD i true = false → T l w → (execOp a.eval o).run P w = .ok (.value v) w) ∨
  (Region.wanted o (yielded ops a.tmps) = false ∧ v = undef)
theorem YieldsT.wpOp {ops : Array Oper} {Q : Exit → Act → World → Prop} {T : Array Bool → World → Prop} {i : Nat} {o : Oper} {v : Value} {a : Act} (hi : ops[i]? = some o) (hnd : ∀ c, o.op ≠ .defer c) (hy : YieldsT P ops T i o v a)
    {l : Array Bool} {K : Act → World → Prop} {w : World} (hc : Closed ops l) (hl : l.getD i true = false) (hT : T l w) (h : K (a.put o.dst v) w) : wpOpIn (FF ro) 0 P ops Q i K a w := by
  unfold Go.wpOpIn
  simp only [hi]
  rcases hy with ⟨hw, hv⟩ | ⟨hw, rfl⟩
  · simp only [hw, if_true]
    refine ⟨fun f _ => trivial, ?_⟩
    rw [show (FF ro).round = ro from rfl, Oper.semAt_eq ro a.eval o hnd, hv l w hc hl hT]
    exact h
  · simp only [hw, Bool.false_eq_true, if_false]; exact ⟨fun f _ => trivial, h⟩
theorem YieldsT.of_same {ops : Array Oper} {T : Array Bool → World → Prop} {i : Nat} {o : Oper} {v : Value} {a a' : Act} (hy : YieldsT P ops T i o v a) (he : execOp a'.eval o = execOp a.eval o)
    (hw : Region.wanted o (yielded ops a'.tmps) = Region.wanted o (yielded ops a.tmps)) : YieldsT P ops T i o v a' := by
  unfold YieldsT at *
  rw [he, hw]
  exact hy
theorem wpOp_putT {ops : Array Oper} {Q : Exit → Act → World → Prop} {T : Array Bool → World → Prop} {i j : Nat} {oi oj : Oper} {v : Value} (hj : ops[j]? = some oj) (hap : oi.apart ops oj = true)
    (hsi : ∀ cs b, oi.op ≠ .select cs b) (hsj : ∀ cs b, oj.op ≠ .select cs b) (hnd : ∀ c, oj.op ≠ .defer c)
    (hQ : ∀ c a w, Q (.panic c) (a.put oi.dst v) w → Q (.panic c) a w) {K : Act → World → Prop} {a : Act} {w : World}
    (hy : YieldsT P ops T i oi v a) (h : wpOpIn (FF ro) 0 P ops Q j K (a.put oi.dst v) w) :
    wpOpIn (FF ro) 0 P ops Q j (fun a' w' => YieldsT P ops T i oi v a' ∧ K (a'.put oi.dst v) w') a w := by
  obtain ⟨h1, h2, h3⟩ := Oper.apart_spec hap
  have keep : ∀ (a : Act), YieldsT P ops T i oi v a → ∀ u, YieldsT P ops T i oi v (a.put oj.dst u) := fun a hy u =>
    hy.of_same (execOp_put oi hsi a oj.dst u h3) (wanted_put oi a oj.dst u h3)
  have keepD : ∀ d, YieldsT P ops T i oi v { a with defers := d :: a.defers } := fun d => hy.of_same rfl rfl
  unfold wpOpIn at *
  simp only [hj] at *
  rw [wanted_put oj a oi.dst v h1] at h
  split
  · rename_i hw
    simp only [hw, if_true] at h
    refine ⟨fun f _ => trivial, ?_⟩
    have h := h.2
    rw [show (FF ro).round = ro from rfl, Oper.semAt_eq ro _ oj hnd] at h ⊢
    rw [execOp_put oj hsj a oi.dst v h1] at h
    generalize (execOp a.eval oj).run P w = r at *
    cases r with
    | ok n w' =>
      cases n <;> simp only [Oper.uponIn] at h ⊢
      case value u => exact ⟨keep a hy u, by rw [← Act.put_comm a v u h2]; exact h⟩
      case skip => exact ⟨keep a hy _, by rw [← Act.put_comm a v undef h2]; exact h⟩
      case defer d =>
        refine ⟨keep _ (keepD d) _, ?_⟩
        rw [← Act.put_comm _ v undef h2, ← Act.put_defers]
        exact h
      case enter f args =>
        refine ⟨h.1, CallsIn.mono h.2 fun e w'' he => ?_⟩
        cases e with
        | returned u => exact ⟨keep a hy u, by rw [← Act.put_comm a v u h2]; exact he⟩
        | panicked c => exact hQ _ _ _ he
        | outgrown => exact he
      case row row args => exact ⟨h.1, RowsIn.mono h.2 fun u w'' he => ⟨keep a hy u, by rw [← Act.put_comm a v u h2]; exact he⟩⟩
      case round l f tm as bo =>
        refine ⟨h.1, RoundIn.mono h.2 fun e w'' he => ?_⟩
        cases e with
        | returned u => exact ⟨keep a hy u, by rw [← Act.put_comm a v u h2]; exact he⟩
        | panicked c => exact hQ _ _ _ he
        | outgrown => exact he
    | halt x w' =>
      cases x <;> simp only [Oper.uponIn] at h ⊢
      case panic u => exact hQ _ _ _ h
  · rename_i hw
    simp only [hw] at h
    exact ⟨fun f _ => trivial, keep a hy _, by rw [← Act.put_comm a v undef h2]; exact h.2⟩
theorem Closed.set {ops : Array Oper} {l : Array Bool} {i : Nat} (h : Closed ops l) (hi : i ∈ Region.ready .any ops l) : Closed ops (l.setIfInBounds i true) := by
  intro j o hj hl e he hb
  by_cases hji : j = i
  · subst hji
    obtain ⟨_, o', ho', hall⟩ := mem_ready.1 hi
    rw [hj] at ho'; cases ho'
    exact getD_set_true (hall e he hb)
  · rw [getD_set_ne true (Ne.symm hji)] at hl
    exact getD_set_true (h j o hj hl e he hb)
/-- An operation that may come up now may be taken first, if it answers so whenever it may come up. -/
theorem wpAnyS_first {ops : Array Oper} {Q : Exit → Act → World → Prop} {T : Array Bool → World → Prop} {i : Nat} {oi : Oper} {v : Value} (hi : ops[i]? = some oi) (hsel : ∀ (j : Nat) (o : Oper) cs b, ops[j]? = some o → o.op ≠ .select cs b)
    (hnd : ∀ (j : Nat) (o : Oper) c, ops[j]? = some o → o.op ≠ .defer c)
    (hQ : ∀ c a w, Q (.panic c) (a.put oi.dst v) w → Q (.panic c) a w) (hTi : ∀ l w, T (l.setIfInBounds i true) w → T l w) :
    ∀ (fuel : Nat) (listed : Array Bool) (a : Act) (w : World), Closed ops listed →
      (∀ j oj, ops[j]? = some oj → j ≠ i → listed.getD j true = false → (∀ e ∈ oj.after, Region.binds .any e = true → e.on ≠ i) → oi.apart ops oj = true) →
      i ∈ Region.ready .any ops listed → YieldsT P ops T i oi v a → T listed w → T (listed.setIfInBounds i true) w →
      wpAnyS P ro ops Q T fuel (listed.setIfInBounds i true) (a.put oi.dst v) w → wpAnyS P ro ops Q T (fuel + 1) listed a w := by
  intro fuel
  induction fuel with
  | zero =>
    intro listed a w hc _ hr hy hT hT' H
    refine ⟨fun h => (by rw [h] at hr; cases hr), fun j hj => ?_⟩
    by_cases hji : j = i
    · subst hji; exact hy.wpOp hi (fun c => hnd j oi c hi) hc (mem_ready.1 hr).1 hT ⟨hT', H⟩
    · have := ready_mono hj hji
      rw [H.1] at this
      cases this
  | succ fuel ih =>
    intro listed a w hc hfree hr hy hT hT' H
    refine ⟨fun h => (by rw [h] at hr; cases hr), fun j hj => ?_⟩
    by_cases hji : j = i
    · subst hji; exact hy.wpOp hi (fun c => hnd j oi c hi) hc (mem_ready.1 hr).1 hT ⟨hT', H⟩
    · have h1 := H.2 j (ready_mono hj hji)
      obtain ⟨hjun, oj, hoj, hall⟩ := mem_ready.1 hj
      have hnot : ∀ e ∈ oj.after, Region.binds .any e = true → e.on ≠ i := fun e he hb heq => by
        have h1 := hall e he hb
        have h0 := (mem_ready.1 hr).1
        rw [heq] at h1
        rcases Nat.lt_or_ge i listed.size with h' | h'
        · simp [h'] at h0 h1; rw [h0] at h1; cases h1
        · simp [Array.getElem?_eq_none h'] at h1
      have h2 := wpOp_putT hoj (hfree j oj hoj hji hjun hnot) (fun cs b => hsel i oi cs b hi) (fun cs b => hsel j oj cs b hoj) (fun c => hnd j oj c hoj) hQ hy h1
      have hfree' : ∀ k ok, ops[k]? = some ok → k ≠ i → (listed.setIfInBounds j true).getD k true = false →
          (∀ e ∈ ok.after, Region.binds .any e = true → e.on ≠ i) → oi.apart ops ok = true := fun k ok hk hki hun hno => by
        refine hfree k ok hk hki ?_ hno
        by_cases hjk : j = k
        · subst hjk; exact hjun
        · rw [getD_set_ne true hjk] at hun; exact hun
      refine wpOpIn_mono (fun a' w' h3 => ?_) h2
      obtain ⟨hy', hT3, H3⟩ := h3
      rw [Array.setIfInBounds_comm _ _ (Ne.symm hji)] at hT3 H3
      have hT4 := hTi _ _ hT3
      exact ⟨hT4, ih (listed.setIfInBounds j true) a' w' (hc.set hj) hfree' (ready_mono hr (Ne.symm hji)) hy' hT4 hT3 H3⟩

/-! ### What is left -/
def left (listed : Array Bool) : Nat := listed.toList.countP (· == false)
theorem left_set {l : Array Bool} {i : Nat} (h : l.getD i true = false) : left (l.setIfInBounds i true) + 1 = left l := by
  unfold left
  rw [Array.toList_setIfInBounds]
  rw [Array.getD_eq_getD_getElem?, ← Array.getElem?_toList] at h
  revert h
  generalize l.toList = m
  intro h
  induction m generalizing i with
  | nil => simp at h
  | cons b m ih =>
    cases i with
    | zero => simp at h; subst h; simp
    | succ i =>
      have := ih (i := i) (by simpa using h)
      simp only [List.set_cons_succ, List.countP_cons]
      omega
theorem getD_lt {l : Array Bool} {i : Nat} (h : l.getD i true = false) : i < l.size := by
  rcases Nat.lt_or_ge i l.size with h' | h'
  · exact h'
  · simp [Array.getElem?_eq_none h'] at h
theorem getD_set_self {l : Array Bool} {i : Nat} (h : l.getD i true = false) (d : Bool) : (l.setIfInBounds i true).getD i d = true := by
  simp [getD_lt h]
theorem wpAnyS_done {ops : Array Oper} {Q : Exit → Act → World → Prop} {T : Array Bool → World → Prop} {listed : Array Bool} {a : Act} {w : World} (hr : Region.ready .any ops listed = []) (h : Q .normal a w) : ∀ k, wpAnyS P ro ops Q T k listed a w
  | 0 => ⟨hr, h⟩
  | k + 1 => ⟨fun _ => h, by rw [hr]; simp⟩
/-- What a record says. -/
structure Say where
  i : Nat
  o : Oper
  ev : Operand → Value
  v : Value
/-- No operation that was carried out, other than the ones taken first, waits for this one. -/
def Valid (ops : Array Oper) (X : Nat → Prop) (l : Array Bool) (s : Say) : Prop :=
  ∀ j o, ops[j]? = some o → ¬ X j → l.getD j true = true → waits o s.i = false
def TR (P : Program) (ops : Array Oper) (X : Nat → Prop) (R : List Say) (l : Array Bool) (w : World) : Prop :=
  ∀ s ∈ R, Valid ops X l s → (execOp s.ev s.o).run P w = .ok (.value s.v) w
theorem valid_anti {ops : Array Oper} {X : Nat → Prop} {l : Array Bool} {i : Nat} {s : Say} (hl : l.getD i true = false) (h : Valid ops X (l.setIfInBounds i true) s) : Valid ops X l s := by
  intro j o hj hx hlj
  refine h j o hj hx ?_
  by_cases hij : i = j
  · subst hij; exact getD_set_self hl _
  · rw [getD_set_ne true hij]; exact hlj
theorem valid_drop {ops : Array Oper} {X : Nat → Prop} {l : Array Bool} {i : Nat} {s : Say} (hl : l.getD i true = false) (h : Valid ops (fun j => X j ∨ j = i) l s) : Valid ops X l s := by
  intro j o hj hx hlj
  refine h j o hj (fun h' => ?_) hlj
  rcases h' with h' | rfl
  · exact hx h'
  · rw [hl] at hlj; cases hlj
theorem valid_setX {ops : Array Oper} {X : Nat → Prop} {l : Array Bool} {i : Nat} {s : Say} (h : Valid ops (fun j => X j ∨ j = i) (l.setIfInBounds i true) s) : Valid ops (fun j => X j ∨ j = i) l s := by
  intro j o hj hx hlj
  have hij : i ≠ j := fun h' => hx (.inr h'.symm)
  exact h j o hj hx (by rw [getD_set_ne true hij]; exact hlj)
theorem valid_setX' {ops : Array Oper} {X : Nat → Prop} {l : Array Bool} {i : Nat} {s : Say} (h : Valid ops (fun j => X j ∨ j = i) l s) : Valid ops (fun j => X j ∨ j = i) (l.setIfInBounds i true) s := by
  intro j o hj hx hlj
  have hij : i ≠ j := fun h' => hx (.inr h'.symm)
  exact h j o hj hx (by rw [getD_set_ne true hij] at hlj; exact hlj)
theorem eachI_good {φ : Out → Prop} {f : Nat → Res} : ∀ {l : List Nat}, Good (eachI f l) φ → ∀ e ∈ l, Good (f e) φ
  | [], _, e, he => by cases he
  | [a], h, e, he => by
    simp only [List.mem_singleton] at he; subst he; exact h
  | a :: b :: l, h, e, he => by
    simp only [eachI] at h
    obtain ⟨h1, h2⟩ := h.cat
    rcases List.mem_cons.1 he with rfl | he
    · exact h1
    · exact eachI_good h2 e he
theorem firstQuiet_spec {fr : F} {ops : List Oper} : ∀ {l : List Nat} {i : Nat} {o : Oper}, firstQuiet P fr ops l = some (i, o) → i ∈ l ∧ nthL ops i = some o
  | [], _, _, h => nomatch h
  | j :: l, i, o, h => by
    simp only [firstQuiet] at h
    split at h
    · rename_i o' ho
      cases hq : quietAt P fr ops o'
      · rw [hq] at h; have := firstQuiet_spec h; exact ⟨List.mem_cons_of_mem _ this.1, this.2⟩
      · rw [hq] at h; cases h; exact ⟨List.mem_cons_self, ho⟩
    · cases h
end
end Go.Cx
