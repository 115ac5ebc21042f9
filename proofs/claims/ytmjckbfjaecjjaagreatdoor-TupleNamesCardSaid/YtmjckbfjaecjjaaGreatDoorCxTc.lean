/- The staged run answers as the plain one: regions. -/
import Derived.Test.YtmjckbfjaecjjaaGreatDoorCxTb
set_option linter.unusedVariables false
set_option linter.unusedSimpArgs false
set_option linter.unnecessarySimpa false
namespace Go.Cx
def NJ' (fr : F) : Prop := NJ fr ∧ fr.n ≤ 511
theorem NJ'.put {fr : F} (h : NJ' fr) (d : Option Nat) (v : CV) : NJ' (putD fr d v) := by
  refine ⟨h.1.put h.2, ?_⟩
  cases d with
  | none => exact h.2
  | some d => show (fset fr d v).n ≤ 511; rw [fset_n]; exact h.2
theorem NJ'.push {fr : F} (h : NJ' fr) (d : CV) : NJ' (pushD fr d) := by
  obtain ⟨p1, p2, _⟩ := pushD_eq fr d
  exact ⟨fun i h1 h2 => by rw [p2 i h2]; exact h.1 i (by rw [p1] at h1; exact h1) h2, by rw [p1]; exact h.2⟩
section
variable {P : Program} {ctrs : List (Nat × Option Cn)} {bd rd : Rn}
theorem stepO_lev {o : Oper} {fr : F} {hp : H} {n : Nat} {K : F → H → Nat → Res} (hnd : ∀ c, o.op ≠ .defer c) : stepO P ctrs bd rd o fr hp n K = lev P ctrs bd rd o.op fr hp n (fun v hp n => K (putD fr o.dst v) hp n) := by
  unfold stepO
  split
  · rename_i c e; exact absurd e (hnd c)
  · rfl
theorem stepO_defer {o : Oper} {c : Call} {fr : F} {hp : H} {n : Nat} {K : F → H → Nat → Res} (h : o.op = .defer c) : stepO P ctrs bd rd o fr hp n K = (match lDefer c fr with | some d => K (putD (pushD fr d) o.dst (.tup [])) hp n | none => none) := by
  unfold stepO
  split
  · rename_i c' e
    rw [h] at e; cases e
    cases lDefer c fr <;> rfl
  · rename_i hne; exact absurd h (hne c)
theorem sStep_eq {o : Oper} {next : CR} {fr : F} {hp : H} {n : Nat} {k K : F → H → Nat → Res} (h : NJ' fr) (hK : ∀ fr' hp n, NJ' fr' → next.run bd rd fr' hp n k = K fr' hp n) :
    (sStep P ctrs o next).run bd rd fr hp n k = stepO P ctrs bd rd o fr hp n K := by
  unfold sStep
  split
  · rename_i c hop
    rw [stepO_defer hop]
    simp only
    cases lDefer c fr with
    | none => rfl
    | some d => exact hK _ _ _ ((h.push d).put _ _)
  · rename_i hnd
    rw [stepO_lev (fun c e => hnd c e)]
    cases hd : o.dst with
    | none =>
      simp only
      rw [sOp_eq h.1]
      congr 1
      funext v hp n
      exact hK _ _ _ h
    | some d =>
      simp only
      rw [sOp_eq h.1]
      congr 1
      funext v hp n
      rw [sSet_eq]
      exact hK _ _ _ (h.put (some d) v)
theorem sSeq_eq {ops : List Oper} {k : F → H → Nat → Res} : ∀ (l : List Oper) {fr : F} {hp : H} {n : Nat}, NJ' fr → (sSeq P ctrs ops l).run bd rd fr hp n k = seqO P ctrs bd rd ops l fr hp n k
  | [], fr, hp, n, h => rfl
  | o :: l, fr, hp, n, h => by
    have hK : ∀ fr' hp n, NJ' fr' → (sSeq P ctrs ops l).run bd rd fr' hp n k = seqO P ctrs bd rd ops l fr' hp n k := fun fr' hp n h' => sSeq_eq l h'
    have hs := sStep_eq (P := P) (ctrs := ctrs) (o := o) (hp := hp) (n := n) h hK
    have e : sSeq P ctrs ops (o :: l) = (match o.guard with
      | none => sStep P ctrs o (sSeq P ctrs ops l)
      | some g => ⟨fun bd rd fr hp n k => match guardOf ops fr (some g) with
        | .go => (sStep P ctrs o (sSeq P ctrs ops l)).run bd rd fr hp n k
        | .skip => (sSeq P ctrs ops l).run bd rd (putD fr o.dst (.tup [])) hp n k
        | .bad => none⟩) := rfl
    rw [e]
    unfold seqO
    cases hg : o.guard with
    | none => exact hs
    | some g =>
      simp only
      cases guardOf ops fr (some g)
      · exact hs
      · exact hK _ _ _ (h.put _ _)
      · rfl

/-! ### Bits -/
def Msk (size m : Nat) (listed : Array Bool) : Prop := listed.size = size ∧ ∀ i, m.testBit i = listed.getD i false
theorem Msk.zero (size : Nat) : Msk size 0 (Array.replicate size false) := by
  refine ⟨by simp, fun i => ?_⟩
  rw [Nat.zero_testBit]
  by_cases h : i < size
  · simp [h]
  · simp [h]
theorem Msk.set {size m : Nat} {listed : Array Bool} (h : Msk size m listed) {i : Nat} (hi : i < size) : Msk size (Nat.lor m (Nat.pow 2 i)) (listed.setIfInBounds i true) := by
  refine ⟨by simpa using h.1, fun j => ?_⟩
  show (m ||| 2 ^ i).testBit j = _
  rw [Nat.testBit_or, Nat.testBit_two_pow, h.2 j]
  by_cases e : i = j
  · subst e
    have : i < listed.size := by rw [h.1]; exact hi
    simp [this]
  · rw [getD_set_ne _ e]; simp [e]
theorem Msk.get {size m : Nat} {listed : Array Bool} (h : Msk size m listed) {i : Nat} (hi : i < size) : listed.getD i true = m.testBit i := by
  rw [h.2]
  have : i < listed.size := by rw [h.1]; exact hi
  simp [this]
theorem sub_iff (m d : Nat) : Nat.beq (Nat.land m d) d = true ↔ ∀ i, d.testBit i = true → m.testBit i = true := by
  rw [Nat.beq_eq]
  show m &&& d = d ↔ _
  constructor
  · intro e i hi
    rw [← e, Nat.testBit_and] at hi
    simp at hi; exact hi.1
  · intro h
    apply Nat.eq_of_testBit_eq
    intro i
    rw [Nat.testBit_and]
    cases hd : d.testBit i
    · simp
    · simp [h i hd]
theorem bit_iff (m i : Nat) : Nat.beq (Nat.land m (Nat.pow 2 i)) 0 = !m.testBit i := by
  have e : Nat.land m (Nat.pow 2 i) = m &&& 2 ^ i := rfl
  rw [e]
  cases hm : m.testBit i
  · have : m &&& 2 ^ i = 0 := by
      apply Nat.eq_of_testBit_eq
      intro j
      rw [Nat.testBit_and, Nat.testBit_two_pow, Nat.zero_testBit]
      by_cases e : i = j
      · subst e; simp [hm]
      · simp [e]
    rw [this]; rfl
  · have h1 : (m &&& 2 ^ i).testBit i = true := by rw [Nat.testBit_and, Nat.testBit_two_pow, hm]; simp
    cases hb : Nat.beq (m &&& 2 ^ i) 0
    · rfl
    · rw [nbq hb, Nat.zero_testBit] at h1; cases h1
theorem depM_bit (l : List Edge) (i : Nat) : (depM l).testBit i = true ↔ ∃ e ∈ l, Region.binds .any e = true ∧ e.on = i := by
  induction l with
  | nil => show (0 : Nat).testBit i = true ↔ _; simp
  | cons e l ih =>
    have h0 : depM (e :: l) = bif Region.binds .any e then Nat.lor (Nat.pow 2 e.on) (depM l) else depM l := rfl
    rw [h0]
    cases hb : Region.binds .any e
    · simp only [cond_false, ih, List.mem_cons]
      constructor
      · rintro ⟨x, h1, h2⟩; exact ⟨x, .inr h1, h2⟩
      · rintro ⟨x, rfl | h1, h2, h3⟩
        · rw [hb] at h2; cases h2
        · exact ⟨x, h1, h2, h3⟩
    · simp only [cond_true]
      show (2 ^ e.on ||| depM l).testBit i = true ↔ _
      rw [Nat.testBit_or, Nat.testBit_two_pow, Bool.or_eq_true, ih]
      simp only [decide_eq_true_eq, List.mem_cons]
      constructor
      · rintro (h | ⟨x, h1, h2⟩)
        · exact ⟨e, .inl rfl, hb, h⟩
        · exact ⟨x, .inr h1, h2⟩
      · rintro ⟨x, rfl | h1, h2, h3⟩
        · exact .inl h3
        · exact .inr ⟨x, h1, h2, h3⟩
theorem dep_all {m : Nat} {listed : Array Bool} (h : ∀ i, m.testBit i = listed.getD i false) (o : Oper) :
    Nat.beq (Nat.land m (depM o.after.toList)) (depM o.after.toList) = o.after.all (fun e => !Region.binds .any e || listed.getD e.on false) := by
  rw [Bool.eq_iff_iff, sub_iff, Array.all_eq_true_iff_forall_mem]
  constructor
  · intro hh e he
    cases hb : Region.binds .any e
    · rfl
    · simp only [Bool.not_true, Bool.false_or]
      rw [← h]
      exact hh _ ((depM_bit _ _).2 ⟨e, by simpa using he, hb, rfl⟩)
  · intro hh i hi
    obtain ⟨e, he, hb, rfl⟩ := (depM_bit _ _).1 hi
    have := hh e (by simpa using he)
    rw [hb] at this
    rw [h]; simpa using this
theorem readyM_eq {ops : Array Oper} {m : Nat} {listed : Array Bool} (h : Msk ops.size m listed) : readyM m (depsM ops.toList) 0 = Region.ready .any ops listed := by
  unfold Region.ready
  have key : ∀ (l : List Oper) (i0 : Nat), ops.toList.drop i0 = l → readyM m (depsM l) i0 = (List.range' i0 l.length).filter fun i =>
      !listed.getD i true && ((ops[i]?).map (·.after.all fun e => !Region.binds .any e || listed.getD e.on false)).getD false := by
    intro l
    induction l with
    | nil => intro i0 _; rfl
    | cons o l ih =>
      intro i0 hd
      have hi : ops[i0]? = some o := by
        rw [← Array.getElem?_toList]
        have := congrArg (fun l => l[0]?) hd
        simpa using this
      have hlt : i0 < ops.size := (Array.getElem?_eq_some_iff.1 hi).1
      have hrest : ops.toList.drop (i0 + 1) = l := by
        have := congrArg List.tail hd
        simpa [List.tail_drop] using this
      have e : readyM m (depsM (o :: l)) i0 = bif (bif Nat.beq (Nat.land m (Nat.pow 2 i0)) 0 then Nat.beq (Nat.land m (depM o.after.toList)) (depM o.after.toList) else false) then i0 :: readyM m (depsM l) (i0 + 1) else readyM m (depsM l) (i0 + 1) := rfl
      rw [e, ih _ hrest, List.length_cons, List.range'_succ, List.filter_cons, hi, bit_iff, dep_all h.2, h.get hlt]
      simp only [Option.map_some, Option.getD_some]
      have fin : ∀ (a b : Bool) (x y : List Nat), (bif (bif !a then b else false) then x else y) = if (!a && b) = true then x else y := by
        intro a b x y; cases a <;> cases b <;> rfl
      exact fin _ _ _ _
  rw [key ops.toList 0 (by simp), List.range_eq_range']
  simp
theorem apM_bit {ops : Array Oper} {i : Nat} {oi : Oper} : ∀ (l : List Oper) (j0 : Nat) (j : Nat), (apM ops i oi l j0).testBit j = true ↔ ∃ q oj, l[q]? = some oj ∧ j = j0 + q ∧ (j = i ∨ oj.after.any (fun e => Region.binds .any e && e.on == i) = true ∨ oi.apart ops oj = true)
  | [], j0, j => by
    show (0 : Nat).testBit j = true ↔ _
    simp
  | o :: l, j0, j => by
    have e : apM ops i oi (o :: l) j0 = bif (bif Nat.beq j0 i then true else bif o.after.any (fun e => Region.binds .any e && e.on == i) then true else oi.apart ops o) then Nat.lor (Nat.pow 2 j0) (apM ops i oi l (j0 + 1)) else apM ops i oi l (j0 + 1) := rfl
    have hc : (bif Nat.beq j0 i then true else bif o.after.any (fun e => Region.binds .any e && e.on == i) then true else oi.apart ops o) = true ↔ (j0 = i ∨ o.after.any (fun e => Region.binds .any e && e.on == i) = true ∨ oi.apart ops o = true) := by
      cases h1 : Nat.beq j0 i
      · have : j0 ≠ i := fun e => by rw [e, Nat.beq_refl] at h1; cases h1
        simp only [cond_false, this, false_or]
        cases o.after.any (fun e => Region.binds .any e && e.on == i) <;> simp
      · simp [nbq h1]
    rw [e]
    have ih := apM_bit (ops := ops) (i := i) (oi := oi) l (j0 + 1) j
    cases hb : (bif Nat.beq j0 i then true else bif o.after.any (fun e => Region.binds .any e && e.on == i) then true else oi.apart ops o)
    · simp only [cond_false, ih]
      constructor
      · rintro ⟨q, oj, h1, h2, h3⟩; exact ⟨q + 1, oj, by simpa using h1, by omega, h3⟩
      · rintro ⟨q, oj, h1, h2, h3⟩
        cases q with
        | zero =>
          simp at h1; subst h1
          rw [Nat.add_zero] at h2; subst h2
          rw [hc.2 h3] at hb; cases hb
        | succ q => exact ⟨q, oj, by simpa using h1, by omega, h3⟩
    · simp only [cond_true]
      show (2 ^ j0 ||| apM ops i oi l (j0 + 1)).testBit j = true ↔ _
      rw [Nat.testBit_or, Nat.testBit_two_pow, Bool.or_eq_true, ih]
      simp only [decide_eq_true_eq]
      constructor
      · rintro (h | ⟨q, oj, h1, h2, h3⟩)
        · subst h; exact ⟨0, o, rfl, rfl, hc.1 hb⟩
        · exact ⟨q + 1, oj, by simpa using h1, by omega, h3⟩
      · rintro ⟨q, oj, h1, h2, h3⟩
        cases q with
        | zero => exact .inl (by omega)
        | succ q => exact .inr ⟨q, oj, by simpa using h1, by omega, h3⟩
theorem freeM_eq {ops : Array Oper} {m i : Nat} {oi : Oper} {listed : Array Bool} (h : Msk ops.size m listed) (hi : nthL ops.toList i = some oi) : freeM ops m i = Region.free .any ops listed i := by
  have hi' : ops[i]? = some oi := by rw [nthL_eq, Array.getElem?_toList] at hi; exact hi
  unfold freeM Region.free apMs
  simp only [hi, hi']
  rw [Bool.eq_iff_iff, sub_iff, List.all_eq_true]
  have e : ∀ j, (Nat.pow 2 ops.size - 1).testBit j = true ↔ j < ops.size := fun j => by
    show (2 ^ ops.size - 1).testBit j = true ↔ _
    rw [Nat.testBit_two_pow_sub_one]; simp
  have e2 : ∀ j, (Nat.lor m (apM ops i oi ops.toList 0)).testBit j = (m.testBit j || (apM ops i oi ops.toList 0).testBit j) := fun j => Nat.testBit_or m _ j
  constructor
  · intro hh j hj
    have hj := List.mem_range.1 hj
    have h1 := hh j ((e j).2 hj)
    rw [e2, Bool.or_eq_true] at h1
    rw [h.get hj]
    rcases h1 with h1 | h1
    · simp [h1]
    · obtain ⟨q, oj, q1, q2, q3⟩ := (apM_bit _ _ _).1 h1
      have : j = q := by omega
      subst this
      rw [Array.getElem?_toList] at q1
      rw [q1]
      rcases q3 with q3 | q3 | q3
      · simp [q3]
      · simp only [q3]; simp
      · simp only [q3]; simp
  · intro hh j hj
    have hj := (e j).1 hj
    have h1 := hh j (List.mem_range.2 hj)
    rw [e2, Bool.or_eq_true]
    rw [h.get hj] at h1
    obtain ⟨oj, hoj⟩ : ∃ oj, ops[j]? = some oj := ⟨ops[j], Array.getElem?_eq_getElem hj⟩
    rw [hoj] at h1
    simp only [Bool.or_eq_true, beq_iff_eq] at h1
    have hl : ops.toList[j]? = some oj := by rw [Array.getElem?_toList]; exact hoj
    rcases h1 with (h1 | h1) | h1
    · exact .inr ((apM_bit _ _ _).2 ⟨j, oj, hl, by omega, .inl h1⟩)
    · exact .inl h1
    · exact .inr ((apM_bit _ _ _).2 ⟨j, oj, hl, by omega, .inr h1⟩)
end
end Go.Cx
