/- A small judge of formulas: it knows lower bounds. -/
import Derived.Test.YtmjonggabppgaaaEngV
set_option linter.unusedSimpArgs false
set_option linter.unusedVariables false
namespace Go.Eng
abbrev LB := List (Nat × Int)
def LB.get : LB → Nat → Option Int
  | [], _ => none
  | (j, l) :: r, i => bif Nat.beq j i then some l else LB.get r i
mutual
def lbOf (lo hi : LB) : SX → Option Int
  | .int n => some n
  | .at s i => (match s with | .int => LB.get lo i | _ => none)
  | .f1 f _ => (match f with | 30 | 31 | 32 | 33 => some 0 | _ => none)
  | .f2 f a b => (match f with
    | 40 => (match lbOf lo hi a, lbOf lo hi b with | some x, some y => some (x + y) | _, _ => none)
    | 41 => (match lbOf lo hi a, ubOf lo hi b with | some x, some y => some (x - y) | _, _ => none)
    | 111 => some 0
    | _ => none)
  | _ => none
def ubOf (lo hi : LB) : SX → Option Int
  | .int n => some n
  | .at s i => (match s with | .int => (match LB.get hi i with | some x => some (-x) | none => none) | _ => none)
  | .f2 f a b => (match f with
    | 40 => (match ubOf lo hi a, ubOf lo hi b with | some x, some y => some (x + y) | _, _ => none)
    | 41 => (match ubOf lo hi a, lbOf lo hi b with | some x, some y => some (x - y) | _, _ => none)
    | 111 => some 255
    | _ => none)
  | _ => none
end
def LB.put (i : Nat) (c : Int) : LB → LB
  | [] => [(i, c)]
  | (j, l) :: r => bif Nat.beq j i then (j, max l c) :: r else bif Nat.blt j i then (i, c) :: (j, l) :: r else (j, l) :: LB.put i c r
def learnLo (lo : LB) (e : SX) : LB :=
  match e with
  | .f2 f (.int c) (.at .int i) => (match f with | 47 => LB.put i c lo | 46 => LB.put i (c + 1) lo | _ => lo)
  | _ => lo
def learnHi (hi : LB) (e : SX) : LB :=
  match e with
  | .f2 f (.at .int i) (.int c) => (match f with | 47 => LB.put i (-c) hi | 46 => LB.put i (-(c - 1)) hi | _ => hi)
  | _ => hi
/-- A measure that falls by a written number. -/
def fallsBy : SX → SX → Bool
  | .f2 f x (.f2 g y (.int (.ofNat (_ + 1)))), .f2 f' x' y' => bif (bif Nat.beq f 41 then (bif Nat.beq g 40 then Nat.beq f' 41 else false) else false) then (bif SX.bq x x' then SX.bq y y' else false) else false
  | _, _ => false
def proves (lo hi : LB) : SX → Bool
  | .bool b => b
  | .f1 f x => (match f with
    | 23 => (match lbOf lo hi x, ubOf lo hi x with | some l, some u => bif decide (-9223372036854775808 ≤ l) then decide (u ≤ 9223372036854775807) else false | _, _ => false)
    | _ => false)
  | .f2 f a b => (match f with
    | 47 => (match ubOf lo hi a, lbOf lo hi b with | some u, some l => decide (u ≤ l) | _, _ => false)
    | 46 => bif fallsBy a b then true else (match ubOf lo hi a, lbOf lo hi b with | some u, some l => decide (u < l) | _, _ => false)
    | _ => false)
  | _ => false
def allB (c : Int) : List UInt8 → Bool
  | [] => true
  | x :: l => bif ibq (.ofNat x.toNat) c then allB c l else false
def absurdE (lo hi : LB) : SX → Bool
  | .bool b => !b
  | .f1 f x => (match f, x with
    | 2, .f2 45 (.f2 111 (.byt l) i) (.int c) => (match lbOf lo hi i, ubOf lo hi i with
      | some (.ofNat a), some (.ofNat b) => bif Nat.blt b l.length then allB c ((l.drop a).take (b + 1 - a)) else false
      | _, _ => false)
    | _, _ => false)
  | .f2 f a b => (match f with
    | 47 => (match lbOf lo hi a, ubOf lo hi b with | some l, some u => decide (u < l) | _, _ => false)
    | 46 => (match lbOf lo hi a, ubOf lo hi b with | some l, some u => decide (u ≤ l) | _, _ => false)
    | _ => false)
  | _ => false
def LB.below (n : Nat) : LB → LB
  | [] => []
  | (j, l) :: r => bif Nat.blt j n then (j, l) :: r else LB.below n r
def VC.chk : LB → LB → VC → Bool
  | _, _, .tt => true
  | _, _, .ff _ => false
  | lo, hi, .and a b => bif VC.chk lo hi a then VC.chk lo hi b else false
  | lo, hi, .imp e a => bif absurdE lo hi e then true else VC.chk (learnLo lo e) (learnHi hi e) a
  | lo, hi, .need e a => bif proves lo hi e then VC.chk (learnLo lo e) (learnHi hi e) a else false
  | lo, hi, .all n _ a => VC.chk (LB.below n lo) (LB.below n hi) a

section
variable {G : Type} (S : Sig G)
def LBOk (v : Nat → Int) (env : LB) : Prop := env.Pairwise (fun a b => b.1 < a.1) ∧ ∀ p ∈ env, p.2 ≤ v p.1
theorem LB.get_ok {v : Nat → Int} : ∀ {env : LB}, (∀ p ∈ env, p.2 ≤ v p.1) → ∀ {i : Nat} {l : Int}, LB.get env i = some l → l ≤ v i
  | [], _, _, _, h => nomatch h
  | (j, l') :: r, ho, i, l, h => by
    simp only [LB.get] at h
    cases hb : Nat.beq j i
    · rw [hb] at h; exact LB.get_ok (fun p hp => ho p (List.mem_cons_of_mem _ hp)) h
    · rw [hb] at h; cases h
      have := ho _ List.mem_cons_self
      rw [Nat.eq_of_beq_eq_true hb] at this; exact this
theorem bnd_ok {ρ : Env G} {lo hi : LB} (ho : ∀ p ∈ lo, p.2 ≤ (ρ p.1).toInt) (hh : ∀ p ∈ hi, p.2 ≤ -(ρ p.1).toInt) : ∀ {e : SX},
    (∀ {l : Int}, lbOf lo hi e = some l → l ≤ (e.den S ρ).toInt) ∧ (∀ {l : Int}, ubOf lo hi e = some l → (e.den S ρ).toInt ≤ l) := by
  intro e
  induction e with
  | int n => exact ⟨fun h => (by simp only [lbOf] at h; cases h; exact Int.le_refl _), fun h => (by simp only [ubOf] at h; cases h; exact Int.le_refl _)⟩
  | «at» s i =>
    refine ⟨fun h => ?_, fun h => ?_⟩
    · simp only [lbOf] at h
      cases s <;> simp only [reduceCtorEq] at h
      exact LB.get_ok (v := fun i => (ρ i).toInt) ho h
    · simp only [ubOf] at h
      cases s <;> simp only [reduceCtorEq] at h
      split at h
      · rename_i x hx
        cases h
        have := LB.get_ok (v := fun i => -(ρ i).toInt) hh hx
        simp only [SX.den, U.co, U.toInt_int]
        omega
      · cases h
  | f1 f a _ =>
    refine ⟨fun h => ?_, fun h => ?_⟩
    · simp only [lbOf] at h
      split at h <;> cases h
      all_goals simp only [SX.den, ap1, U.toInt_int]; omega
    · simp only [ubOf] at h; cases h
  | f2 f a b iha ihb =>
    refine ⟨fun h => ?_, fun h => ?_⟩
    · simp only [lbOf] at h
      split at h
      · split at h
        · rename_i x y hx hy
          cases h
          have := iha.1 hx
          have := ihb.1 hy
          simp only [SX.den, ap2, U.toInt_int]; omega
        · cases h
      · split at h
        · rename_i x y hx hy
          cases h
          have := iha.1 hx
          have := ihb.2 hy
          simp only [SX.den, ap2, U.toInt_int]; omega
        · cases h
      · cases h
        simp only [SX.den, ap2, U.toInt_int]; omega
      · cases h
    · simp only [ubOf] at h
      split at h
      · split at h
        · rename_i x y hx hy
          cases h
          have := iha.2 hx
          have := ihb.2 hy
          simp only [SX.den, ap2, U.toInt_int]; omega
        · cases h
      · split at h
        · rename_i x y hx hy
          cases h
          have := iha.2 hx
          have := ihb.1 hy
          simp only [SX.den, ap2, U.toInt_int]; omega
        · cases h
      · cases h
        simp only [SX.den, ap2, U.toInt_int]
        have := (((a.den S ρ).toBytes.getD (b.den S ρ).toInt.toNat 0)).toNat_lt
        omega
      · cases h
  | _ => exact ⟨fun h => (by simp only [lbOf] at h; cases h), fun h => (by simp only [ubOf] at h; cases h)⟩
theorem LB.put_ok {ρ : Nat → Int} {i : Nat} {c : Int} (hc : c ≤ ρ i) : ∀ {env : LB}, LBOk ρ env → LBOk ρ (LB.put i c env) ∧ ∀ p ∈ LB.put i c env, p.1 = i ∨ ∃ q ∈ env, q.1 = p.1
  | [], _ => ⟨⟨List.pairwise_singleton _ _, fun p hp => by rw [LB.put, List.mem_singleton] at hp; subst hp; exact hc⟩, fun p hp => by rw [LB.put, List.mem_singleton] at hp; subst hp; exact .inl rfl⟩
  | (j, l) :: r, h => by
    obtain ⟨hp, ho⟩ := h
    rw [List.pairwise_cons] at hp
    simp only [LB.put]
    cases h1 : Nat.beq j i
    · cases h2 : Nat.blt j i
      · have ih := LB.put_ok hc (env := r) ⟨hp.2, fun p hq => ho p (List.mem_cons_of_mem _ hq)⟩
        have hij : i < j := by
          have e1 : ¬ j < i := fun hh => by rw [← Nat.blt_eq] at hh; rw [h2] at hh; cases hh
          have e2 : j ≠ i := fun hh => by rw [hh, Nat.beq_refl] at h1; cases h1
          omega
        simp only [cond_false]
        refine ⟨⟨List.pairwise_cons.2 ⟨fun p hq => ?_, ih.1.1⟩, fun p hq => ?_⟩, fun p hq => ?_⟩
        · rcases ih.2 p hq with e | ⟨q, hq', e⟩
          · rw [e]; exact hij
          · rw [← e]; exact hp.1 q hq'
        · rcases List.mem_cons.1 hq with rfl | hq
          · exact ho _ List.mem_cons_self
          · exact ih.1.2 p hq
        · rcases List.mem_cons.1 hq with rfl | hq
          · exact .inr ⟨_, List.mem_cons_self, rfl⟩
          · rcases ih.2 p hq with e | ⟨q, hq', e⟩
            · exact .inl e
            · exact .inr ⟨q, List.mem_cons_of_mem _ hq', e⟩
      · rw [Nat.blt_eq] at h2
        simp only [cond_true, cond_false]
        refine ⟨⟨List.pairwise_cons.2 ⟨fun p hq => ?_, List.pairwise_cons.2 hp⟩, fun p hq => ?_⟩, fun p hq => ?_⟩
        · rcases List.mem_cons.1 hq with rfl | hq
          · exact h2
          · have := hp.1 p hq; omega
        · rcases List.mem_cons.1 hq with rfl | hq
          · exact hc
          · exact ho p hq
        · rcases List.mem_cons.1 hq with rfl | hq
          · exact .inl rfl
          · exact .inr ⟨p, hq, rfl⟩
    · have e := Nat.eq_of_beq_eq_true h1
      subst e
      simp only [cond_true]
      refine ⟨⟨List.pairwise_cons.2 ⟨fun p hq => hp.1 p hq, hp.2⟩, fun p hq => ?_⟩, fun p hq => ?_⟩
      · rcases List.mem_cons.1 hq with rfl | hq
        · have := ho (j, l) List.mem_cons_self
          simp only at this ⊢; omega
        · exact ho p (List.mem_cons_of_mem _ hq)
      · rcases List.mem_cons.1 hq with rfl | hq
        · exact .inl rfl
        · exact .inr ⟨p, List.mem_cons_of_mem _ hq, rfl⟩
abbrev loV (ρ : Env G) : Nat → Int := fun i => (ρ i).toInt
abbrev hiV (ρ : Env G) : Nat → Int := fun i => -(ρ i).toInt
theorem learnLo_ok {ρ : Env G} {env : LB} (h : LBOk (loV ρ) env) {e : SX} (he : (e.den S ρ).toProp) : LBOk (loV ρ) (learnLo env e) := by
  unfold learnLo
  split
  · rename_i f c i
    split
    · have he : decide (c ≤ (ρ i).toInt) = true := he
      exact (LB.put_ok (of_decide_eq_true he) h).1
    · have he : decide (c < (ρ i).toInt) = true := he
      have := of_decide_eq_true he
      exact (LB.put_ok (by simp only [loV]; omega) h).1
    · exact h
  · exact h
theorem learnHi_ok {ρ : Env G} {env : LB} (h : LBOk (hiV ρ) env) {e : SX} (he : (e.den S ρ).toProp) : LBOk (hiV ρ) (learnHi env e) := by
  unfold learnHi
  split
  · rename_i f i c
    split
    · have he : decide ((ρ i).toInt ≤ c) = true := he
      have := of_decide_eq_true he
      exact (LB.put_ok (by simp only [hiV]; omega) h).1
    · have he : decide ((ρ i).toInt < c) = true := he
      have := of_decide_eq_true he
      exact (LB.put_ok (by simp only [hiV]; omega) h).1
    · exact h
  · exact h
theorem fallsBy_ok {ρ : Env G} {a b : SX} (h : fallsBy a b = true) : (a.den S ρ).toInt < (b.den S ρ).toInt := by
  unfold fallsBy at h
  split at h
  · rename_i f x g y n f' x' y'
    cases h1 : Nat.beq f 41
    · rw [h1] at h; cases h
    cases h2 : Nat.beq g 40
    · rw [h1, h2] at h; cases h
    cases h3 : Nat.beq f' 41
    · rw [h1, h2, h3] at h; cases h
    cases h4 : SX.bq x x'
    · rw [h1, h2, h3, h4] at h; cases h
    rw [h1, h2, h3, h4] at h
    have e1 := Nat.eq_of_beq_eq_true h1
    have e2 := Nat.eq_of_beq_eq_true h2
    have e3 := Nat.eq_of_beq_eq_true h3
    have e4 := SX.bq_eq h4
    have e5 := SX.bq_eq h
    subst e1; subst e2; subst e3; subst e4; subst e5
    simp only [SX.den, ap2, U.toInt_int]
    have e6 : (Int.ofNat n.succ : Int) = (n : Int) + 1 := rfl
    rw [e6]
    omega
  · cases h
theorem proves_ok {ρ : Env G} {lo hi : LB} (ho : LBOk (loV ρ) lo) (hh : LBOk (hiV ρ) hi) {e : SX} (he : proves lo hi e = true) : (e.den S ρ).toProp := by
  have B := @bnd_ok G S ρ lo hi ho.2 hh.2
  unfold proves at he
  split at he
  · simp [SX.den, he]
  · rename_i f x
    split at he
    · split at he
      · rename_i l u hl hu
        have b1 := (B).1 hl
        have b2 := (B).2 hu
        cases h1 : decide (-9223372036854775808 ≤ l)
        · rw [h1] at he; cases he
        rw [h1] at he
        have q1 := of_decide_eq_true h1
        have q2 := of_decide_eq_true he
        show (decide (IntKind.i64.min ≤ (x.den S ρ).toInt) && decide ((x.den S ρ).toInt ≤ IntKind.i64.max)) = true
        rw [Bool.and_eq_true]
        refine ⟨decide_eq_true ?_, decide_eq_true ?_⟩
        · show (-(2 ^ 63) : Int) ≤ _; omega
        · show _ ≤ (2 ^ 63 - 1 : Int); omega
      · cases he
    · cases he
  · rename_i f a b
    split at he
    · split at he
      · rename_i u l hu hl
        have b1 := (B).2 hu
        have b2 := (B).1 hl
        have := of_decide_eq_true he
        show decide ((a.den S ρ).toInt ≤ (b.den S ρ).toInt) = true
        exact decide_eq_true (by omega)
      · cases he
    · cases hf : fallsBy a b
      · rw [hf] at he
        simp only [cond_false] at he
        split at he
        · rename_i u l hu hl
          have b1 := (B).2 hu
          have b2 := (B).1 hl
          have := of_decide_eq_true he
          show decide ((a.den S ρ).toInt < (b.den S ρ).toInt) = true
          exact decide_eq_true (by omega)
        · cases he
      · show decide ((a.den S ρ).toInt < (b.den S ρ).toInt) = true
        exact decide_eq_true (fallsBy_ok S hf)
    · cases he
  · cases he
theorem allB_ok {c : Int} : ∀ {l : List UInt8}, allB c l = true → ∀ x ∈ l, ((x.toNat : Nat) : Int) = c
  | [], _, x, hx => nomatch hx
  | y :: l, h, x, hx => by
    simp only [allB] at h
    cases h1 : ibq (.ofNat y.toNat) c
    · rw [h1] at h; cases h
    · rw [h1] at h
      rcases List.mem_cons.1 hx with rfl | hx
      · exact ibq_eq h1
      · exact allB_ok h x hx
theorem absurdE_ok {ρ : Env G} {lo hi : LB} (ho : LBOk (loV ρ) lo) (hh : LBOk (hiV ρ) hi) {e : SX} (he : absurdE lo hi e = true) : ¬ (e.den S ρ).toProp := by
  have B := @bnd_ok G S ρ lo hi ho.2 hh.2
  unfold absurdE at he
  split at he
  · rename_i b; cases b <;> simp [SX.den] at he ⊢
  · rename_i f x
    split at he
    · rename_i l i c
      split at he
      · rename_i a b hl hu
        have b1 := (B).1 hl
        have b2 := (B).2 hu
        cases h1 : Nat.blt b l.length
        · rw [h1] at he; cases he
        rw [h1] at he
        simp only [cond_true] at he
        rw [Nat.blt_eq] at h1
        have c1 : (Int.ofNat a : Int) = (a : Int) := rfl
        have c2 : (Int.ofNat b : Int) = (b : Int) := rfl
        have hlt : (i.den S ρ).toInt.toNat < l.length := by omega
        have hval : ((((l.getD (i.den S ρ).toInt.toNat 0).toNat : Nat) : Int)) = c := by
          apply allB_ok he
          rw [List.getD_eq_getElem?_getD, List.getElem?_eq_getElem hlt]
          apply List.mem_iff_getElem?.2
          refine ⟨(i.den S ρ).toInt.toNat - a, ?_⟩
          rw [List.getElem?_take_of_lt (by omega), List.getElem?_drop, show a + ((i.den S ρ).toInt.toNat - a) = (i.den S ρ).toInt.toNat by omega, List.getElem?_eq_getElem hlt]
          rfl
        intro hq
        have hq : (!((((l.getD (i.den S ρ).toInt.toNat 0).toNat : Nat) : Int) == c)) = true := hq
        rw [hval] at hq
        simp at hq
      · cases he
    · cases he
  · rename_i f a b
    split at he
    · split at he
      · rename_i l u hl hu
        have b1 := (B).1 hl
        have b2 := (B).2 hu
        have := of_decide_eq_true he
        intro hq
        have hq : decide ((a.den S ρ).toInt ≤ (b.den S ρ).toInt) = true := hq
        have := of_decide_eq_true hq
        omega
      · cases he
    · split at he
      · rename_i l u hl hu
        have b1 := (B).1 hl
        have b2 := (B).2 hu
        have := of_decide_eq_true he
        intro hq
        have hq : decide ((a.den S ρ).toInt < (b.den S ρ).toInt) = true := hq
        have := of_decide_eq_true hq
        omega
      · cases he
    · cases he
  · cases he
theorem below_ok {v v' : Nat → Int} {n : Nat} (hv : ∀ i, i < n → v' i = v i) : ∀ {env : LB}, LBOk v env → LBOk v' (LB.below n env)
  | [], _ => ⟨List.Pairwise.nil, fun _ h => nomatch h⟩
  | (j, l) :: r, h => by
    simp only [LB.below]
    obtain ⟨hp, ho⟩ := h
    have hp' := List.pairwise_cons.1 hp
    cases h1 : Nat.blt j n
    · exact below_ok hv ⟨hp'.2, fun p hq => ho p (List.mem_cons_of_mem _ hq)⟩
    · rw [Nat.blt_eq] at h1
      refine ⟨hp, fun p hq => ?_⟩
      have hlt : p.1 < n := by
        rcases List.mem_cons.1 hq with rfl | hq
        · exact h1
        · have := hp'.1 p hq; simp only at this; omega
      rw [hv _ hlt]; exact ho p hq
theorem upd_low (ρ : Env G) (n : Nat) (u : U G) (i : Nat) (h : i < n) : ρ.upd n u i = ρ i := by unfold Env.upd; rw [if_neg (by omega)]
theorem VC.chk_ok : ∀ (v : VC) (lo hi : LB) (ρ : Env G), LBOk (loV ρ) lo → LBOk (hiV ρ) hi → VC.chk lo hi v = true → v.den S ρ := by
  intro v
  induction v with
  | tt => intro _ _ _ _ _ _; trivial
  | ff n => intro _ _ _ _ _ h; cases h
  | and a b iha ihb =>
    intro lo hi ρ ho hh h
    simp only [VC.chk] at h
    cases h1 : VC.chk lo hi a
    · rw [h1] at h; cases h
    · rw [h1] at h; exact ⟨iha lo hi ρ ho hh h1, ihb lo hi ρ ho hh h⟩
  | imp e a ih =>
    intro lo hi ρ ho hh h he
    simp only [VC.chk] at h
    cases h1 : absurdE lo hi e
    · rw [h1] at h; exact ih _ _ ρ (learnLo_ok S ho he) (learnHi_ok S hh he) h
    · exact absurd he (absurdE_ok S ho hh h1)
  | need e a ih =>
    intro lo hi ρ ho hh h
    simp only [VC.chk] at h
    cases h1 : proves lo hi e
    · rw [h1] at h; cases h
    · rw [h1] at h
      have he := proves_ok S ho hh h1
      exact ⟨he, ih _ _ ρ (learnLo_ok S ho he) (learnHi_ok S hh he) h⟩
  | all n s a ih =>
    intro lo hi ρ ho hh h
    have key : ∀ u : U G, a.den S (ρ.upd n u) := fun u => ih _ _ _ (below_ok (fun i hi => by simp only [loV, upd_low ρ n u i hi]) ho) (below_ok (fun i hi => by simp only [hiV, upd_low ρ n u i hi]) hh) h
    cases s <;> exact fun x => key _
theorem vc_chk {v : VC} (h : VC.chk [] [] v = true) (ρ : Env G) : v.den S ρ := VC.chk_ok S v [] [] ρ ⟨List.Pairwise.nil, fun _ h => nomatch h⟩ ⟨List.Pairwise.nil, fun _ h => nomatch h⟩ h
end
end Go.Eng
