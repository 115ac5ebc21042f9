/- Part of a proof. -/
import Derived.Test.YtidlngnhjffepaaGreatPs3
import Derived.ChangeSame
import Derived.Test.YtidlngnhjffepaaGreatProg
import Derived.KernelRfl
set_option linter.unusedSimpArgs false
set_option linter.unusedVariables false
set_option maxRecDepth 20000
namespace Go.Eng
noncomputable section
abbrev LB := List (Nat × Int)
def LB.get : LB -> Nat -> Option Int
 | [], _ => none
 | (j, l) :: r, i => bif Nat.beq j i then some l else LB.get r i
mutual
def ZmO (lo hi : LB) : SX -> Option Int
 | .int n => some n
 | .at s i => (match s with | .int => LB.get lo i | _ => none)
 | .f1 f _ => (match f with | 30 | 31 | 32 | 33 => some 0 | _ => none)
 | .f2 f a b => (match f with
  | 40 => (match ZmO lo hi a, ZmO lo hi b with | some x, some y => some (x + y) | _, _ => none)
  | 41 => (match ZmO lo hi a, ZmQ lo hi b with | some x, some y => some (x - y) | _, _ => none)
  | 111 => some 0
  | _ => none)
 | _ => none
def ZmQ (lo hi : LB) : SX -> Option Int
 | .int n => some n
 | .at s i => (match s with | .int => (match LB.get hi i with | some x => some (-x) | none => none) | _ => none)
 | .f2 f a b => (match f with
  | 40 => (match ZmQ lo hi a, ZmQ lo hi b with | some x, some y => some (x + y) | _, _ => none)
  | 41 => (match ZmQ lo hi a, ZmO lo hi b with | some x, some y => some (x - y) | _, _ => none)
  | 111 => some 255
  | _ => none)
 | _ => none
end
def LB.put (i : Nat) (c : Int) : LB -> LB
 | [] => [(i, c)]
 | (j, l) :: r => bif Nat.beq j i then (j, max l c) :: r else bif Nat.blt j i then (i, c) :: (j, l) :: r else (j, l) :: LB.put i c r
def Zju (lo : LB) (e : SX) : LB :=
 match e with
 | .f2 f (.int c) (.at .int i) => (match f with | 47 => LB.put i c lo | 46 => LB.put i (c + 1) lo | _ => lo)
 | _ => lo
def Zi5 (hi : LB) (e : SX) : LB :=
 match e with
 | .f2 f (.at .int i) (.int c) => (match f with | 47 => LB.put i (-c) hi | 46 => LB.put i (-(c - 1)) hi | _ => hi)
 | _ => hi
def ZjV : SX -> SX -> Bool
 | .f2 f x (.f2 g y (.int (.ofNat (_ + 1)))), .f2 f' x' y' => bif (bif Nat.beq f 41 then (bif Nat.beq g 40 then Nat.beq f' 41 else false) else false) then (bif SX.bq x x' then SX.bq y y' else false) else false
 | _, _ => false
def ZpY (lo hi : LB) : SX -> Bool
 | .bool b => b
 | .f1 f x => (match f with
  | 23 => (match ZmO lo hi x, ZmQ lo hi x with | some l, some u => bif decide (-9223372036854775808 <= l) then decide (u <= 9223372036854775807) else false | _, _ => false)
  | _ => false)
 | .f2 f a b => (match f with
  | 47 => (match ZmQ lo hi a, ZmO lo hi b with | some u, some l => decide (u <= l) | _, _ => false)
  | 46 => bif ZjV a b then true else (match ZmQ lo hi a, ZmO lo hi b with | some u, some l => decide (u < l) | _, _ => false)
  | _ => false)
 | _ => false
def allB (c : Int) : List UInt8 -> Bool
 | [] => true
 | x :: l => bif ibq (.ofNat x.toNat) c then allB c l else false
def Zja (lo hi : LB) : SX -> Bool
 | .bool b => !b
 | .f1 f x => (match f, x with
  | 2, .f2 45 (.f2 111 (.byt l) i) (.int c) => (match ZmO lo hi i, ZmQ lo hi i with
   | some (.ofNat a), some (.ofNat b) => bif Nat.blt b l.length then allB c ((l.drop a).take (b + 1 - a)) else false
   | _, _ => false)
  | _, _ => false)
 | .f2 f a b => (match f with
  | 47 => (match ZmO lo hi a, ZmQ lo hi b with | some l, some u => decide (u < l) | _, _ => false)
  | 46 => (match ZmO lo hi a, ZmQ lo hi b with | some l, some u => decide (u <= l) | _, _ => false)
  | _ => false)
 | _ => false
def LB.below (n : Nat) : LB -> LB
 | [] => []
 | (j, l) :: r => bif Nat.blt j n then (j, l) :: r else LB.below n r
def VC.chk : LB -> LB -> VC -> Bool
 | _, _, .tt => true
 | _, _, .ff _ => false
 | lo, hi, .and a b => bif VC.chk lo hi a then VC.chk lo hi b else false
 | lo, hi, .imp e a => bif Zja lo hi e then true else VC.chk (Zju lo e) (Zi5 hi e) a
 | lo, hi, .need e a => bif ZpY lo hi e then VC.chk (Zju lo e) (Zi5 hi e) a else false
 | lo, hi, .all n _ a => VC.chk (LB.below n lo) (LB.below n hi) a
section
variable {G : Type} (S : Sig G)
def Zpv (v : Nat -> Int) (env : LB) : Prop := env.Pairwise (fun a b => b.1 < a.1) /\ ∀ p ∈ env, p.2 <= v p.1
theorem LB.get_ok {v : Nat -> Int} : ∀ {env : LB}, (∀ p ∈ env, p.2 <= v p.1) -> ∀ {i : Nat} {l : Int}, LB.get env i = some l -> l <= v i
 | [], _, _, _, h => nomatch h
 | (j, l') :: r, ho, i, l, h => by
  simp only [LB.get] at h
  cases hb : Nat.beq j i
  ·rw [hb] at h; exact LB.get_ok (fun p hp => ho p (ZI6 _ hp)) h
  ·rw [hb] at h; cases h
   have := ho _ ZI8
   rw [ZI1 hb] at this; exact this
theorem ZA0 {ρ : Env G} {lo hi : LB} (ho : ∀ p ∈ lo, p.2 <= (ρ p.1).tI) (hh : ∀ p ∈ hi, p.2 <= -(ρ p.1).tI) : ∀ {e : SX},
  (∀ {l : Int}, ZmO lo hi e = some l -> l <= (e.den S ρ).tI) /\ (∀ {l : Int}, ZmQ lo hi e = some l -> (e.den S ρ).tI <= l) := by
 intro e
 induction e with
 | int n => exact ⟨fun h => (by simp only [ZmO] at h; cases h; exact ZJb _), fun h => (by simp only [ZmQ] at h; cases h; exact ZJb _)⟩
 | «at» s i =>
  refine ⟨fun h => ?_, fun h => ?_⟩
  ·simp only [ZmO] at h
   cases s <;> simp only [reduceCtorEq] at h
   exact LB.get_ok (v := fun i => (ρ i).tI) ho h
  ·simp only [ZmQ] at h
   cases s <;> simp only [reduceCtorEq] at h
   split at h
   ·rename_i x hx
    cases h
    have := LB.get_ok (v := fun i => -(ρ i).tI) hh hx
    simp only [SX.den, U.co, U.tIi]
    omega
   ·cases h
 | f1 f a _ =>
  refine ⟨fun h => ?_, fun h => ?_⟩
  ·simp only [ZmO] at h
   split at h <;> cases h
   all_goals simp only [SX.den, ap1, U.tIi]; omega
  ·simp only [ZmQ] at h; cases h
 | f2 f a b iha ihb =>
  refine ⟨fun h => ?_, fun h => ?_⟩
  ·simp only [ZmO] at h
   split at h
   ·split at h
    ·rename_i x y hx hy
     cases h
     have := iha.1 hx
     have := ihb.1 hy
     simp only [SX.den, ap2, U.tIi]; omega
    ·cases h
   ·split at h
    ·rename_i x y hx hy
     cases h
     have := iha.1 hx
     have := ihb.2 hy
     simp only [SX.den, ap2, U.tIi]; omega
    ·cases h
   ·cases h
    simp only [SX.den, ap2, U.tIi]; omega
   ·cases h
  ·simp only [ZmQ] at h
   split at h
   ·split at h
    ·rename_i x y hx hy
     cases h
     have := iha.2 hx
     have := ihb.2 hy
     simp only [SX.den, ap2, U.tIi]; omega
    ·cases h
   ·split at h
    ·rename_i x y hx hy
     cases h
     have := iha.2 hx
     have := ihb.1 hy
     simp only [SX.den, ap2, U.tIi]; omega
    ·cases h
   ·cases h
    simp only [SX.den, ap2, U.tIi]
    have := (((a.den S ρ).tB.getD (b.den S ρ).tI.toNat 0)).toNat_lt
    omega
   ·cases h
 | _ => exact ⟨fun h => (by simp only [ZmO] at h; cases h), fun h => (by simp only [ZmQ] at h; cases h)⟩
theorem LB.put_ok {ρ : Nat -> Int} {i : Nat} {c : Int} (hc : c <= ρ i) : ∀ {env : LB}, Zpv ρ env -> Zpv ρ (LB.put i c env) /\ ∀ p ∈ LB.put i c env, p.1 = i \/ ∃ q ∈ env, q.1 = p.1
 | [], _ => ⟨⟨List.pairwise_singleton _ _, fun p hp => by rw [LB.put, ZIT] at hp; subst hp; exact hc⟩, fun p hp => by rw [LB.put, ZIT] at hp; subst hp; exact .inl rfl⟩
 | (j, l) :: r, h => by
  obtain ⟨hp, ho⟩ := h
  rw [List.pairwise_cons] at hp
  simp only [LB.put]
  cases h1 : Nat.beq j i
  ·cases h2 : Nat.blt j i
   ·have ih := LB.put_ok hc (env := r) ⟨hp.2, fun p hq => ho p (ZI6 _ hq)⟩
    have hij : i < j := by
     have e1 : ¬ j < i := fun hh => by rw [<- Nat.blt_eq] at hh; rw [h2] at hh; cases hh
     have e2 : j ≠ i := fun hh => by rw [hh, Nat.beq_refl] at h1; cases h1
     omega
    simp only [cond_false]
    refine ⟨⟨List.pairwise_cons.2 ⟨fun p hq => ?_, ih.1.1⟩, fun p hq => ?_⟩, fun p hq => ?_⟩
    ·rcases ih.2 p hq with e | ⟨q, hq', e⟩
     ·rw [e]; exact hij
     ·rw [<- e]; exact hp.1 q hq'
    ·rcases List.mem_cons.1 hq with rfl | hq
     ·exact ho _ ZI8
     ·exact ih.1.2 p hq
    ·rcases List.mem_cons.1 hq with rfl | hq
     ·exact .inr ⟨_, ZI8, rfl⟩
     ·rcases ih.2 p hq with e | ⟨q, hq', e⟩
      ·exact .inl e
      ·exact .inr ⟨q, ZI6 _ hq', e⟩
   ·rw [Nat.blt_eq] at h2
    simp only [cond_true, cond_false]
    refine ⟨⟨List.pairwise_cons.2 ⟨fun p hq => ?_, List.pairwise_cons.2 hp⟩, fun p hq => ?_⟩, fun p hq => ?_⟩
    ·rcases List.mem_cons.1 hq with rfl | hq
     ·exact h2
     ·have := hp.1 p hq; omega
    ·rcases List.mem_cons.1 hq with rfl | hq
     ·exact hc
     ·exact ho p hq
    ·rcases List.mem_cons.1 hq with rfl | hq
     ·exact .inl rfl
     ·exact .inr ⟨p, hq, rfl⟩
  ·have e := ZI1 h1
   subst e
   simp only [cond_true]
   refine ⟨⟨List.pairwise_cons.2 ⟨fun p hq => hp.1 p hq, hp.2⟩, fun p hq => ?_⟩, fun p hq => ?_⟩
   ·rcases List.mem_cons.1 hq with rfl | hq
    ·have := ho (j, l) ZI8
     simp only at this ⊢; omega
    ·exact ho p (ZI6 _ hq)
   ·rcases List.mem_cons.1 hq with rfl | hq
    ·exact .inl rfl
    ·exact .inr ⟨p, ZI6 _ hq, rfl⟩
abbrev loV (ρ : Env G) : Nat -> Int := fun i => (ρ i).tI
abbrev hiV (ρ : Env G) : Nat -> Int := fun i => -(ρ i).tI
theorem ZiO {ρ : Env G} {env : LB} (h : Zpv (loV ρ) env) {e : SX} (he : (e.den S ρ).tP) : Zpv (loV ρ) (Zju env e) := by
 unfold Zju
 split
 ·rename_i f c i
  split
  ·have he : decide (c <= (ρ i).tI) = true := he
   exact (LB.put_ok (of_decide_eq_true he) h).1
  ·have he : decide (c < (ρ i).tI) = true := he
   have := of_decide_eq_true he
   exact (LB.put_ok (by simp only [loV]; omega) h).1
  ·exact h
 ·exact h
theorem Zix {ρ : Env G} {env : LB} (h : Zpv (hiV ρ) env) {e : SX} (he : (e.den S ρ).tP) : Zpv (hiV ρ) (Zi5 env e) := by
 unfold Zi5
 split
 ·rename_i f i c
  split
  ·have he : decide ((ρ i).tI <= c) = true := he
   have := of_decide_eq_true he
   exact (LB.put_ok (by simp only [hiV]; omega) h).1
  ·have he : decide ((ρ i).tI < c) = true := he
   have := of_decide_eq_true he
   exact (LB.put_ok (by simp only [hiV]; omega) h).1
  ·exact h
 ·exact h
theorem Zru {ρ : Env G} {a b : SX} (h : ZjV a b = true) : (a.den S ρ).tI < (b.den S ρ).tI := by
 unfold ZjV at h
 split at h
 ·rename_i f x g y n f' x' y'
  cases h1 : Nat.beq f 41
  ·rw [h1] at h; cases h
  cases h2 : Nat.beq g 40
  ·rw [h1, h2] at h; cases h
  cases h3 : Nat.beq f' 41
  ·rw [h1, h2, h3] at h; cases h
  cases h4 : SX.bq x x'
  ·rw [h1, h2, h3, h4] at h; cases h
  rw [h1, h2, h3, h4] at h
  have e1 := ZI1 h1
  have e2 := ZI1 h2
  have e3 := ZI1 h3
  have e4 := SX.bq_eq h4
  have e5 := SX.bq_eq h
  subst e1; subst e2; subst e3; subst e4; subst e5
  simp only [SX.den, ap2, U.tIi]
  have e6 : (Int.ofNat n.succ : Int) = (n : Int) + 1 := rfl
  rw [e6]
  omega
 ·cases h
theorem Zwn {ρ : Env G} {lo hi : LB} (ho : Zpv (loV ρ) lo) (hh : Zpv (hiV ρ) hi) {e : SX} (he : ZpY lo hi e = true) : (e.den S ρ).tP := by
 have B := @ZA0 G S ρ lo hi ho.2 hh.2
 unfold ZpY at he
 split at he
 ·simp [SX.den, he]
 ·rename_i f x
  split at he
  ·split at he
   ·rename_i l u hl hu
    have b1 := (B).1 hl
    have b2 := (B).2 hu
    cases h1 : decide (-9223372036854775808 <= l)
    ·rw [h1] at he; cases he
    rw [h1] at he
    have q1 := of_decide_eq_true h1
    have q2 := of_decide_eq_true he
    show (decide (IntKind.i64.min <= (x.den S ρ).tI) && decide ((x.den S ρ).tI <= IntKind.i64.max)) = true
    rw [Bool.and_eq_true]
    refine ⟨decide_eq_true ?_, decide_eq_true ?_⟩
    ·show (-(2 ^ 63) : Int) <= _; omega
    ·show _ <= (2 ^ 63 - 1 : Int); omega
   ·cases he
  ·cases he
 ·rename_i f a b
  split at he
  ·split at he
   ·rename_i u l hu hl
    have b1 := (B).2 hu
    have b2 := (B).1 hl
    have := of_decide_eq_true he
    show decide ((a.den S ρ).tI <= (b.den S ρ).tI) = true
    exact decide_eq_true (by omega)
   ·cases he
  ·cases hf : ZjV a b
   ·rw [hf] at he
    simp only [cond_false] at he
    split at he
    ·rename_i u l hu hl
     have b1 := (B).2 hu
     have b2 := (B).1 hl
     have := of_decide_eq_true he
     show decide ((a.den S ρ).tI < (b.den S ρ).tI) = true
     exact decide_eq_true (by omega)
    ·cases he
   ·show decide ((a.den S ρ).tI < (b.den S ρ).tI) = true
    exact decide_eq_true (Zru S hf)
  ·cases he
 ·cases he
theorem Zyo {c : Int} : ∀ {l : List UInt8}, allB c l = true -> ∀ x ∈ l, ((x.toNat : Nat) : Int) = c
 | [], _, x, hx => nomatch hx
 | y :: l, h, x, hx => by
  simp only [allB] at h
  cases h1 : ibq (.ofNat y.toNat) c
  ·rw [h1] at h; cases h
  ·rw [h1] at h
   rcases List.mem_cons.1 hx with rfl | hx
   ·exact Zfz h1
   ·exact Zyo h x hx
theorem ZrC {ρ : Env G} {lo hi : LB} (ho : Zpv (loV ρ) lo) (hh : Zpv (hiV ρ) hi) {e : SX} (he : Zja lo hi e = true) : ¬ (e.den S ρ).tP := by
 have B := @ZA0 G S ρ lo hi ho.2 hh.2
 unfold Zja at he
 split at he
 ·rename_i b; cases b <;> simp [SX.den] at he ⊢
 ·rename_i f x
  split at he
  ·rename_i l i c
   split at he
   ·rename_i a b hl hu
    have b1 := (B).1 hl
    have b2 := (B).2 hu
    cases h1 : Nat.blt b l.length
    ·rw [h1] at he; cases he
    rw [h1] at he
    simp only [cond_true] at he
    rw [Nat.blt_eq] at h1
    have c1 : (Int.ofNat a : Int) = (a : Int) := rfl
    have c2 : (Int.ofNat b : Int) = (b : Int) := rfl
    have hlt : (i.den S ρ).tI.toNat < l.length := by omega
    have hval : ((((l.getD (i.den S ρ).tI.toNat 0).toNat : Nat) : Int)) = c := by
     apply Zyo he
     rw [ZI0, ZI3 hlt]
     apply List.mem_iff_getElem?.2
     refine ⟨(i.den S ρ).tI.toNat - a, ?_⟩
     rw [List.getElem?_take_of_lt (by omega), ZJp, show a + ((i.den S ρ).tI.toNat - a) = (i.den S ρ).tI.toNat by omega, ZI3 hlt]
     rfl
    intro hq
    have hq : (!((((l.getD (i.den S ρ).tI.toNat 0).toNat : Nat) : Int) == c)) = true := hq
    rw [hval] at hq
    simp at hq
   ·cases he
  ·cases he
 ·rename_i f a b
  split at he
  ·split at he
   ·rename_i l u hl hu
    have b1 := (B).1 hl
    have b2 := (B).2 hu
    have := of_decide_eq_true he
    intro hq
    have hq : decide ((a.den S ρ).tI <= (b.den S ρ).tI) = true := hq
    have := of_decide_eq_true hq
    omega
   ·cases he
  ·split at he
   ·rename_i l u hl hu
    have b1 := (B).1 hl
    have b2 := (B).2 hu
    have := of_decide_eq_true he
    intro hq
    have hq : decide ((a.den S ρ).tI < (b.den S ρ).tI) = true := hq
    have := of_decide_eq_true hq
    omega
   ·cases he
  ·cases he
 ·cases he
theorem Zkk {v v' : Nat -> Int} {n : Nat} (hv : ∀ i, i < n -> v' i = v i) : ∀ {env : LB}, Zpv v env -> Zpv v' (LB.below n env)
 | [], _ => ⟨List.Pairwise.nil, fun _ h => nomatch h⟩
 | (j, l) :: r, h => by
  simp only [LB.below]
  obtain ⟨hp, ho⟩ := h
  have hp' := List.pairwise_cons.1 hp
  cases h1 : Nat.blt j n
  ·exact Zkk hv ⟨hp'.2, fun p hq => ho p (ZI6 _ hq)⟩
  ·rw [Nat.blt_eq] at h1
   refine ⟨hp, fun p hq => ?_⟩
   have hlt : p.1 < n := by
    rcases List.mem_cons.1 hq with rfl | hq
    ·exact h1
    ·have := hp'.1 p hq; simp only at this; omega
   rw [hv _ hlt]; exact ho p hq
theorem Zs8 (ρ : Env G) (n : Nat) (u : U G) (i : Nat) (h : i < n) : ρ.upd n u i = ρ i := by unfold Env.upd; rw [if_neg (by omega)]
theorem VC.chk_ok : ∀ (v : VC) (lo hi : LB) (ρ : Env G), Zpv (loV ρ) lo -> Zpv (hiV ρ) hi -> VC.chk lo hi v = true -> v.den S ρ := by
 intro v
 induction v with
 | tt => intro _ _ _ _ _ _; trivial
 | ff n => intro _ _ _ _ _ h; cases h
 | and a b iha ihb =>
  intro lo hi ρ ho hh h
  simp only [VC.chk] at h
  cases h1 : VC.chk lo hi a
  ·rw [h1] at h; cases h
  ·rw [h1] at h; exact ⟨iha lo hi ρ ho hh h1, ihb lo hi ρ ho hh h⟩
 | imp e a ih =>
  intro lo hi ρ ho hh h he
  simp only [VC.chk] at h
  cases h1 : Zja lo hi e
  ·rw [h1] at h; exact ih _ _ ρ (ZiO S ho he) (Zix S hh he) h
  ·exact absurd he (ZrC S ho hh h1)
 | need e a ih =>
  intro lo hi ρ ho hh h
  simp only [VC.chk] at h
  cases h1 : ZpY lo hi e
  ·rw [h1] at h; cases h
  ·rw [h1] at h
   have he := Zwn S ho hh h1
   exact ⟨he, ih _ _ ρ (ZiO S ho he) (Zix S hh he) h⟩
 | all n s a ih =>
  intro lo hi ρ ho hh h
  have key : ∀ u : U G, a.den S (ρ.upd n u) := fun u => ih _ _ _ (Zkk (fun i hi => by simp only [loV, Zs8 ρ n u i hi]) ho) (Zkk (fun i hi => by simp only [hiV, Zs8 ρ n u i hi]) hh) h
  cases s <;> exact fun x => key _
end
end
end Go.Eng
namespace Go.Eng
noncomputable section
section
variable {G : Type}
theorem p155 (a b : U G) : (ap2 155 a b).tP = (a = b) := by
 show (@decide (a = b) (Classical.propDecidable _) = true) = _
 exact propext ⟨fun h => @of_decide_eq_true _ (Classical.propDecidable _) h, fun h => @decide_eq_true _ (Classical.propDecidable _) h⟩
theorem ZHg (a : U G) : ap1 2 a = .bool (!a.toBool) := rfl
theorem ZtA (a : U G) : ap1 3 a = .int (if a.toBool then 1 else 0) := rfl
theorem ZIG (a : U G) : ap1 23 a = .bool (decide (IntKind.min .i64 <= a.tI) && decide (a.tI <= IntKind.max .i64)) := rfl
theorem Zlj (a : U G) : ap1 30 a = .int a.tN.length := rfl
theorem ZIK (a : U G) : ap1 31 a = .int a.tB.length := rfl
theorem Zdx (a : U G) : ap1 32 a = .int a.tR.length := rfl
theorem ZHJ (a : U G) : ap1 33 a = .int a.tM.length := rfl
theorem ZB8 (a : U G) : ap1 152 a = .ints [] := rfl
theorem ZDg (a : U G) : ap1 153 a = .bytes [] := rfl
theorem ZD1 (a : U G) : ap1 154 a = .rows [] := rfl
theorem ZFm (a : U G) : ap1 155 a = .amap [] := rfl
theorem ZH7 (a : U G) : ap1 35 a = .int (ZP a.tB : Nat) := rfl
theorem ZIv (a : U G) : ap1 36 a = .bytes (Zcw a.tI.toNat) := rfl
theorem ZHe (a b : U G) : ap2 40 a b = .int (a.tI + b.tI) := rfl
theorem ZIC (a b : U G) : ap2 41 a b = .int (a.tI - b.tI) := rfl
theorem ZHZ (a b : U G) : ap2 42 a b = .int (a.tI * b.tI) := rfl
theorem ZGO (a b : U G) : ap2 43 a b = .int (a.tI.tdiv b.tI) := rfl
theorem ZII (a b : U G) : ap2 44 a b = .int (a.tI.tmod b.tI) := rfl
theorem Zps (a b : U G) : ap2 45 a b = .bool (a.tI == b.tI) := rfl
theorem ZGA (a b : U G) : ap2 48 a b = .bool (a.toBool == b.toBool) := rfl
theorem ZGa (a b : U G) : ap2 49 a b = .bool (a.toBool && b.toBool) := rfl
theorem ZGG (a b : U G) : ap2 50 a b = .bool (a.toBool || b.toBool) := rfl
theorem ZEv (a b : U G) : ap2 110 a b = .int (a.tN.getD b.tI.toNat 0) := rfl
theorem ZBG (a b : U G) : ap2 111 a b = .int ((a.tB.getD b.tI.toNat 0).toNat : Nat) := rfl
theorem ZBQ (a b : U G) : ap2 113 a b = .ints (a.tN.take b.tI.toNat) := rfl
theorem ZEe (a b : U G) : ap2 114 a b = .bytes (a.tB.take b.tI.toNat) := rfl
theorem ZCP (a b : U G) : ap2 115 a b = .rows (a.tR.take b.tI.toNat) := rfl
theorem ZDn (a b : U G) : ap2 117 a b = .bytes (a.tB.drop b.tI.toNat) := rfl
theorem ZBJ (a b : U G) : ap2 120 a b = .bytes (a.tB ++ b.tB) := rfl
theorem ZB4 (a b : U G) : ap2 121 a b = .rows (a.tR ++ b.tR) := rfl
theorem ZEk (a b : U G) : ap2 122 a b = .ints (a.tI :: b.tN) := rfl
theorem ZD3 (a b : U G) : ap2 123 a b = .bytes (UInt8.ofNat a.tI.toNat :: b.tB) := rfl
theorem ZDD (a b : U G) : ap2 124 a b = .rows (a.tN :: b.tR) := rfl
theorem ZFq (a b : U G) : ap2 126 a b = .bytes (List.replicate a.tI.toNat (UInt8.ofNat b.tI.toNat)) := rfl
theorem ZDl (a b : U G) : ap2 141 a b = .bool (Zu a.tM b.tI) := rfl
theorem ZE0 (a b : U G) : ap2 143 a b = .amap (ZaQ a.tM b.tI) := rfl
theorem ZCd (a b : U G) : ap2 150 a b = .bool (a.tB == b.tB) := rfl
theorem ZBO (a b : U G) : ap2 153 a b = .bool (a.tN == b.tN) := rfl
theorem Zud (a b c : U G) : ap3 112 a b c = .int ((a.tR.getD b.tI.toNat []).getD c.tI.toNat 0) := rfl
theorem ZEj (a b c : U G) : ap3 131 a b c = .bytes (a.tB.set b.tI.toNat (UInt8.ofNat c.tI.toNat)) := rfl
theorem ZCk (a b c : U G) : ap3 132 a b c = .rows (a.tR.set b.tI.toNat c.tN) := rfl
theorem ZCH (a b c : U G) : ap3 140 a b c = .int (Zas a.tI b.tM c.tI) := rfl
theorem ZEN (a b c : U G) : ap3 142 a b c = .amap (YD a.tM b.tI c.tI) := rfl
def imin (x y : Int) : Int := if y < x then y else x
def imax (x y : Int) : Int := if y > x then y else x
theorem ZE4 {G : Type} (a b : U G) : ap2 51 a b = .int (imin a.tI b.tI) := rfl
theorem ZD5 {G : Type} (a b : U G) : ap2 52 a b = .int (imax a.tI b.tI) := rfl
def leB (x y : Int) : Bool := decide (x <= y)
def ltB (x y : Int) : Bool := decide (x < y)
theorem t47 {G : Type} (a b : U G) : (ap2 47 a b).toBool = leB a.tI b.tI := rfl
theorem t46 {G : Type} (a b : U G) : (ap2 46 a b).toBool = ltB a.tI b.tI := rfl
theorem Za {x y : Int} : leB x y = true ↔ x <= y := by unfold leB; simp
theorem ZBL {x y : Int} : ltB x y = true ↔ x < y := by unfold ltB; simp
theorem Zf4 {p : Prop} {i : Decidable p} : (@decide p i = true) = p := propext ⟨fun h => of_decide_eq_true h, fun h => decide_eq_true h⟩
theorem p45 {G : Type} (a b : U G) : (ap2 45 a b).tP = (a.tI = b.tI) := by simp [Zps]
theorem p153 {G : Type} (a b : U G) : (ap2 153 a b).tP = (a.tN = b.tN) := by simp [ZBO]
theorem p46 {G : Type} (a b : U G) : (ap2 46 a b).tP = (a.tI < b.tI) := Zf4
theorem p47 {G : Type} (a b : U G) : (ap2 47 a b).tP = (a.tI <= b.tI) := Zf4
theorem ZGb {G : Type} (a b : U G) : (ap1 2 (ap2 45 a b)).tP = ¬ (a.tI = b.tI) := by simp [ZHg, Zps]
theorem p50 {G : Type} (a b : U G) : (ap2 50 a b).tP = (a.toBool = true \/ b.toBool = true) := by simp [ZGG]
theorem b46 {G : Type} (a b : U G) : ((ap2 46 a b).toBool = true) = (a.tI < b.tI) := p46 a b
theorem b47 {G : Type} (a b : U G) : ((ap2 47 a b).toBool = true) = (a.tI <= b.tI) := p47 a b
theorem p23 {G : Type} (a : U G) : (ap1 23 a).tP = (IntKind.min .i64 <= a.tI /\ a.tI <= IntKind.max .i64) := by
 rw [ZIG, U.tPi, Bool.and_eq_true, Zf4, Zf4]
end
/-! ### Bits of words without sign, and the check sum -/
end
end Go.Eng
namespace Go.Eng
noncomputable section
open Go.RowKit (Below)
open Go.ChangeShapes Go.WideShapes
theorem Ze3 {H : Type} {enc : TypeId × Value -> H} {P : Program} {f : Func} {s : ChangeSpec} {apart fresh handsOn again : Bool} {W W' : World} {args : Array Value} {v : Value} {ds gs : List (DataW H)} {before pa pv : List MemPlace}
  (hW : DataW.Whole enc P f.params.toList s.vars apart W args.toList ds gs before)
  (hres : ∀ (b : Nat) (sp : Nat -> Bool) (hd : Bool), DataW.TrodAll enc P W' b sp hd f.resultTypes.toList (v.resultList f.resultTypes.size) (s.fn H (ds ++ gs)).results [])
  (hargs : ∀ sp : Nat -> Bool, (∀ p ∈ before, sp p.block = true) -> DataW.TrodAll enc P W' 0 sp true f.params.toList args.toList (s.fn H (ds ++ gs)).args pa)
  (hvars : ∀ sp : Nat -> Bool, (∀ p ∈ before, sp p.block = true) -> DataW.TrodVars enc P W' sp s.vars (s.fn H (ds ++ gs)).vars pv)
  (hps : before = pa ++ pv) (hb : Below W.heap.size W W')
  (hok : ∀ (j : Nat) (t : TypeId) (r : Value), f.resultTypes[j]? = some t -> (v.resultList f.resultTypes.size)[j]? = some r -> Value.okWide P W' .any 0 t r) :
  s.post enc P f apart fresh handsOn again W args v W' := by
 have hlt := fun p (hp : p ∈ before) => hW.lt p hp
 have hold : ∀ p ∈ before, (fun b => decide (b < W.heap.size)) p.block = true := fun p hp => by simpa using hlt p hp
 refine ⟨ds, gs, before, [], pa, pv, hW, hres _ _ _, hargs _ hold, hvars _ hold, World.keptBut_mono (fun p hp => ⟨hp, ?_⟩) (hb.frame (· ∈ before)), fun _ => ?_⟩
 ·rw [hps, ZJl] at hp; exact Or.inr hp
 ·obtain ⟨_, _, _, _, _, hz, hn⟩ := hW
  refine ⟨hok, _, _, ([] ++ pa) ++ pv, ⟨[] ++ pa, pv, trodAll_append (hargs _ (fun _ _ => rfl)) (hres _ _ _), hvars _ (fun _ _ => rfl), rfl, fun b off hp => ?_, fun ha => ?_⟩, fun p hp _ => ?_⟩
  ·have hp' : MemPlace.cell b off ∈ before := by rw [hps]; simpa using hp
   have h1 := hlt _ hp'
   rw [hb.frozen (p := ⟨b, off, none⟩) h1]
   exact hz b off hp'
  ·have := hn ha
   rw [hps] at this
   simpa using this
  ·rw [hps]; simpa using hp
def yes : Ctr := { ss := [], args := [], pre := [], reqs := [], ps := [], res := .one (.bool (.bool true)), post := [], facts := [] }
theorem Zp0 (w : World) : Sat w (Ze emp emp) w := by
 rw [emp_star]
 exact ⟨Hl.none, rfl, ⟨fun _ _ _ _ h => (by cases h), fun _ _ _ h => (by cases h), Below.refl _ _⟩⟩
end
end Go.Eng
namespace Go.Proofs.YtidlngnhjffepaaGreat
noncomputable section
open Go.Eng
def ai (n : Nat) : SX := .at .int n
def di (n : Nat) : SX := .at .int (1000000 + n)
def rA (n : Nat) : SX := .at .rows n
def iA (n : Nat) : SX := .at .ints n
def gA (n : Nat) : SX := .at .g n
def bA (n : Nat) : SX := .at .bytes n
def mA (n : Nat) : SX := .at .amap n
def qA (n : Nat) : SX := .at .bool n
def z0 : SX := .int 0
def nilI : SX := .f1 152 (.int 0)
def Zsr : SX := .f1 154 (.int 0)
def tk (x n : SX) : SX := .f2 115 x n
def Zr (x : SX) : SX := .f1 32 x
def Ze1 (x : SX) : SX := .f1 30 x
def eqS (a b : SX) : SX := .f2 155 a b
def usI (k : Nat) (a b c : SX) : SX := .us .int k a b c (.int 0)
def usB (k : Nat) (a b c : SX) : SX := .us .bool k a b c (.int 0)
def usR (k : Nat) (a b c : SX) : SX := .us .rows k a b c (.int 0)
def usN (k : Nat) (a b c : SX) : SX := .us .ints k a b c (.int 0)
def usG (k : Nat) (a b c : SX) : SX := .us .g k a b c (.int 0)
def usY (k : Nat) (a b c : SX) : SX := .us .bytes k a b c (.int 0)
def ZbN (a b : SX) : SX := .f2 124 a b
def Zz5 (n : SX) : SX := .f2 122 n nilI
def Zeq (a b : SX) : SX := .f2 122 a (.f2 122 b nilI)
def ints3 (a b c : SX) : SX := .f2 122 a (Zeq b c)
def Zk7 (a b c d : SX) : SX := .f2 122 a (ints3 b c d)
def ints5 (a b c d e : SX) : SX := .f2 122 a (Zk7 b c d e)
def ZhV (a b c d e f : SX) : SX := .f2 122 a (ints5 b c d e f)
def nt (x i : SX) (k : Nat) : SX := .f3 112 x i (.int (k : Nat))
def slC (b n c : SX) (s : Nat) : SC := .slice b z0 z0 z0 n c s
def sl1 (b n c : SX) : SC := slC b n c 1
def iE : En := .ints .i64
def iAr (b x c : SX) : Ch := .arr iE b x c
def rdI (j : Nat) (b : Nat) : Ch := .rd j iE (ai b) (ai (b + 1)) (iA (b + 4)) (ai (b + 5))
def g0 (r : List Int) : Int := r.getD 0 0
def g1 (r : List Int) : Int := r.getD 1 0
def g2 (r : List Int) : Int := r.getD 2 0
def slV (b n c : Int) : Value := .slice (if b < 0 then none else some ⟨b.toNat, 0, none⟩) n.toNat c.toNat
def ZN (p : Prop) : Bool := @decide p (Classical.propDecidable p)
theorem Zo {p : Prop} : (ZN p = true) = p := propext ⟨fun h => @of_decide_eq_true p (Classical.propDecidable p) h, fun h => @decide_eq_true p (Classical.propDecidable p) h⟩
def sig0 : Sig Unit := { dg := (), ch := fun _ => true, usr := fun _ _ _ _ _ => .int 0, prd := fun _ _ _ _ => emp }
def iAD (b : Int) (x : List Int) (c : Int) : HProp := ZcX sig0 iE (.int b) (.ints x) (.int c)
def rAD (e : En) (b : Int) (x : List (List Int)) (c : Int) : HProp := ZcX sig0 e (.int b) (.rows x) (.int c)
section
variable {G : Type}
theorem Zpf (S : Sig G) (ρ : Go.Eng.Env G) (b n c : SX) (s : Nat) : (slC b n c s).den S ρ = slV (b.den S ρ).tI (n.den S ρ).tI (c.den S ρ).tI := by
 simp [slC, SC.den, slV, z0, SX.den]
theorem Zbx (S : Sig G) (u : U G) : U.co S .int u = .int u.tI := rfl
theorem ZbI (S : Sig G) (u : U G) : U.co S .bool u = .bool u.toBool := rfl
theorem ZjR (S : Sig G) (u : U G) : U.co S .ints u = .ints u.tN := rfl
theorem ZgO (S : Sig G) (u : U G) : U.co S .rows u = .rows u.tR := rfl
theorem ZyT (S : Sig G) (u : U G) : U.co S .bytes u = .bytes u.tB := rfl
theorem ZtH (S : Sig G) (u : U G) : U.co S .amap u = .amap u.tM := rfl
theorem ZHr (S : Sig G) (x : G) : U.co S .g (.g x) = .g x := rfl
theorem i64lo : IntKind.min .i64 = -9223372036854775808 := rfl
theorem i64hi : IntKind.max .i64 = 9223372036854775807 := rfl
end
theorem ZfZ {α : Type} {R : List α} {d : α} {n j : Nat} (h : j < n) : (R.take n).getD j d = R.getD j d := by
 rw [ZI0, ZI0, List.getElem?_take_of_lt h]
theorem ZcZ {G : Type} (S : Sig G) {sp : Ctr} (H : ∀ (T : Sig G) (w0 : World) (ρ : Go.Eng.Env G) (h : Hl), T.usr = S.usr -> T.prd = S.prd -> T.dg = S.dg -> (∀ e ∈ sp.reqs, (e.den T ρ).tP) -> hpDen T ρ w0 sp.pre h →
  ∃ ρ', Ext sp.ss.length ρ ρ' /\ hpDen T ρ' w0 sp.post h /\ ∀ x ∈ sp.facts, (x.den T ρ').tP) : ZfQ S sp := by
 intro ch w0 F ρ w hr hs
 obtain ⟨x, ⟨a, b, d, rfl, ha, hb⟩, hi⟩ := hs
 have e : ∀ (e : SX) ρ, e.den (S.wc ch) ρ = e.den S ρ := fun e ρ => SX.den_wc S ρ ch e
 obtain ⟨ρ', h1, h2, h3⟩ := H (S.wc ch) w0 ρ a rfl rfl rfl (fun q hq => by rw [e]; exact hr q hq) ha
 exact ⟨ρ', h1, ⟨_, ⟨a, b, d, rfl, h2, hb⟩, hi⟩, fun q hq => by rw [<- e]; exact h3 q hq⟩
theorem ZiR {G : Type} {S : Sig G} {e : En} {b x c : U G} {h : Hl} (hd : ZcX S e b x c h) : (e.vals x).length <= c.tI.toNat * e.stride /\ 0 <= c.tI := by
 obtain ⟨sp, h1, h2, _⟩ := hd; exact ⟨by omega, h2⟩
theorem ZAE {G : Type} (fs : List Go.Eng.Fd) (x : List (List Int)) : ((En.rows fs).vals (.rows x : U G)).length = x.length * fs.length := by
 simp only [En.vals, U.tRi]
 induction x with
 | nil => simp
 | cons r x ih => rw [List.flatMap_cons, ZI5, ih, ZR, ZJk, Nat.add_mul]; omega
theorem ZA9 {fs : List Go.Eng.Fd} (hf : 0 < fs.length) {b c : Int} {x : List (List Int)} {h : Hl} (hd : rAD (.rows fs) b x c h) : (x.length : Int) <= c := by
 obtain ⟨h1, h2⟩ := ZiR hd
 rw [ZAE] at h1
 have : x.length <= c.toNat := Nat.le_of_mul_le_mul_right h1 hf
 have h2 : 0 <= c := h2
 omega
theorem ZH3 {b c : Int} {x : List Int} {h : Hl} (hd : iAD b x c h) : (x.length : Int) <= c := by
 obtain ⟨h1, h2⟩ := ZiR hd
 have e1 : (iE.vals (.ints x : U Unit)).length = x.length := by simp [iE, En.vals]
 have e2 : iE.stride = 1 := rfl
 rw [e1, e2] at h1
 have h2 : 0 <= c := h2
 have h1 : x.length <= c.toNat * 1 := h1
 omega
theorem ZiX (fs : List Go.Eng.Fd) : rAD (.rows fs) (-1) [] 0 = emp := by
 funext h
 have e0 : (En.rows fs).vals (.rows [] : U Unit) = [] := rfl
 refine propext ⟨fun hx => ?_, fun hx => ⟨[], by rw [e0]; simp, ZJb 0, .inr rfl, by rw [e0]; show row _ 0 [] true h; rw [Zgo]; exact hx⟩⟩
 obtain ⟨sp, l1, _, _, l4⟩ := hx
 have : sp = [] := ZJf (by rw [e0] at l1; simpa using l1)
 subst this
 rw [e0] at l4
 have l4 : row _ 0 [] true h := l4
 rw [Zgo] at l4
 exact l4
theorem ZwI : iAD (-1) [] 0 = emp := by
 funext h
 refine propext ⟨fun hx => ?_, fun hx => ⟨[], rfl, ZJb 0, .inr rfl, by show row _ 0 [] true h; rw [Zgo]; exact hx⟩⟩
 obtain ⟨sp, l1, _, _, l4⟩ := hx
 have : sp = [] := ZJf (by have : (iE.vals (.ints [] : U Unit)).length = 0 := rfl; rw [this] at l1; simpa using l1)
 subst this
 have l4 : row _ 0 [] true h := l4
 rw [Zgo] at l4
 exact l4
theorem Zr3 {A B B' : HProp} {h : Hl} (hs : Ze A B h) (f : ∀ h, B h -> B' h) : Ze A B' h := Zy (fun _ x => x) f h hs
theorem Zet {A B : HProp} {h : Hl} (hs : Ze A B h) : ∃ a b, A a /\ B b := let ⟨a, b, _, _, x, y⟩ := hs; ⟨a, b, x, y⟩
theorem ZqG {α : Type} {k : List α} {d : α} {i : Nat} (hi : i < k.length) : k = k.take i ++ ([k.getD i d] ++ k.drop (i + 1)) := by
 rw [List.singleton_append, ZI0, ZI3 hi, ZIV, <- List.drop_eq_getElem_cons hi, List.take_append_drop]
def emIC : Ctr := ⟨[], [], [], [], [], .tup [], [iAr (.int (-1)) nilI z0], []⟩
theorem ZIj {G : Type} (S : Sig G) : ZfQ S emIC := by
 refine ZcZ S fun T w0 ρ h hu hp hd hr hpre => ⟨ρ, Ext.refl _ _, ?_, by intro x hx; exact nomatch hx⟩
 have e1 : hpDen T ρ w0 emIC.pre = emp := rfl
 have e2 : hpDen T ρ w0 emIC.post = Ze (iAD (-1) [] 0) emp := rfl
 rw [e1] at hpre
 rw [e2, Zl, ZwI]; exact hpre
/-! ### What the run is told, piece by piece -/
section
variable {G : Type} (S : Sig G) (P : Program)
def Zkp : List (Nat × List Ctr) -> Prop
 | [] => True
 | p :: l => (∀ sp ∈ p.2, sp.wf = true /\ ZG S P p.1 sp) /\ Zkp l
def Zqa : List (Nat × List Ctr) -> Prop
 | [] => True
 | p :: l => (∀ sp ∈ p.2, sp.wf = true /\ ZmZ S P p.1 sp) /\ Zqa l
def AnnOk : Ann -> Prop
 | .ghost sp _ => sp.wf = true /\ ZfQ S sp
 | .inv _ => True
 | .split _ => True
 | .iff _ => True
 | .cut _ _ _ _ => True
def Zwq : List (Nat × Ann) -> Prop
 | [] => True
 | p :: l => AnnOk S p.2 /\ Zwq l
def Zqr : List (Nat × List (Nat × Ann)) -> Prop
 | [] => True
 | p :: l => Zwq S p.2 /\ Zqr l
variable {S} {P}
theorem Zkp.get {f : Nat} {sps : List Ctr} : ∀ {l : List (Nat × List Ctr)}, Zkp S P l -> ZT l f = some sps -> ∀ sp ∈ sps, sp.wf = true /\ ZG S P f sp
 | [], _, h => by cases h
 | (i, a) :: l, h1, h => by
  unfold ZT at h
  cases hb : Nat.beq i f
  ·rw [hb] at h; exact h1.2.get h
  ·rw [hb] at h; cases h; rw [<- ZI1 hb]; exact h1.1
theorem Zqa.get {f : Nat} {sps : List Ctr} : ∀ {l : List (Nat × List Ctr)}, Zqa S P l -> ZT l f = some sps -> ∀ sp ∈ sps, sp.wf = true /\ ZmZ S P f sp
 | [], _, h => by cases h
 | (i, a) :: l, h1, h => by
  unfold ZT at h
  cases hb : Nat.beq i f
  ·rw [hb] at h; exact h1.2.get h
  ·rw [hb] at h; cases h; rw [<- ZI1 hb]; exact h1.1
theorem Zwq.get {i : Nat} {sp : Ctr} {args : List Operand} : ∀ {l : List (Nat × Ann)}, Zwq S l -> (i, Ann.ghost sp args) ∈ l -> sp.wf = true /\ ZfQ S sp
 | [], _, h => by cases h
 | p :: l, h1, h => by
  rcases List.mem_cons.1 h with rfl | h
  ·exact h1.1
  ·exact h1.2.get h
theorem Zqr.get {f : Nat} {al : List (Nat × Ann)} : ∀ {l : List (Nat × List (Nat × Ann))}, Zqr S l -> ZT l f = some al -> Zwq S al
 | [], _, h => by cases h
 | (i, a) :: l, h1, h => by
  unfold ZT at h
  cases hb : Nat.beq i f
  ·rw [hb] at h; exact h1.2.get h
  ·rw [hb] at h; cases h; exact h1.1
theorem YC {C : Cx} (h1 : Zkp S P C.specs) (h2 : Zqr S C.anns) (h3 : Zqa S P C.exts) : Zss S P C :=
 ⟨fun f sps h => h1.get h, fun f l h i sp args hm => (h2.get h).get hm, fun f sps h => h3.get h⟩
theorem Zk {f : Nat} {sp : Ctr} (hw : sp.wf = true) (h : ZG S P f sp) : ∀ q ∈ [sp], q.wf = true /\ ZG S P f q := by
 intro q hq; rw [ZIT] at hq; subst hq; exact ⟨hw, h⟩
end
open Go.Eng
abbrev z : SX := .int 0
abbrev k (n : Int) : SX := .int n
abbrev e (a b : SX) : SX := .f2 45 a b
abbrev t (a b : SX) : SX := .f2 46 a b
abbrev l (a b : SX) : SX := .f2 47 a b
abbrev i (e : SX) (k : VC) : VC := .imp e k
abbrev n (e : SX) (k : VC) : VC := .need e k
abbrev u (n : Nat) (s : Srt) (k : VC) : VC := .all n s k
abbrev k0 : SX := .int 1099511627776
abbrev k1 : SX := .int 140737488355328
abbrev a (n : Nat) : SX := .at .int n
abbrev v (k : Nat) (x : SX) : SX := .us .int k x z z z
abbrev d (k : Nat) (x y : SX) : SX := .us .int k x y z z
abbrev x (k : Nat) (x y w : SX) : SX := .us .int k x y w z
abbrev q (n : Nat) : SX := .at .bool n
abbrev p (k : Nat) (x : SX) : SX := .us .bool k x z z z
abbrev c (k : Nat) (x y : SX) : SX := .us .bool k x y z z
abbrev y (k : Nat) (x y w : SX) : SX := .us .bool k x y w z
abbrev g (n : Nat) : SX := .at .g n
abbrev w (k : Nat) (x : SX) : SX := .us .g k x z z z
abbrev f (k : Nat) (x y : SX) : SX := .us .g k x y z z
abbrev h (k : Nat) (x y w : SX) : SX := .us .g k x y w z
abbrev b (n : Nat) : SX := .at .bytes n
abbrev j (k : Nat) (x : SX) : SX := .us .bytes k x z z z
abbrev wB (k : Nat) (x y : SX) : SX := .us .bytes k x y z z
abbrev hB0 (k : Nat) (x y w : SX) : SX := .us .bytes k x y w z
abbrev s (n : Nat) : SX := .at .ints n
abbrev o (k : Nat) (x : SX) : SX := .us .ints k x z z z
abbrev wN (k : Nat) (x y : SX) : SX := .us .ints k x y z z
abbrev hN (k : Nat) (x y w : SX) : SX := .us .ints k x y w z
abbrev r (n : Nat) : SX := .at .rows n
abbrev vR (k : Nat) (x : SX) : SX := .us .rows k x z z z
abbrev wR (k : Nat) (x y : SX) : SX := .us .rows k x y z z
abbrev hR0 (k : Nat) (x y w : SX) : SX := .us .rows k x y w z
abbrev m (n : Nat) : SX := .at .amap n
abbrev vM (k : Nat) (x : SX) : SX := .us .amap k x z z z
abbrev wM0 (k : Nat) (x y : SX) : SX := .us .amap k x y z z
abbrev hM (k : Nat) (x y w : SX) : SX := .us .amap k x y w z
abbrev sB := (And.intro @U.bool.injEq (And.intro @U.bytes.injEq (And.intro @U.int.injEq (And.intro @U.ints.injEq (And.intro @U.rows.injEq (And.intro @U.tQi (And.intro @U.tBi (And.intro @U.tIi (And.intro @U.tNi (And.intro @U.tMi (And.intro @U.tPi (And.intro @U.tRi (And.intro @ZB8 (And.intro @ZDg (And.intro @ZD1 (And.intro @ZFm (And.intro @ZHg (And.intro @Zlj (And.intro @ZIK (And.intro @Zdx (And.intro @ZHJ (And.intro @ZH7 (And.intro @ZIv (And.intro @ZEv (And.intro @ZBG (And.intro @ZBQ (And.intro @ZEe (And.intro @ZCP (And.intro @ZDn (And.intro @ZBJ (And.intro @ZB4 (And.intro @ZEk (And.intro @ZD3 (And.intro @ZDD (And.intro @ZFq (And.intro @ZDl (And.intro @ZE0 (And.intro @ZCd (And.intro @ZHe (And.intro @ZIC (And.intro @ZHZ (And.intro @ZGO (And.intro @Zps (And.intro @ZGA (And.intro @ZGa (And.intro @ZE4 (And.intro @ZD5 (And.intro @Zud (And.intro @ZEj (And.intro @ZCk (And.intro @ZCH (And.intro @ZEN (And.intro @b46 (And.intro @b47 (And.intro @ZbI (And.intro @ZyT (And.intro @ZHr (And.intro @Zbx (And.intro @ZjR (And.intro @ZtH (And.intro @ZgO (And.intro @i64hi (And.intro @i64lo (And.intro @Za (And.intro @ZBL (And.intro @p153 (And.intro @p155 (And.intro @p23 (And.intro @ZGb (And.intro @p45 (And.intro @p46 (And.intro @p47 (And.intro @p50 (And.intro @Zo (And.intro @t46 @t47)))))))))))))))))))))))))))))))))))))))))))))))))))))))))))))))))))))))))))
abbrev sC :=  @ZII
end
end Go.Proofs.YtidlngnhjffepaaGreat
namespace Go.Proofs.YtidlngnhjffepaaGreat
noncomputable section
open Go.Eng
abbrev Ent := List Int
def xk (r : Ent) : Int := r.getD 0 0
def xw (r : Ent) : Int := r.getD 1 0
def Yp (r : Ent) : List UInt8 := Zcw (r.getD 2 0).toNat
def Zbl (r : Ent) : List UInt8 := Zcw (r.getD 3 0).toNat
def Zdq (r : Ent) : Bool := !(r.getD 4 0 == 0)
def xt (r : Ent) : Int := r.getD 5 0
def xa (x : List Ent) (i : Nat) : Ent := x.getD i []
def b01 (c : Bool) : Int := if c = true then 1 else 0
theorem ZV {G : Type} (a : U G) : ap1 3 a = .int (b01 a.toBool) := rfl
theorem ZeW (c : Bool) : (!(b01 c == 0)) = c := by cases c <;> rfl
/-! ### The reference, over the entries ahead of a place -/
def YR (x : List Ent) (k w : Int) : Nat -> Int
 | 0 => -1
 | n + 1 => if 0 <= YR x k w n then YR x k w n else if xk (xa x n) = k /\ xw (xa x n) = w then n else -1
def ZbY (x : List Ent) (w : Int) : Nat -> Bool × Int
 | 0 => (false, -1)
 | n + 1 =>
  let s := ZbY x w n
  let r := xa x n
  if xk r = 1 /\ xw r = w then (true, s.2)
  else if (xk r = 5 \/ xk r = 6) /\ xw r = w then (false, s.2)
  else if xk r = 7 /\ s.1 = true then (false, (n : Int)) else s
def Zh7 (x : List Ent) (f a : Int) : Bool := ZN (0 <= f /\ ∀ i : Nat, f < i -> (i : Int) < a -> xk (xa x i) ≠ 1 /\ xk (xa x i) ≠ 2 /\ xk (xa x i) ≠ 7)
def ZFw (x : List Ent) (f a : Int) : Prop := ∀ i : Nat, f < i -> (i : Int) < a -> xk (xa x i) ≠ 1 /\ xk (xa x i) ≠ 2 /\ xk (xa x i) ≠ 7
def Zrt (x : List Ent) (n : Nat) : Bool :=
 let r := xa x n
 let o := ZbY x (xw r) n
 if xk r = 1 then decide (0 <= YR x 1 (xw r) n)
 else if xk r = 2 then decide (0 < xw r) && !o.1
 else if xk r = 3 \/ xk r = 4 \/ xk r = 6 then !o.1
 else if xk r = 5 then (!o.1 && !Zh7 x o.2 n) || decide (0 <= YR x 5 (xw r) n)
 else false
def Zvk (x : List Ent) : Nat -> Int
 | 0 => 0
 | n + 1 => if xk (xa x n) = 5 then xt (xa x n) else Zvk x n
def ZqY (x : List Ent) (n : Nat) : Bool := decide (xk (xa x n) = 5) && !decide (xt (xa x n) = Zvk x n + 1)
def ZfY (x : List Ent) : Nat -> Int × Int
 | 0 => (-1, 0)
 | n + 1 => if 0 <= (ZfY x n).1 then ZfY x n else if Zrt x n then (n, 1) else if ZqY x n then (n, 2) else (-1, 0)
def ZcA (r : Ent) : Bool :=
 let keyed := decide (xk r = 2) || decide (xk r = 3) || decide (xk r = 4)
 if xk r = 1 \/ xk r = 6 then decide (0 < xw r) && (Yp r == []) && (Zbl r == []) && !Zdq r && decide (xt r = 0)
 else if xk r = 2 then decide (0 <= xw r) && !(Yp r == []) && (Zdq r || (Zbl r == [])) && decide (xt r = 0)
 else if xk r = 3 then decide (0 < xw r) && !(Yp r == []) && Zdq r && decide (xt r = 0)
 else if xk r = 4 then decide (0 < xw r) && !(Yp r == []) && (Zbl r == []) && !Zdq r && decide (xt r = 0)
 else if xk r = 5 then decide (0 < xw r) && (Yp r == []) && (Zbl r == []) && !Zdq r && decide (1 <= xt r) && decide (xt r <= 1099511627776)
 else if xk r = 7 then decide (xw r = 0) && (Yp r == []) && (Zbl r == []) && !Zdq r && decide (xt r = 0)
 else false
def Zkv (x : List Ent) (n : Nat) : Bool := ZN (∀ i < n, ZcA (xa x i) = true)
def ZaM (x : List Ent) (w : Int) (k : List UInt8) : Nat -> Int
 | 0 => -1
 | n + 1 => if (xk (xa x n) = 3 \/ xk (xa x n) = 4) /\ xw (xa x n) = w /\ Yp (xa x n) = k then n else ZaM x w k n
def Zh8 (x : List Ent) (ks : List Int) (k : List UInt8) : Nat -> List UInt8 × Bool
 | 0 => ([], false)
 | n + 1 => let j := ZaM x (ks.getD n 0) k x.length
  if 0 <= j then (Zbl (xa x j.toNat), decide (xk (xa x j.toNat) = 3)) else Zh8 x ks k n
def Yo (x : List Ent) : Nat -> List Int
 | 0 => []
 | n + 1 => if xk (xa x n) = 5 then Yo x n ++ [xw (xa x n)] else Yo x n
def ZiW (x : List Ent) (a : Nat) (ks : List Int) : Bool × Int :=
 let r := xa x a
 let j := ZaM x (xw r) (Yp r) a
 if 0 <= j /\ 0 < xw r then ((Zdq r == decide (xk (xa x j.toNat) = 3)) && (Zbl r == Zbl (xa x j.toNat)), 3)
 else let v := Zh8 x ks (Yp r) ks.length; ((Zdq r == v.2) && (Zbl r == v.1), 4)
def Zj2 (x : List Ent) (n : Nat) : Nat :=
 if 0 < xw (xa x n) then (let c := YR x 5 (xw (xa x n)) x.length; if 0 <= c then c.toNat else n) else n
def ZeN (x : List Ent) : Nat -> Int × Int
 | 0 => (-1, 0)
 | n + 1 => if 0 <= (ZeN x n).1 then ZeN x n else if xk (xa x n) = 2 then
   (let t := ZiW x n (Yo x (Zj2 x n)); if t.1 then (-1, 0) else ((n : Int), t.2)) else (-1, 0)
def ZGC (x : List Ent) (j : Int) : List UInt8 := if 0 <= j then Zbl (xa x j.toNat) else []
def ZG6 (x : List Ent) (j : Int) : Int := if 0 <= j then xk (xa x j.toNat) else 0
def ZhS (x : List Ent) : Int := if 400 < x.length then 2 else if Zkv x x.length then 0 else 280
def Zne (x : List Ent) : Int × Int × Int :=
 if ZhS x ≠ 0 then (0, 0, ZhS x) else if 0 <= (ZfY x x.length).1 then ((ZfY x x.length).1, (ZfY x x.length).2, 0) else ((ZeN x x.length).1, (ZeN x x.length).2, 0)
/-! ### What the words speak of -/
structure Tx where
 who : Int
 beg : Int
 com : Int
 opn : Bool
 ch : List (Int × Int)
 rds : List Ent
 bad : List Int
def tx0 : Tx := ⟨0, 0, 0, false, [], [], []⟩
inductive GG where
 | tx (l : List Tx)
def gg0 : GG := .tx []
def Z8 : U GG -> List Tx
 | .g (.tx l) => l
 | _ => []
theorem ZaN (l : List Tx) : Z8 (.g (.tx l)) = l := rfl
theorem Yx (x : List Ent) (k w : Int) (n : Nat) : YR x k w (n + 1) = if 0 <= YR x k w n then YR x k w n else if xk (xa x n) = k /\ xw (xa x n) = w then (n : Int) else -1 := rfl
theorem Zdc (x : List Ent) (w : Int) (n : Nat) : ZbY x w (n + 1) = (if xk (xa x n) = 1 /\ xw (xa x n) = w then (true, (ZbY x w n).2)
  else if (xk (xa x n) = 5 \/ xk (xa x n) = 6) /\ xw (xa x n) = w then (false, (ZbY x w n).2)
  else if xk (xa x n) = 7 /\ (ZbY x w n).1 = true then (false, (n : Int)) else ZbY x w n) := rfl
theorem Zp1 {x : List Ent} {k w : Int} {n : Nat} (h : 0 <= YR x k w n) : ∀ {m : Nat}, n <= m -> YR x k w m = YR x k w n
 | 0, hm => by rw [Nat.le_zero.1 hm]
 | m + 1, hm => by
  rcases ZIU m n with hlt | hge
  ·rw [show m + 1 = n by omega]
  ·have := Zp1 h hge
   rw [Yx, if_pos (by rw [this]; exact h), this]
theorem ZfO (x : List Ent) (k w : Int) : ∀ n : Nat, -1 <= YR x k w n /\ YR x k w n < n /\ (0 <= YR x k w n -> xk (xa x (YR x k w n).toNat) = k /\ xw (xa x (YR x k w n).toNat) = w)
 | 0 => ⟨ZJb _, by show (-1 : Int) < 0; omega, fun h => absurd h (by show ¬ (0 : Int) <= -1; omega)⟩
 | n + 1 => by
  have ih := ZfO x k w n
  rw [Yx]
  split
  ·exact ⟨ih.1, by omega, ih.2.2⟩
  ·split
   ·rename_i h
    exact ⟨by omega, by omega, fun _ => by rw [ZI7]; exact h⟩
   ·exact ⟨ZJb _, by omega, fun h => absurd h (by omega)⟩
theorem Zij (x : List Ent) (w : Int) : ∀ n : Nat, -1 <= (ZbY x w n).2 /\ (ZbY x w n).2 < n
 | 0 => ⟨ZJb _, by show (-1 : Int) < 0; omega⟩
 | n + 1 => by
  have ih := Zij x w n
  rw [Zdc]
  split
  ·exact ⟨ih.1, by have := ih.2; show (ZbY x w n).2 < _; omega⟩
  ·split
   ·exact ⟨ih.1, by have := ih.2; show (ZbY x w n).2 < _; omega⟩
   ·split
    ·exact ⟨by show (-1 : Int) <= n; omega, by show (n : Int) < _; omega⟩
    ·exact ⟨ih.1, by have := ih.2; omega⟩
theorem ZF {p : Prop} (h : ¬ p) : ZN p = false := by
 cases e : ZN p
 ·rfl
 ·exact absurd ((Zo (p := p)).mp e) h
theorem ZE {p : Prop} (h : p) : ZN p = true := (Zo (p := p)).mpr h
theorem ZhB {x : List Ent} {f a : Int} : Zh7 x f a = (decide (0 <= f) && ZN (ZFw x f a)) := by
 unfold Zh7
 by_cases h1 : 0 <= f
 ·by_cases h2 : ZFw x f a
  ·rw [ZE ⟨h1, h2⟩, ZE h2]; simp [h1]
  ·rw [ZF (fun h => h2 h.2), ZF h2]; simp
 ·rw [ZF (fun h => h1 h.1)]; simp [h1]
theorem Zc7 (x : List Ent) (w : Int) (k : List UInt8) (n : Nat) : ZaM x w k (n + 1) = if (xk (xa x n) = 3 \/ xk (xa x n) = 4) /\ xw (xa x n) = w /\ Yp (xa x n) = k then (n : Int) else ZaM x w k n := rfl
theorem Zcs (x : List Ent) (n : Nat) : ZfY x (n + 1) = if 0 <= (ZfY x n).1 then ZfY x n else if Zrt x n then ((n : Int), 1) else if ZqY x n then ((n : Int), 2) else (-1, 0) := rfl
theorem Zjs {x : List Ent} {n : Nat} (h : 0 <= (ZfY x n).1) : ∀ {m : Nat}, n <= m -> ZfY x m = ZfY x n
 | 0, hm => by rw [Nat.le_zero.1 hm]
 | m + 1, hm => by
  rcases ZIU m n with hlt | hge
  ·rw [show m + 1 = n by omega]
  ·have := Zjs h hge
   rw [Zcs, if_pos (by rw [this]; exact h), this]
theorem Zf9 (x : List Ent) (n : Nat) : ZeN x (n + 1) = if 0 <= (ZeN x n).1 then ZeN x n else if xk (xa x n) = 2 then (if (ZiW x n (Yo x (Zj2 x n))).1 then (-1, 0) else ((n : Int), (ZiW x n (Yo x (Zj2 x n))).2)) else (-1, 0) := rfl
theorem Zpl {x : List Ent} {n : Nat} (h : 0 <= (ZeN x n).1) : ∀ {m : Nat}, n <= m -> ZeN x m = ZeN x n
 | 0, hm => by rw [Nat.le_zero.1 hm]
 | m + 1, hm => by
  rcases ZIU m n with hlt | hge
  ·rw [show m + 1 = n by omega]
  ·have := Zpl h hge
   rw [Zf9, if_pos (by rw [this]; exact h), this]
theorem ZEs {r : Ent} (h : ZcA r = true) (hk : xk r = 5) : 1 <= xt r /\ xt r <= 1099511627776 := by
 unfold ZcA at h
 simp [hk] at h
 omega
theorem ZBs {x : List Ent} : ∀ {n : Nat}, (∀ i < n, ZcA (xa x i) = true) -> 0 <= Zvk x n /\ Zvk x n <= 1099511627776
 | 0, _ => ⟨ZJb _, by show (0 : Int) <= 1099511627776; omega⟩
 | n + 1, h => by
  unfold Zvk
  split
  ·rename_i hk
   have := ZEs (h n (by omega)) hk
   omega
  ·exact ZBs fun i hi => h i (by omega)
theorem ZIc {x : List Ent} : ∀ {n : Nat}, ¬ 0 <= (ZfY x n).1 -> ZfY x n = (-1, 0)
 | 0, _ => rfl
 | n + 1, h => by
  rw [Zcs] at h ⊢
  split
  ·rename_i q; rw [if_pos q] at h; exact absurd q h
  ·rename_i q; rw [if_neg q] at h
   split
   ·rename_i r; rw [if_pos r] at h; exact absurd (show (0 : Int) <= n by omega) h
   ·rename_i r; rw [if_neg r] at h
    split
    ·rename_i t; rw [if_pos t] at h; exact absurd (show (0 : Int) <= n by omega) h
    ·rfl
theorem may_nr' (r : Ent) : ZcA [r.getD 0 0, r.getD 1 0, (ZP (Zcw (r.getD 2 0).toNat) : Nat), (ZP (Zcw (r.getD 3 0).toNat) : Nat), b01 (!r.getD 4 0 == 0), r.getD 5 0] = ZcA r := by
 unfold ZcA xk xw Yp Zbl Zdq xt
 simp only [List.getD_cons_zero, List.getD_cons_succ, ZI7, Zt, ZeW]
theorem Zip (x : List Ent) (n : Nat) : Zrt x n = if xk (xa x n) = 1 then decide (0 <= YR x 1 (xw (xa x n)) n)
 else if xk (xa x n) = 2 then decide (0 < xw (xa x n)) && !(ZbY x (xw (xa x n)) n).1
 else if xk (xa x n) = 3 \/ xk (xa x n) = 4 \/ xk (xa x n) = 6 then !(ZbY x (xw (xa x n)) n).1
 else if xk (xa x n) = 5 then (!(ZbY x (xw (xa x n)) n).1 && !Zh7 x (ZbY x (xw (xa x n)) n).2 n) || decide (0 <= YR x 5 (xw (xa x n)) n)
 else false := rfl
theorem Zgj (x : List Ent) (ks : List Int) (k : List UInt8) (n : Nat) : Zh8 x ks k (n + 1) = if 0 <= ZaM x (ks.getD n 0) k x.length then (Zbl (xa x (ZaM x (ks.getD n 0) k x.length).toNat), decide (xk (xa x (ZaM x (ks.getD n 0) k x.length).toNat) = 3)) else Zh8 x ks k n := rfl
theorem Zda (x : List Ent) (n : Nat) : Yo x (n + 1) = if xk (xa x n) = 5 then Yo x n ++ [xw (xa x n)] else Yo x n := rfl
theorem ZnT (x : List Ent) : ∀ n : Nat, (Yo x n).length <= n
 | 0 => ZIQ _
 | n + 1 => by
  have := ZnT x n
  rw [Zda]
  split
  ·rw [ZI5, ZIO]; omega
  ·omega
theorem Zxc (x : List Ent) (a : Nat) (ks : List Int) : ZiW x a ks = if 0 <= ZaM x (xw (xa x a)) (Yp (xa x a)) a /\ 0 < xw (xa x a) then
   ((Zdq (xa x a) == decide (xk (xa x (ZaM x (xw (xa x a)) (Yp (xa x a)) a).toNat) = 3)) && (Zbl (xa x a) == Zbl (xa x (ZaM x (xw (xa x a)) (Yp (xa x a)) a).toNat)), 3)
  else ((Zdq (xa x a) == (Zh8 x ks (Yp (xa x a)) ks.length).2) && (Zbl (xa x a) == (Zh8 x ks (Yp (xa x a)) ks.length).1), 4) := rfl
theorem Zgt (x : List Ent) (n : Nat) : Zj2 x n = if 0 < xw (xa x n) then (if 0 <= YR x 5 (xw (xa x n)) x.length then (YR x 5 (xw (xa x n)) x.length).toNat else n) else n := rfl
theorem ZAY {x : List Ent} : ∀ {n : Nat}, ¬ 0 <= (ZeN x n).1 -> ZeN x n = (-1, 0)
 | 0, _ => rfl
 | n + 1, h => by
  rw [Zf9] at h ⊢
  split
  ·rename_i q; rw [if_pos q] at h; exact absurd q h
  ·rename_i q; rw [if_neg q] at h
   split
   ·rename_i r; rw [if_pos r] at h
    split
    ·rfl
    ·rename_i t; rw [if_neg t] at h; exact absurd (show (0 : Int) <= n by omega) h
   ·rfl
structure RfSig (S : Sig GG) : Prop where
 u500 : ∀ a b c d, S.usr 500 a b c d = .int (YR a.tR b.tI c.tI d.tI.toNat)
 u501 : ∀ a b c d, S.usr 501 a b c d = .bool (ZbY a.tR b.tI c.tI.toNat).1
 u502 : ∀ a b c d, S.usr 502 a b c d = .int (ZbY a.tR b.tI c.tI.toNat).2
 u503 : ∀ a b c d, S.usr 503 a b c d = .bool (Zh7 a.tR b.tI c.tI)
 u504 : ∀ a b c d, S.usr 504 a b c d = .bool (ZN (ZFw a.tR b.tI c.tI))
 u505 : ∀ a b c d, S.usr 505 a b c d = .bool (Zrt a.tR b.tI.toNat)
 u506 : ∀ a b c d, S.usr 506 a b c d = .int (Zvk a.tR b.tI.toNat)
 u507 : ∀ a b c d, S.usr 507 a b c d = .bool (ZqY a.tR b.tI.toNat)
 u508 : ∀ a b c d, S.usr 508 a b c d = .int (ZfY a.tR b.tI.toNat).1
 u509 : ∀ a b c d, S.usr 509 a b c d = .int (ZfY a.tR b.tI.toNat).2
 u510 : ∀ a b c d, S.usr 510 a b c d = .bool (ZcA a.tN)
 u511 : ∀ a b c d, S.usr 511 a b c d = .bool (Zkv a.tR b.tI.toNat)
 u512 : ∀ a b c d, S.usr 512 a b c d = .int (ZaM a.tR b.tI c.tB d.tI.toNat)
 u513 : ∀ a b c d, S.usr 513 a b c d = .bytes (Zh8 a.tR b.tN c.tB d.tI.toNat).1
 u514 : ∀ a b c d, S.usr 514 a b c d = .bool (Zh8 a.tR b.tN c.tB d.tI.toNat).2
 u515 : ∀ a b c d, S.usr 515 a b c d = .ints (Yo a.tR b.tI.toNat)
 u516 : ∀ a b c d, S.usr 516 a b c d = .bool (ZiW a.tR b.tI.toNat c.tN).1
 u517 : ∀ a b c d, S.usr 517 a b c d = .int (ZiW a.tR b.tI.toNat c.tN).2
 u518 : ∀ a b c d, S.usr 518 a b c d = .int (ZeN a.tR b.tI.toNat).1
 u519 : ∀ a b c d, S.usr 519 a b c d = .int (ZeN a.tR b.tI.toNat).2
 u520 : ∀ a b c d, S.usr 520 a b c d = .int (Zne a.tR).1
 u521 : ∀ a b c d, S.usr 521 a b c d = .int (Zne a.tR).2.1
 u522 : ∀ a b c d, S.usr 522 a b c d = .int (Zne a.tR).2.2
 u524 : ∀ a b c d, S.usr 524 a b c d = .bytes (ZGC a.tR b.tI)
 u525 : ∀ a b c d, S.usr 525 a b c d = .int (ZG6 a.tR b.tI)
 u523 : ∀ a b c d, S.usr 523 a b c d = .int (ZhS a.tR)
theorem YA (a b : U GG) : (ap2 48 a b).tP = (a.toBool = b.toBool) := by
 apply propext
 simp only [ap2, U.tP, U.toBool, beq_iff_eq]
/-! ### Short names -/
def hF : List Go.Eng.Fd := [.int .i64, .int .i64, .str, .str, .bool, .int .i64]
def hE : En := .rows hF
def hS (b : Nat) : SC := .slice (ai b) (ai (b + 1)) z0 z0 (ai (b + 2)) (ai (b + 3)) 6
def hC (j b : Nat) : Ch := .rd j hE (ai b) (ai (b + 1)) (rA (b + 4)) (ai (b + 5))
def hQ (b : Nat) : List SX := [eLe z0 (ai (b + 2)), .f2 45 (ai (b + 2)) (Zr (rA (b + 4))), eLe (ai (b + 2)) (ai (b + 3)), eLe (ai (b + 2)) (.int 1099511627776)]
def hA : List Srt := [.int, .int, .int, .int, .rows, .int]
def ZpW : Ctr := ⟨hA ++ [.int, .int, .int], [.one (hS 0), .one (.int .i64 (ai 6)), .one (.int .i64 (ai 7)), .one (.int .i64 (ai 8))], [hC 0 0], hQ 0 ++ [eLe z0 (ai 8), eLe (ai 8) (ai 2)], [],
 .one (.int .i64 (.us .int 500 (rA 4) (ai 6) (ai 7) (ai 8))), [hC 0 0], []⟩
def firI : Inv := ⟨[.int], [(9, .one (.int .i64 (di 0)))], [], [eLe z0 (di 0), eLe (di 0) (ai 8), .f2 45 (.us .int 500 (rA 4) (ai 6) (ai 7) (di 0)) (.int (-1))], .f2 41 (ai 8) (di 0)⟩
def ZGf : Cx := { specs := [], anns := [(48, [(2, .inv firI)])] }
def Zt3 : Ctr := ⟨hA ++ [.int, .int], [.one (hS 0), .one (.int .i64 (ai 6)), .one (.int .i64 (ai 7))], [hC 0 0], hQ 0 ++ [eLe z0 (ai 7), eLe (ai 7) (ai 2)], [],
 .tup [(false, [.bool (usB 501 (rA 4) (ai 6) (ai 7))]), (false, [.int .i64 (usI 502 (rA 4) (ai 6) (ai 7))])], [hC 0 0], []⟩
def opnI : Inv := ⟨[.int], [(8, .one (.bool (usB 501 (rA 4) (ai 6) (di 0)))), (9, .one (.int .i64 (usI 502 (rA 4) (ai 6) (di 0)))), (10, .one (.int .i64 (di 0)))], [], [eLe z0 (di 0), eLe (di 0) (ai 7)], .f2 41 (ai 7) (di 0)⟩
def ZH1 : Cx := { specs := [], anns := [(78, [(4, .inv opnI)])] }
def ZvV : Ctr := ⟨hA ++ [.int, .int], [.one (hS 0), .one (.int .i64 (ai 6)), .one (.int .i64 (ai 7))], [hC 0 0], hQ 0 ++ [eLe (.int (-1)) (ai 6), eLt (ai 6) (ai 7), eLe (ai 7) (ai 2)], [.bool],
 .one (.bool (qA 8)), [hC 0 0], [.f2 48 (qA 8) (usB 503 (rA 4) (ai 6) (ai 7))]⟩
def latI : Inv := ⟨[.int], [(7, .one (.int .i64 (di 0)))], [], [eLt (ai 6) (di 0), eLe (di 0) (ai 7), usB 504 (rA 4) (ai 6) (di 0)], .f2 41 (ai 7) (di 0)⟩
def ZH0 : Cx := { specs := [], anns := [(79, [(2, .inv latI)])] }
def Ztw : Ctr := ⟨hA ++ [.int], [.one (hS 0), .one (.int .i64 (ai 6))], [hC 0 0], hQ 0 ++ [eLe z0 (ai 6), eLt (ai 6) (ai 2)], [.bool], .one (.bool (qA 7)), [hC 0 0], [.f2 48 (qA 7) (usB 505 (rA 4) (ai 6) z0)]⟩
def ZIf : Cx := { specs := [(78, [Zt3]), (48, [ZpW]), (79, [ZvV])], anns := [] }
def ZwO : Ctr := ⟨hA ++ [.int], [.one (hS 0), .one (.int .i64 (ai 6))], [hC 0 0], hQ 0 ++ [eLe z0 (ai 6), eLt (ai 6) (ai 2), usB 511 (rA 4) (ai 2) z0], [.bool], .one (.bool (qA 7)), [hC 0 0], [.f2 48 (qA 7) (usB 507 (rA 4) (ai 6) z0)]⟩
def wroI : Inv := ⟨[.int], [(5, .one (.int .i64 (usI 506 (rA 4) (di 0) z0))), (6, .one (.int .i64 (di 0)))], [], [eLe z0 (di 0), eLe (di 0) (ai 6)], .f2 41 (ai 6) (di 0)⟩
def ZIi : Cx := { specs := [], anns := [(60, [(5, .inv wroI)])] }
def ZtR : Ctr := ⟨hA, [.one (hS 0)], [hC 0 0], hQ 0 ++ [usB 511 (rA 4) (ai 2) z0], [], .tup [(false, [.int .i64 (usI 508 (rA 4) (ai 2) z0)]), (false, [.int .i64 (usI 509 (rA 4) (ai 2) z0)])], [hC 0 0], []⟩
def turI : Inv := ⟨[.int], [(4, .one (.int .i64 (di 0)))], [], [eLe z0 (di 0), eLe (di 0) (ai 2), .f2 45 (usI 508 (rA 4) (di 0) z0) (.int (-1))], .f2 41 (ai 2) (di 0)⟩
def ZG8 : Cx := { specs := [(59, [Ztw]), (60, [ZwO])], anns := [(29, [(2, .inv turI)])] }
def entX : SX := ZhV (ai 0) (ai 1) (.f1 35 (bA 2)) (.f1 35 (bA 3)) (.f1 3 (qA 4)) (ai 5)
def Zqn : Ctr := ⟨[.int, .int, .bytes, .bytes, .bool, .int], [.agg [.int .i64 (ai 0), .int .i64 (ai 1), .str (bA 2), .str (bA 3), .bool (qA 4), .int .i64 (ai 5)]], [], [], [.bool], .one (.bool (qA 6)), [], [.f2 48 (qA 6) (usB 510 entX z0 z0)]⟩
def ZIk : Cx := { specs := [], anns := [] }
def ZuM : Ctr := ⟨hA, [.one (hS 0)], [hC 0 0], hQ 0, [], .one (.int .i64 (usI 523 (rA 4) z0 z0)), [hC 0 0], []⟩
def chkI : Inv := ⟨[.int], [(3, .one (.int .i64 (di 0)))], [], [eLe z0 (di 0), eLe (di 0) (ai 2), usB 511 (rA 4) (di 0) z0], .f2 41 (ai 2) (di 0)⟩
def ZG0 : Cx := { specs := [(58, [Zqn])], anns := [(28, [(4, .inv chkI)])] }
def ZE2 : SX := e (.f3 112 (r 4) (a 9) z) (a 6)
def ZEh : SX := e (.f3 112 (r 4) (a 9) (k 1)) (a 7)
def ZCi : SX := .us .int 500 (r 4) (a 6) (a 7) (a 8)
def Zr2 : SX := .f2 40 (a 9) (k 1)
def ZCL : SX := .f1 23 Zr2
def ZCI : SX := .f2 41 (a 8) Zr2
def ZFk : SX := l z ZCI
def ZFj : SX := t ZCI (.f2 41 (a 8) (a 9))
def ZEW : SX := l z Zr2
def ZE9 : SX := l Zr2 (a 8)
def ZsL : SX := e (.us .int 500 (r 4) (a 6) (a 7) Zr2) (k (-1))
def ZFX : VC := i (l z (a 2)) (i (e (a 2) (.f1 32 (r 4))) (i (l (a 2) (a 3)) (i (l (a 2) k0) (i (l z (a 8)) (i (l (a 8) (a 2)) (n (e (x 500 (r 4) (a 6) (a 7)) (k (-1))) (u 9 .int (i (l z (a 9)) (i (l (a 9) (a 8)) (i (e (.us .int 500 (r 4) (a 6) (a 7) (a 9)) (k (-1))) (.and (i (t (a 9) (a 8)) (n (t (a 9) (a 2)) (n (t (a 9) (.f1 32 (r 4))) (.and (i ZE2 (.and (i ZEh (n (e ZCi (a 9)) .tt)) (i (.f1 2 ZEh) (n ZCL (n ZFk (n ZFj (n ZEW (n ZE9 (n ZsL .tt))))))))) (i (.f1 2 ZE2) (n ZCL (n ZFk (n ZFj (n ZEW (n ZE9 (n ZsL .tt))))))))))) (i (l (a 8) (a 9)) (n (e ZCi (k (-1))) .tt)))))))))))))
theorem ZHi : Zdt Tryz.prog ZGf 12 48 ZpW = ZFX := by kernel_rfl
def Zuw : SX := .f3 112 (r 4) (a 8) z
def ZBZ : SX := e Zuw (k 1)
def ZuN : SX := e (.f3 112 (r 4) (a 8) (k 1)) (a 6)
def Zol : SX := .f2 40 (a 8) (k 1)
def Zh0 : SX := .f1 23 Zol
def ZB5 : SX := .f2 41 (a 7) Zol
def ZhX : SX := l z ZB5
def Zh2 : SX := t ZB5 (.f2 41 (a 7) (a 8))
def Zh1 : SX := l z Zol
def ZhZ : SX := l Zol (a 7)
def ZsS : SX := x 502 (r 4) (a 6) Zol
def Zua : SX := x 502 (r 4) (a 6) (a 8)
def Zef : SX := e ZsS Zua
def Zpm : SX := y 501 (r 4) (a 6) Zol
def Zqm : SX := .f1 2 ZuN
def Zs9 : SX := e Zuw (k 5)
def ZuL : SX := .f1 2 Zs9
def ZwS : SX := e Zuw (k 6)
def Zx2 : SX := .f1 2 ZwS
def Zu8 : SX := e Zuw (k 7)
def Zlz : SX := .f1 2 Zu8
def Zl1 : SX := y 501 (r 4) (a 6) (a 8)
def Zio : SX := .f2 155 Zpm Zl1
def ZpI : SX := .f2 155 Zpm (.bool false)
def ZIA : VC := i (l z (a 2)) (i (e (a 2) (.f1 32 (r 4))) (i (l (a 2) (a 3)) (i (l (a 2) k0) (i (l z (a 7)) (i (l (a 7) (a 2)) (n (e (d 502 (r 4) (a 6)) (k (-1))) (n (.f2 155 (c 501 (r 4) (a 6)) (.bool false)) (u 8 .int (i (l z (a 8)) (i (l (a 8) (a 7)) (.and (i (t (a 8) (a 7)) (n (t (a 8) (a 2)) (n (t (a 8) (.f1 32 (r 4))) (.and (i ZBZ (.and (i ZuN (n Zh0 (n ZhX (n Zh2 (n Zh1 (n ZhZ (n Zef (n (.f2 155 Zpm (.bool true)) .tt)))))))) (i Zqm (.and (i ZuL (.and .tt (i Zx2 (.and .tt (i Zlz (n Zh0 (n ZhX (n Zh2 (n Zh1 (n ZhZ (n Zef (n Zio .tt)))))))))))) .tt)))) (i (.f1 2 ZBZ) (.and (i ZuL (.and (i ZwS (.and (i ZuN (n Zh0 (n ZhX (n Zh2 (n Zh1 (n ZhZ (n Zef (n ZpI .tt)))))))) (i Zqm (.and .tt (i Zlz (n Zh0 (n ZhX (n Zh2 (n Zh1 (n ZhZ (n Zef (n Zio .tt)))))))))))) (i Zx2 (.and (i Zu8 (.and (i Zl1 (n Zh0 (n ZhX (n Zh2 (n Zh1 (n ZhZ (n (e ZsS (a 8)) (n ZpI .tt)))))))) (i (.f1 2 Zl1) (n Zh0 (n ZhX (n Zh2 (n Zh1 (n ZhZ (n Zef (n Zio .tt)))))))))) (i Zlz (n Zh0 (n ZhX (n Zh2 (n Zh1 (n ZhZ (n Zef (n Zio .tt)))))))))))) (i Zs9 (.and (i ZuN (n Zh0 (n ZhX (n Zh2 (n Zh1 (n ZhZ (n Zef (n ZpI .tt)))))))) (i Zqm (.and .tt (i Zlz (n Zh0 (n ZhX (n Zh2 (n Zh1 (n ZhZ (n Zef (n Zio .tt)))))))))))))))))) (i (l (a 7) (a 8)) (n (e (x 502 (r 4) (a 6) (a 7)) Zua) (n (.f2 155 (y 501 (r 4) (a 6) (a 7)) Zl1) .tt))))))))))))))
theorem ZGu : Zdt Tryz.prog ZH1 12 78 Zt3 = ZIA := by kernel_rfl
def ZtT : SX := .f2 40 (a 6) (k 1)
def ZyV : SX := .f3 112 (r 4) (a 8) z
def ZE8 : SX := e ZyV (k 1)
def ZER : SX := e ZyV (k 2)
def ZFs : SX := e ZyV (k 7)
def ZEB : SX := y 503 (r 4) (a 6) (a 7)
def ZAB : SX := .f2 48 (.bool false) ZEB
def Zrz : SX := .f2 40 (a 8) (k 1)
def ZCc : SX := .f2 41 (a 7) Zrz
def ZHb : VC := i (l z (a 2)) (i (e (a 2) (.f1 32 (r 4))) (i (l (a 2) (a 3)) (i (l (a 2) k0) (i (l (k (-1)) (a 6)) (i (t (a 6) (a 7)) (i (l (a 7) (a 2)) (n (.f1 23 ZtT) (n (t (a 6) ZtT) (n (l ZtT (a 7)) (n (y 504 (r 4) (a 6) ZtT) (u 8 .int (i (t (a 6) (a 8)) (i (l (a 8) (a 7)) (i (y 504 (r 4) (a 6) (a 8)) (.and (i (t (a 8) (a 7)) (n (l z (a 8)) (n (t (a 8) (a 2)) (n (t (a 8) (.f1 32 (r 4))) (.and (i (.f1 2 ZE8) (.and (i (.f1 2 ZER) (.and (i ZFs (n ZAB .tt)) (i (.f1 2 ZFs) (n (.f1 23 Zrz) (n (l z ZCc) (n (t ZCc (.f2 41 (a 7) (a 8))) (n (t (a 6) Zrz) (n (l Zrz (a 7)) (n (y 504 (r 4) (a 6) Zrz) .tt))))))))) (i ZER (n ZAB .tt)))) (i ZE8 (n ZAB .tt))))))) (i (l (a 7) (a 8)) (n (.f2 48 (l z (a 6)) ZEB) .tt)))))))))))))))))
theorem ZFJ : Zdt Tryz.prog ZH0 12 79 ZvV = ZHb := by kernel_rfl
def Zpg : SX := .f3 112 (r 4) (a 6) z
def ZBX : SX := e Zpg (k 1)
def ZoK : SX := .f3 112 (r 4) (a 6) (k 1)
def ZrG : SX := c 505 (r 4) (a 6)
def ZEJ : SX := e Zpg (k 2)
def Zz0 : SX := .f1 2 (y 501 (r 4) ZoK (a 6))
def ZsK : SX := .f2 48 Zz0 ZrG
def ZC9 : SX := .f2 48 (.bool false) ZrG
def ZAr : SX := e Zpg (k 3)
def ZAP : SX := e Zpg (k 4)
def Zvh : SX := e Zpg (k 6)
def Zym : SX := e Zpg (k 5)
def ZpH : SX := x 502 (r 4) ZoK (a 6)
def ZwP : SX := .f2 48 (l z (.us .int 500 (r 4) (k 5) ZoK (a 6))) ZrG
def ZGs : VC := i (l z (a 2)) (i (e (a 2) (.f1 32 (r 4))) (i (l (a 2) (a 3)) (i (l (a 2) k0) (i (l z (a 6)) (i (t (a 6) (a 2)) (n (t (a 6) (.f1 32 (r 4))) (u 7 .int (i (l z (a 7)) (n (l (a 6) (a 2)) (.and (i ZBX (n (.f2 48 (l z (.us .int 500 (r 4) (k 1) ZoK (a 6))) ZrG) .tt)) (i (.f1 2 ZBX) (.and (i ZEJ (.and (i (t z ZoK) (n ZsK .tt)) (i (l ZoK z) (n ZC9 .tt)))) (i (.f1 2 ZEJ) (.and (i ZAr (.and (i ZAr (n ZsK .tt)) .tt)) (i (.f1 2 ZAr) (.and (i ZAP (.and (i ZAP (n ZsK .tt)) .tt)) (i (.f1 2 ZAP) (.and (i Zvh (n ZsK .tt)) (i (.f1 2 Zvh) (.and (i Zym (n (l (k (-1)) ZpH) (n (t ZpH (a 6)) (u 8 .bool (i (.f2 48 (q 8) (y 503 (r 4) ZpH (a 6))) (.and (i Zz0 (.and (i (.f1 2 (.f1 2 (q 8))) (n ZwP .tt)) (i (.f1 2 (q 8)) (n (.f2 48 (.bool true) ZrG) .tt)))) (i (.f1 2 Zz0) (n ZwP .tt)))))))) (i (.f1 2 Zym) (n ZC9 .tt))))))))))))))))))))))
theorem ZHX : Zdt Tryz.prog ZIf 12 59 Ztw = ZGs := by kernel_rfl
def ZEH : SX := e (.f3 112 (r 4) (a 6) z) (k 5)
def ZEu : SX := c 507 (r 4) (a 6)
def ZD0 : SX := e (.f3 112 (r 4) (a 7) z) (k 5)
def ZrI : SX := .f2 40 (a 7) (k 1)
def ZDK : SX := .f1 23 ZrI
def ZDj : SX := .f2 41 (a 6) ZrI
def ZEo : SX := l z ZDj
def ZCG : SX := t ZDj (.f2 41 (a 6) (a 7))
def ZFt : SX := l z ZrI
def ZCp : SX := l ZrI (a 6)
def Zw0 : SX := d 506 (r 4) ZrI
def ZvJ : SX := d 506 (r 4) (a 7)
def Zvm : SX := .f2 40 ZvJ (k 1)
def ZH2 : VC := i (l z (a 2)) (i (e (a 2) (.f1 32 (r 4))) (i (l (a 2) (a 3)) (i (l (a 2) k0) (i (l z (a 6)) (i (t (a 6) (a 2)) (i (c 511 (r 4) (a 2)) (n (t (a 6) (.f1 32 (r 4))) (.and (i (.f1 2 ZEH) (n (.f2 48 (.bool false) ZEu) .tt)) (i ZEH (n (e (v 506 (r 4)) z) (u 7 .int (i (l z (a 7)) (i (l (a 7) (a 6)) (.and (i (t (a 7) (a 6)) (n (t (a 7) (a 2)) (n (t (a 7) (.f1 32 (r 4))) (.and (i ZD0 (n ZDK (n ZEo (n ZCG (n ZFt (n ZCp (n (e Zw0 (.f3 112 (r 4) (a 7) (k 5))) .tt))))))) (i (.f1 2 ZD0) (n ZDK (n ZEo (n ZCG (n ZFt (n ZCp (n (e Zw0 ZvJ) .tt))))))))))) (i (l (a 6) (a 7)) (n (.f1 23 Zvm) (n (.f2 48 (.f1 2 (e (.f3 112 (r 4) (a 6) (k 5)) Zvm)) ZEu) .tt)))))))))))))))))
theorem ZIb : Zdt Tryz.prog ZIi 12 60 ZwO = ZH2 := by kernel_rfl
def ZAk : SX := d 509 (r 4) (a 2)
def ZFu : SX := d 508 (r 4) (a 2)
def ZEc : SX := e ZFu (a 6)
def ZrX : SX := .f2 40 (a 6) (k 1)
def ZEw : SX := .f2 41 (a 2) ZrX
def ZGQ : VC := i (l z (a 2)) (i (e (a 2) (.f1 32 (r 4))) (i (l (a 2) (a 3)) (i (l (a 2) k0) (i (c 511 (r 4) (a 2)) (n (e (v 508 (r 4)) (k (-1))) (u 6 .int (i (l z (a 6)) (i (l (a 6) (a 2)) (i (e (d 508 (r 4) (a 6)) (k (-1))) (.and (i (t (a 6) (a 2)) (u 7 .bool (i (.f2 48 (q 7) (c 505 (r 4) (a 6))) (.and (i (q 7) (n (e ZAk (k 1)) (n ZEc .tt))) (i (.f1 2 (q 7)) (u 8 .bool (i (.f2 48 (q 8) (c 507 (r 4) (a 6))) (.and (i (q 8) (n (e ZAk (k 2)) (n ZEc .tt))) (i (.f1 2 (q 8)) (n (.f1 23 ZrX) (n (l z ZEw) (n (t ZEw (.f2 41 (a 2) (a 6))) (n (l z ZrX) (n (l ZrX (a 2)) (n (e (d 508 (r 4) ZrX) (k (-1))) .tt))))))))))))))) (i (l (a 2) (a 6)) (n (e ZAk z) (n (e ZFu (k (-1))) .tt)))))))))))))
theorem ZIH : Zdt Tryz.prog ZG8 12 29 ZtR = ZGQ := by kernel_rfl
def ZyI : SX := e (a 0) (k 1)
def Znk : SX := e (a 0) (k 2)
def ZeI : SX := .f1 2 Znk
def ZyY : SX := e (a 0) (k 3)
def ZoT : SX := .f1 2 ZyY
def Zzl : SX := e (a 0) (k 4)
def Zsh : SX := .f1 2 Zzl
def Zkh : SX := t (a 1) z
def ZzK : SX := p 510 (.f2 122 (a 0) (.f2 122 (a 1) (.f2 122 (.f1 35 (b 2)) (.f2 122 (.f1 35 (b 3)) (.f2 122 (.f1 3 (q 4)) (.f2 122 (a 5) (.f1 152 z)))))))
def ZaV : SX := .f2 48 (.bool false) ZzK
def Zel : SX := l z (a 1)
def ZfB : SX := .f2 150 (b 2) (.byt [])
def Zrk : SX := .f2 150 (b 3) (.byt [])
def Zvo : SX := .f2 48 (q 4) (.bool false)
def Zp5 : SX := e (a 5) z
def ZtW : SX := .f2 49 Zrk (.f2 49 Zvo Zp5)
def Zlw : SX := .f2 49 ZfB ZtW
def Zp6 : SX := e (a 0) (k 7)
def Zhm : SX := .f1 2 Zp6
def ZiT : SX := .f2 48 (l (k 1) (a 1)) ZzK
def Zwe : SX := .f1 2 Zlw
def Zyr : SX := e (a 0) (k 6)
def ZkR : SX := .f1 2 ZfB
def ZkC : SX := .f2 150 (b 2) (b 2)
def Ztm : SX := .f2 150 (b 3) (b 3)
def Ztv : SX := .f2 49 (.f2 48 (q 4) (q 4)) Zp5
def ZvH : SX := .f2 49 ZkC (.f2 49 Ztm Ztv)
def Zpk : SX := .f2 48 (.bool true) ZzK
def ZvS : SX := .f2 49 ZkC (.f2 49 Zrk Ztv)
def ZtD : SX := .f2 49 ZkC (.f2 49 Ztm (.f2 49 (.f2 48 (q 4) (.bool true)) Zp5))
def Zvz : SX := .f2 49 ZkC ZtW
def Zsw : SX := e (a 0) (k 5)
def ZxD : SX := .f2 49 ZfB (.f2 49 Zrk Zvo)
def Zxh : SX := .f2 49 (e (a 1) z) Zlw
def ZHk : VC := u 6 .int (i (l z (a 6)) (u 7 .int (i (l z (a 7)) (.and (i ZyI (.and (i ZyI (.and (i ZeI (.and (i ZoT (.and .tt (i Zsh (.and (i Zkh (n ZaV .tt)) (i Zel (.and (i ZeI (.and (i Zlw (.and (i Zhm (n ZiT .tt)) .tt)) (i Zwe (n ZaV .tt)))) .tt)))))) .tt)) .tt)) .tt)) (i (.f1 2 ZyI) (.and (i Zyr (.and (i ZeI (.and (i ZoT (.and .tt (i Zsh (.and (i Zkh (n ZaV .tt)) (i Zel (.and (i ZeI (.and (i Zlw (.and (i Zhm (n ZiT .tt)) .tt)) (i Zwe (n ZaV .tt)))) .tt)))))) .tt)) .tt)) (i (.f1 2 Zyr) (.and (i Znk (.and (i (q 4) (.and .tt (i Znk (.and (i ZkR (.and (i Zkh (n ZaV .tt)) (i Zel (.and .tt (i Znk (.and (i ZvH (n Zpk .tt)) (i (.f1 2 ZvH) (n ZaV .tt)))))))) (i ZfB (n ZaV .tt)))))) (i (.f1 2 (q 4)) (.and .tt (i Znk (.and (i ZkR (.and (i Zkh (n ZaV .tt)) (i Zel (.and .tt (i Znk (.and (i ZvS (n Zpk .tt)) (i (.f1 2 ZvS) (n ZaV .tt)))))))) (i ZfB (n ZaV .tt)))))))) (i ZeI (.and (i ZyY (.and (i ZeI (.and .tt (i ZyY (.and (i ZkR (.and (i Zkh (n ZaV .tt)) (i Zel (.and (i ZeI (.and (i ZtD (.and (i Zhm (n ZiT .tt)) .tt)) (i (.f1 2 ZtD) (n ZaV .tt)))) .tt)))) (i ZfB (n ZaV .tt)))))) .tt)) (i ZoT (.and (i Zzl (.and (i ZeI (.and (i ZoT (.and (i Zzl (.and (i ZkR (.and (i Zkh (n ZaV .tt)) (i Zel (.and (i ZeI (.and (i Zvz (.and (i Zhm (n ZiT .tt)) .tt)) (i (.f1 2 Zvz) (n ZaV .tt)))) .tt)))) (i ZfB (n ZaV .tt)))) .tt)) .tt)) .tt)) (i Zsh (.and (i Zsw (.and (i (l (k 1) (a 5)) (.and (i (t k0 (a 5)) (n ZaV .tt)) (i (l (a 5) k0) (.and (i ZeI (.and (i ZoT (.and .tt (i Zsh (.and (i Zkh (n ZaV .tt)) (i Zel (.and (i ZeI (.and (i ZxD (.and (i Zhm (n ZiT .tt)) .tt)) (i (.f1 2 ZxD) (n ZaV .tt)))) .tt)))))) .tt)) .tt)))) (i (t (a 5) (k 1)) (n ZaV .tt)))) (i (.f1 2 Zsw) (.and (i Zp6 (.and (i ZeI (.and (i ZoT (.and .tt (i Zsh (.and (i Zkh (n ZaV .tt)) (i Zel (.and (i ZeI (.and (i Zxh (.and .tt (i Zp6 (n Zpk .tt)))) (i (.f1 2 Zxh) (n ZaV .tt)))) .tt)))))) .tt)) .tt)) (i Zhm (n ZaV .tt))))))))))))))))))
theorem ZFT : Zdt Tryz.prog ZIk 12 58 Zqn = ZHk := by kernel_rfl
def ZzV : SX := v 523 (r 4)
def Zsn : SX := .f2 40 (a 6) (k 1)
def ZDm : SX := .f2 41 (a 2) Zsn
def ZGR : VC := i (l z (a 2)) (i (e (a 2) (.f1 32 (r 4))) (i (l (a 2) (a 3)) (i (l (a 2) k0) (.and (i (t (k 400) (a 2)) (n (e ZzV (k 2)) .tt)) (i (l (a 2) (k 400)) (n (p 511 (r 4)) (u 6 .int (i (l z (a 6)) (i (l (a 6) (a 2)) (i (c 511 (r 4) (a 6)) (.and (i (t (a 6) (a 2)) (n (t (a 6) (.f1 32 (r 4))) (u 7 .bool (i (.f2 48 (q 7) (p 510 (.f2 122 (.f3 112 (r 4) (a 6) z) (.f2 122 (.f3 112 (r 4) (a 6) (k 1)) (.f2 122 (.f1 35 (.f1 36 (.f3 112 (r 4) (a 6) (k 2)))) (.f2 122 (.f1 35 (.f1 36 (.f3 112 (r 4) (a 6) (k 3)))) (.f2 122 (.f1 3 (.f1 2 (e (.f3 112 (r 4) (a 6) (k 4)) z))) (.f2 122 (.f3 112 (r 4) (a 6) (k 5)) (.f1 152 z))))))))) (.and (i (.f1 2 (q 7)) (n (e ZzV (k 280)) .tt)) (i (.f1 2 (.f1 2 (q 7))) (n (.f1 23 Zsn) (n (l z ZDm) (n (t ZDm (.f2 41 (a 2) (a 6))) (n (l z Zsn) (n (l Zsn (a 2)) (n (c 511 (r 4) Zsn) .tt)))))))))))) (i (l (a 2) (a 6)) (n (e ZzV z) .tt)))))))))))))
theorem ZHQ : Zdt Tryz.prog ZG0 12 28 ZuM = ZGR := by kernel_rfl
theorem ZBu (S : Sig GG) (hS : RfSig S) : ZG S Tryz.prog 48 ZpW := by
 refine Zh S (C := ZGf) (fuel := 12) (YC trivial ⟨⟨trivial, trivial⟩, trivial⟩ trivial) fun ρ => ?_
 rw [ZHi]
 simp only [ZFX, ZE2, ZEh, ZCi, Zr2, ZCL, ZCI, ZFk, ZFj, ZEW, ZE9, ZsL, hS.u500, VC.den, SX.den, Env.upd, YA, ZV, beq_iff_eq, ZIZ, beq_eq_false_iff_ne, ne_eq, ZIY, ZIX, Int.reduceToNat, Nat.reduceEqDiff, reduceIte, sB, sC]
 generalize (ρ 4).tR = X
 generalize (ρ 2).tI = l
 generalize (ρ 8).tI = e
 intro h1 h2 h3 h4 h5 h6
 refine ⟨rfl, fun x hx0 hx1 hx2 => ?_⟩
 obtain ⟨n, rfl⟩ := ZIS hx0
 obtain ⟨m, rfl⟩ := ZIS h5
 have e1 : ((n : Int) + 1).toNat = n + 1 := by omega
 simp only [e1, ZI7] at hx2 ⊢
 have hs := Yx X (ρ 6).tI (ρ 7).tI n
 rw [hx2, if_neg (by omega)] at hs
 refine ⟨fun hlt => ⟨by omega, by omega, fun hk => ⟨fun hw => ⟨?_, trivial⟩, fun hw => ⟨by omega, by omega, by omega, by omega, by omega, ?_, trivial⟩⟩, fun hk => ⟨by omega, by omega, by omega, by omega, by omega, ?_, trivial⟩⟩, fun hge => ⟨?_, trivial⟩⟩
 ·rw [if_pos ⟨hk, hw⟩] at hs
  rw [Zp1 (n := n + 1) (by rw [hs]; omega) (by omega), hs]
 ·rw [hs, if_neg (fun h => hw h.2)]
 ·rw [hs, if_neg (fun h => hk h.1)]
 ·rw [show m = n by omega]; exact hx2
theorem ZFU (S : Sig GG) (hS : RfSig S) : ZG S Tryz.prog 78 Zt3 := by
 refine Zh S (C := ZH1) (fuel := 12) (YC trivial ⟨⟨trivial, trivial⟩, trivial⟩ trivial) fun ρ => ?_
 rw [ZGu]
 simp only [ZIA, Zuw, ZBZ, ZuN, Zol, Zh0, ZB5, ZhX, Zh2, Zh1, ZhZ, ZsS, Zua, Zef, Zpm, Zqm, Zs9, ZuL, ZwS, Zx2, Zu8, Zlz, Zl1, Zio, ZpI, hS.u501, hS.u502, VC.den, SX.den, Env.upd, YA, ZV, beq_iff_eq, ZIZ, beq_eq_false_iff_ne, ne_eq, ZIY, ZIX, Int.reduceToNat, Nat.reduceEqDiff, reduceIte, sB, sC]
 generalize (ρ 4).tR = X
 generalize (ρ 2).tI = l
 generalize (ρ 7).tI = e
 intro h1 h2 h3 h4 h5 h6
 refine ⟨rfl, rfl, fun x hx0 hx1 => ?_⟩
 obtain ⟨n, rfl⟩ := ZIS hx0
 have e1 : ((n : Int) + 1).toNat = n + 1 := by omega
 simp only [e1, ZI7]
 have hs := Zdc X (ρ 6).tI n
 have f1 : xk (xa X n) = (X.getD n []).getD 0 0 := rfl
 have f2 : xw (xa X n) = (X.getD n []).getD 1 0 := rfl
 rw [f1, f2] at hs
 generalize (X.getD n []).getD 0 0 = k at *
 generalize (X.getD n []).getD 1 0 = w at *
 generalize (ρ 6).tI = v at *
 rw [hs]
 refine ⟨fun hlt => ⟨by omega, by omega, ?_⟩, fun hge => ?_⟩
 ·repeat' (first | exact trivial | omega | apply And.intro | intro _)
  all_goals simp_all
  all_goals omega
 ·rw [show e = (n : Int) by omega, ZI7]
  repeat' (first | exact trivial | rfl | apply And.intro)
theorem ZG5 (S : Sig GG) (hS : RfSig S) : ZG S Tryz.prog 79 ZvV := by
 refine Zh S (C := ZH0) (fuel := 12) (YC trivial ⟨⟨trivial, trivial⟩, trivial⟩ trivial) fun ρ => ?_
 rw [ZFJ]
 simp only [ZHb, ZtT, ZyV, ZE8, ZER, ZFs, ZEB, ZAB, Zrz, ZCc, hS.u503, hS.u504, VC.den, SX.den, Env.upd, YA, ZV, beq_iff_eq, ZIZ, beq_eq_false_iff_ne, ne_eq, ZIY, ZIX, Int.reduceToNat, Nat.reduceEqDiff, reduceIte, sB, sC]
 generalize (ρ 4).tR = X
 generalize (ρ 2).tI = l
 generalize (ρ 6).tI = f
 generalize (ρ 7).tI = e
 intro h1 h2 h3 h4 h5 h6 h7
 rw [ZhB]
 refine ⟨by omega, by omega, by omega, fun i hi1 hi2 => by omega, fun x hx0 hx1 hx2 => ?_⟩
 obtain ⟨n, rfl⟩ := ZIS (show 0 <= x by omega)
 simp only [ZI7]
 have no : ∀ k, (X.getD n []).getD 0 0 = k -> (n : Int) < e -> (k = 1 \/ k = 2 \/ k = 7) -> false = (decide (0 <= f) && ZN (ZFw X f e)) := by
  intro k hk hn hq
  rw [ZF, Bool.and_false]
  intro hp
  have := hp n hx0 hn
  have hk : xk (xa X n) = k := hk
  rw [hk] at this
  omega
 refine ⟨fun hlt => ⟨by omega, by omega, by omega, fun q1 => ⟨fun q2 => ⟨fun q7 => ⟨no _ q7 hlt (by omega), trivial⟩, fun q7 => ⟨by omega, by omega, by omega, by omega, by omega, fun i hi1 hi2 => ?_, trivial⟩⟩, fun q2 => ⟨no _ q2 hlt (by omega), trivial⟩⟩, fun q1 => ⟨no _ q1 hlt (by omega), trivial⟩⟩, fun hge => ⟨?_, trivial⟩⟩
 ·rcases ZIU i n with h | h
  ·exact hx2 i hi1 (by omega)
  ·rw [show i = n by omega]; exact ⟨q1, q2, q7⟩
 ·have hp : ZFw X f e := fun i hi1 hi2 => hx2 i hi1 (by omega)
  rw [ZE hp, Bool.and_true]; rfl
theorem ZG3 (S : Sig GG) (hS : RfSig S) : ZG S Tryz.prog 59 Ztw := by
 refine Zh S (C := ZIf) (fuel := 12) (YC ⟨Zk (by decide) (ZFU S hS), Zk (by decide) (ZBu S hS), Zk (by decide) (ZG5 S hS), trivial⟩ trivial trivial) fun ρ => ?_
 rw [ZHX]
 simp only [ZGs, Zpg, ZBX, ZoK, ZrG, ZEJ, Zz0, ZsK, ZC9, ZAr, ZAP, Zvh, Zym, ZpH, ZwP, hS.u500, hS.u501, hS.u502, hS.u503, hS.u505, VC.den, SX.den, Env.upd, YA, ZV, beq_iff_eq, ZIZ, beq_eq_false_iff_ne, ne_eq, ZIY, ZIX, Int.reduceToNat, Nat.reduceEqDiff, reduceIte, sB, sC]
 generalize (ρ 4).tR = X
 generalize (ρ 2).tI = l
 generalize (ρ 6).tI = e
 intro h1 h2 h3 h4 h5 h6
 obtain ⟨n, rfl⟩ := ZIS h5
 simp only [ZI7]
 refine ⟨by omega, fun x hx => ⟨by omega, ?_⟩⟩
 have hl := Zij X (xw (xa X n)) n
 have hs := Zip X n
 unfold xk xw xa at hs hl
 generalize (X.getD n []).getD 0 0 = k at *
 generalize (X.getD n []).getD 1 0 = w at *
 generalize Zrt X n = o at *
 generalize YR X 1 w n = f1 at *
 generalize YR X 5 w n = f5 at *
 generalize ZbY X w n = q at *
 obtain ⟨q1, q2⟩ := q
 simp only at hs hl ⊢
 generalize Zh7 X q2 n = t at *
 unfold leB
 rw [hs]
 clear hs
 repeat' (first | exact trivial | apply And.intro | intro _)
 all_goals simp_all
 all_goals omega
theorem ZHp (S : Sig GG) (hS : RfSig S) : ZG S Tryz.prog 60 ZwO := by
 refine Zh S (C := ZIi) (fuel := 12) (YC trivial ⟨⟨trivial, trivial⟩, trivial⟩ trivial) fun ρ => ?_
 rw [ZIb]
 simp only [ZH2, ZEH, ZEu, ZD0, ZrI, ZDK, ZDj, ZEo, ZCG, ZFt, ZCp, Zw0, ZvJ, Zvm, hS.u506, hS.u507, hS.u511, VC.den, SX.den, Env.upd, YA, ZV, beq_iff_eq, ZIZ, beq_eq_false_iff_ne, ne_eq, ZIY, ZIX, Int.reduceToNat, Nat.reduceEqDiff, reduceIte, sB, sC]
 generalize (ρ 4).tR = X
 generalize (ρ 2).tI = l
 generalize (ρ 6).tI = e
 intro h1 h2 h3 h4 h5 h6 hc
 obtain ⟨m, rfl⟩ := ZIS h5
 have hc := (Zo (p := ∀ i < l.toNat, ZcA (xa X i) = true)).mp hc
 refine ⟨by omega, fun hk => ⟨?_, trivial⟩, fun hk => ⟨rfl, fun x hx0 hx1 => ?_⟩⟩
 ·unfold ZqY
  rw [ZI7, decide_eq_false (show ¬ xk (xa X m) = 5 from hk)]; rfl
 ·obtain ⟨n, rfl⟩ := ZIS hx0
  have e1 : ((n : Int) + 1).toNat = n + 1 := by omega
  have hb := ZBs (x := X) (n := n) fun i hi => hc i (by omega)
  simp only [e1, ZI7]
  refine ⟨fun hlt => ⟨by omega, by omega, fun q => ⟨by omega, by omega, by omega, by omega, by omega, ?_, trivial⟩, fun q => ⟨by omega, by omega, by omega, by omega, by omega, ?_, trivial⟩⟩, fun hge => ⟨by omega, ?_, trivial⟩⟩
  ·exact if_pos q
  ·exact if_neg q
  ·rw [show n = m by omega]
   unfold ZqY
   rw [decide_eq_true (show xk (xa X m) = 5 from hk), Bool.true_and]; rfl
theorem ZH4 (S : Sig GG) (hS : RfSig S) : ZG S Tryz.prog 29 ZtR := by
 refine Zh S (C := ZG8) (fuel := 12) (YC ⟨Zk (by decide) (ZG3 S hS), Zk (by decide) (ZHp S hS), trivial⟩ ⟨⟨trivial, trivial⟩, trivial⟩ trivial) fun ρ => ?_
 rw [ZIH]
 simp only [ZGQ, ZAk, ZFu, ZEc, ZrX, ZEw, hS.u505, hS.u507, hS.u508, hS.u509, hS.u511, VC.den, SX.den, Env.upd, YA, ZV, beq_iff_eq, ZIZ, beq_eq_false_iff_ne, ne_eq, ZIY, ZIX, Int.reduceToNat, Nat.reduceEqDiff, reduceIte, sB, sC]
 generalize (ρ 4).tR = X
 generalize (ρ 2).tI = l
 intro h1 h2 h3 h4 hc
 refine ⟨rfl, fun x hx0 hx1 hx2 => ?_⟩
 obtain ⟨n, rfl⟩ := ZIS hx0
 have e1 : ((n : Int) + 1).toNat = n + 1 := by omega
 simp only [e1, ZI7] at hx2 ⊢
 have hs := Zcs X n
 rw [if_neg (by rw [hx2]; omega)] at hs
 refine ⟨fun hlt o ho => ⟨fun q => ?_, fun q w hw => ⟨fun r => ?_, fun r => ⟨by omega, by omega, by omega, by omega, by omega, ?_, trivial⟩⟩⟩, fun hge => ?_⟩
 ·rw [<- ho, q, if_pos rfl] at hs
  have := Zjs (x := X) (n := n + 1) (by rw [hs]; show (0 : Int) <= n; omega) (m := l.toNat) (by omega)
  rw [this, hs]; exact ⟨rfl, rfl, trivial⟩
 ·rw [<- ho, q, if_neg (by simp), <- hw, r, if_pos rfl] at hs
  have := Zjs (x := X) (n := n + 1) (by rw [hs]; show (0 : Int) <= n; omega) (m := l.toNat) (by omega)
  rw [this, hs]; exact ⟨rfl, rfl, trivial⟩
 ·rw [<- ho, q, if_neg (by simp), <- hw, r, if_neg (by simp)] at hs
  rw [hs]
 ·have hz := ZIc (x := X) (n := n) (by rw [hx2]; omega)
  rw [show l.toNat = n by omega, hz]; exact ⟨rfl, rfl, trivial⟩
theorem ZG2 (S : Sig GG) (hS : RfSig S) : ZG S Tryz.prog 58 Zqn := by
 refine Zh S (C := ZIk) (fuel := 12) (YC trivial trivial trivial) fun ρ => ?_
 rw [ZFT]
 simp only [ZHk, ZyI, Znk, ZeI, ZyY, ZoT, Zzl, Zsh, Zkh, ZzK, ZaV, Zel, ZfB, Zrk, Zvo, Zp5, ZtW, Zlw, Zp6, Zhm, ZiT, Zwe, Zyr, ZkR, ZkC, Ztm, Ztv, ZvH, Zpk, ZvS, ZtD, Zvz, Zsw, ZxD, Zxh, hS.u510, VC.den, SX.den, Env.upd, YA, ZV, beq_iff_eq, ZIZ, beq_eq_false_iff_ne, ne_eq, ZIY, ZIX, Int.reduceToNat, Nat.reduceEqDiff, reduceIte, sB, sC]
 generalize (ρ 0).tI = k
 generalize (ρ 1).tI = w
 generalize (ρ 2).tB = a
 generalize (ρ 3).tB = b
 generalize (ρ 4).toBool = c
 generalize (ρ 5).tI = d
 unfold ZcA xk xw Yp Zbl Zdq xt leB
 simp only [List.getD_cons_zero, List.getD_cons_succ, ZI7, Zt, ZeW]
 intro _ _ _ _
 repeat' (first | exact trivial | apply And.intro | intro _)
 all_goals (try simp_all)
 all_goals (try omega)
 all_goals (first | (cases c <;> simp_all <;> omega) | (cases a <;> simp_all <;> omega))
theorem chk_ok (S : Sig GG) (hS : RfSig S) : ZG S Tryz.prog 28 ZuM := by
 refine Zh S (C := ZG0) (fuel := 12) (YC ⟨Zk (by decide) (ZG2 S hS), trivial⟩ ⟨⟨trivial, trivial⟩, trivial⟩ trivial) fun ρ => ?_
 rw [ZHQ]
 simp only [ZGR, ZzV, Zsn, ZDm, hS.u510, hS.u511, hS.u523, VC.den, SX.den, Env.upd, YA, ZV, beq_iff_eq, ZIZ, beq_eq_false_iff_ne, ne_eq, ZIY, ZIX, Int.reduceToNat, Nat.reduceEqDiff, reduceIte, sB, sC]
 generalize (ρ 4).tR = X
 generalize (ρ 2).tI = l
 intro h1 h2 h3 h4
 refine ⟨fun h => ⟨?_, trivial⟩, fun hl => ⟨ZE fun i hi => absurd hi (Nat.not_lt_zero _), fun x hx0 hx1 hx2 => ?_⟩⟩
 ·unfold ZhS; rw [if_pos (by omega)]
 obtain ⟨n, rfl⟩ := ZIS hx0
 have e1 : ((n : Int) + 1).toNat = n + 1 := by omega
 simp only [e1, ZI7] at hx2 ⊢
 have hx2 := (Zo (p := ∀ i < n, ZcA (xa X i) = true)).mp hx2
 rw [may_nr']
 refine ⟨fun hlt => ⟨by omega, fun y hy => ⟨fun q => ⟨?_, trivial⟩, fun q => ⟨by omega, by omega, by omega, by omega, by omega, ZE fun i hi => ?_, trivial⟩⟩⟩, fun hge => ⟨?_, trivial⟩⟩
 ·unfold ZhS
  have hf : Zkv X X.length = false := ZF fun h => by
   have := h n (by omega)
   have hy : y = ZcA (xa X n) := hy
   rw [<- hy, q] at this; cases this
  rw [if_neg (by omega), hf]; rfl
 ·rcases ZIU i n with h | h
  ·exact hx2 i h
  ·rw [show i = n by omega]
   have hy : y = ZcA (xa X n) := hy
   rw [<- hy, q]
 ·unfold ZhS
  have hf : Zkv X X.length = true := ZE fun i hi => hx2 i (by omega)
  rw [if_neg (by omega), hf]; rfl
def lasW : SX := .us .int 512 (rA 4) (ai 6) (bA 7) (ai 8)
def Zrb : Ctr := ⟨hA ++ [.int, .bytes, .int], [.one (hS 0), .one (.int .i64 (ai 6)), .one (.str (bA 7)), .one (.int .i64 (ai 8))], [hC 0 0], hQ 0 ++ [eLe z0 (ai 8), eLe (ai 8) (ai 2)], [.int, .int, .bytes, .bytes, .bool, .int, .bool],
 .tup [(true, [.int .i64 (ai 9), .int .i64 (ai 10), .str (bA 11), .str (bA 12), .bool (qA 13), .int .i64 (ai 14)]), (false, [.bool (qA 15)])], [hC 0 0],
 [.f2 48 (qA 15) (eLe z0 lasW), .f2 45 (ai 9) (usI 525 (rA 4) lasW z0), eqS (bA 12) (usY 524 (rA 4) lasW z0)]⟩
def lasI : Inv := ⟨[.int, .int, .int, .bytes, .bytes, .bool, .int, .int], [(10, .one (.int .i64 (di 0))), (8, .one (.ptr (di 1) 0))], [.cel (di 1) 0 [.int .i64 (di 2), .int .i64 (di 7), .str (bA 1000003), .str (bA 1000004), .bool (qA 1000005), .int .i64 (di 6)]],
 [eLe (.int (-1)) (di 0), eLt (di 0) (ai 8), .f2 45 lasW (.us .int 512 (rA 4) (ai 6) (bA 7) (SX.mk2 40 (di 0) (.int 1)))], .f2 40 (di 0) (.int 1)⟩
def ZHF : Cx := { specs := [], anns := [(61, [(2, .inv lasI)])] }
def kS (b : Nat) : SC := .slice (ai b) (ai (b + 1)) z0 z0 (ai (b + 2)) (ai (b + 3)) 1
def kQ (b : Nat) : List SX := [eLe z0 (ai (b + 2)), .f2 45 (ai (b + 2)) (Ze1 (iA (b + 4))), eLe (ai (b + 2)) (ai (b + 3)), eLe (ai (b + 2)) (.int 1099511627776)]
def kA : List Srt := [.int, .int, .int, .int, .ints, .int]
def Zyj : Ctr := ⟨hA ++ kA ++ [.bytes], [.one (hS 0), .one (kS 6), .one (.str (bA 12))], [hC 0 0, rdI 1 6], hQ 0 ++ kQ 6, [],
 .tup [(false, [.str (.us .bytes 513 (rA 4) (iA 10) (bA 12) (ai 8))]), (false, [.bool (.us .bool 514 (rA 4) (iA 10) (bA 12) (ai 8))])], [hC 0 0, rdI 1 6], []⟩
def leaI : Inv := ⟨[.int], [(8, .one (.int .i64 (di 0)))], [], [eLe (.int (-1)) (di 0), eLt (di 0) (ai 8), eqS (.us .bytes 513 (rA 4) (iA 10) (bA 12) (ai 8)) (.us .bytes 513 (rA 4) (iA 10) (bA 12) (SX.mk2 40 (di 0) (.int 1))),
 .f2 48 (.us .bool 514 (rA 4) (iA 10) (bA 12) (ai 8)) (.us .bool 514 (rA 4) (iA 10) (bA 12) (SX.mk2 40 (di 0) (.int 1)))], .f2 40 (di 0) (.int 1)⟩
def ZFI : Cx := { specs := [(61, [Zrb])], anns := [(32, [(2, .inv leaI)])] }
def Ztk : Ctr := ⟨hA ++ [.int], [.one (hS 0), .one (.int .i64 (ai 6))], [hC 0 0], hQ 0 ++ [eLe z0 (ai 6), eLe (ai 6) (ai 2)], [.int, .int], .one (sl1 (ai 7) (Ze1 (usN 515 (rA 4) (ai 6) z0)) (ai 8)), [hC 0 0, iAr (ai 7) (usN 515 (rA 4) (ai 6) z0) (ai 8)],
 [eLe (Ze1 (usN 515 (rA 4) (ai 6) z0)) (ai 8), .f2 50 (eLe z0 (ai 7)) (.f2 45 (Ze1 (usN 515 (rA 4) (ai 6) z0)) z0)]⟩
def kepW : SX := usN 515 (rA 4) (di 0) z0
def kepI : Inv := ⟨[.int, .int, .int], [(6, .one (.int .i64 (di 0))), (5, .one (sl1 (di 1) (Ze1 kepW) (di 2)))], [iAr (di 1) kepW (di 2)], [eLe z0 (di 0), eLe (di 0) (ai 6), eLe (Ze1 kepW) (di 2), .f2 50 (eLe z0 (di 1)) (.f2 45 (Ze1 kepW) z0)], .f2 41 (ai 6) (di 0)⟩
def ZGF : Cx := { specs := [], anns := [(30, [(0, .ghost emIC []), (3, .inv kepI)])] }
def ZsQ : Ctr := ⟨hA ++ [.int] ++ kA, [.one (hS 0), .one (.int .i64 (ai 6)), .one (kS 7)], [hC 0 0, rdI 1 7], hQ 0 ++ [eLe z0 (ai 6), eLt (ai 6) (ai 2)] ++ kQ 7, [.bool, .int], .tup [(false, [.bool (qA 13)]), (false, [.int .i64 (ai 14)])], [hC 0 0],
 [.f2 48 (qA 13) (usB 516 (rA 4) (ai 6) (iA 11)), .f2 45 (ai 14) (usI 517 (rA 4) (ai 6) (iA 11))]⟩
def ZHR : Cx := { specs := [(61, [Zrb]), (32, [Zyj])], anns := [] }
def Zyb : Ctr := ⟨hA, [.one (hS 0)], [hC 0 0], hQ 0, [.int, .int, .int], .tup [(false, [.int .i64 (ai 6)]), (false, [.int .i64 (ai 7)]), (false, [.int .i64 (ai 8)])], [hC 0 0], [.f2 45 (ai 6) (usI 520 (rA 4) z0 z0), .f2 45 (ai 7) (usI 521 (rA 4) z0 z0), .f2 45 (ai 8) (usI 522 (rA 4) z0 z0)]⟩
def srrI : Inv := ⟨[.int], [(8, .one (.int .i64 (di 0)))], [], [eLe z0 (di 0), eLe (di 0) (ai 2), .f2 45 (usI 518 (rA 4) (di 0) z0) (.int (-1))], .f2 41 (ai 2) (di 0)⟩
def ZF4 : Cx := { specs := [(28, [ZuM]), (29, [ZtR]), (48, [ZpW]), (30, [Ztk]), (49, [ZsQ])], anns := [(24, [(8, .inv srrI)])] }
def ZzJ : SX := .f2 40 (a 8) (k (-1))
def Zlo : SX := .us .int 512 (r 4) (a 6) (b 7) (a 8)
def ZDr : SX := .f2 40 (a 10) (k 1)
def Zy1 : SX := .f3 112 (r 4) (a 10) z
def ZE7 : SX := e Zy1 (k 3)
def ZDi : SX := e Zy1 (k 4)
def Zzm : SX := e (.f3 112 (r 4) (a 10) (k 1)) (a 6)
def Zy4 : SX := .f2 150 (.f1 36 (.f3 112 (r 4) (a 10) (k 2))) (b 7)
def ZDh : SX := l z Zlo
def ZFd : SX := .f2 48 (.bool true) ZDh
def Zxy : SX := d 525 (r 4) Zlo
def ZuW : SX := e Zy1 Zxy
def Zwc : SX := wB 524 (r 4) Zlo
def ZvN : SX := .f2 155 (.f1 36 (.f3 112 (r 4) (a 10) (k 3))) Zwc
def Zvd : SX := .f1 2 Zy4
def Zqq : SX := .f2 40 (a 10) (k (-1))
def ZiP : SX := .f1 23 Zqq
def Ziy : SX := t (a 10) ZDr
def Zih : SX := l (k (-1)) Zqq
def ZiK : SX := t Zqq (a 8)
def ZiS : SX := e Zlo (.us .int 512 (r 4) (a 6) (b 7) (a 10))
def ZtS : SX := .f1 2 Zzm
def ZGX : VC := i (l z (a 2)) (i (e (a 2) (.f1 32 (r 4))) (i (l (a 2) (a 3)) (i (l (a 2) k0) (i (l z (a 8)) (i (l (a 8) (a 2)) (u 9 .int (i (l z (a 9)) (n (.f1 23 ZzJ) (n (l (k (-1)) ZzJ) (n (t ZzJ (a 8)) (n (e Zlo Zlo) (u 10 .int (u 11 .int (u 12 .int (u 13 .bytes (u 14 .bytes (u 15 .bool (u 16 .int (u 17 .int (i (l (k (-1)) (a 10)) (i (t (a 10) (a 8)) (i (e Zlo (.us .int 512 (r 4) (a 6) (b 7) ZDr)) (.and (i (l z (a 10)) (n (t (a 10) (a 2)) (n (t (a 10) (.f1 32 (r 4))) (.and (i (.f1 2 ZE7) (.and (i ZDi (.and (i Zzm (.and (i Zy4 (n ZFd (n ZuW (n ZvN .tt)))) (i Zvd (n ZiP (n Ziy (n Zih (n ZiK (n ZiS .tt)))))))) (i ZtS (n ZiP (n Ziy (n Zih (n ZiK (n ZiS .tt)))))))) (i (.f1 2 ZDi) (n ZiP (n Ziy (n Zih (n ZiK (n ZiS .tt)))))))) (i ZE7 (.and (i Zzm (.and (i Zy4 (n ZFd (n ZuW (n ZvN .tt)))) (i Zvd (n ZiP (n Ziy (n Zih (n ZiK (n ZiS .tt)))))))) (i ZtS (n ZiP (n Ziy (n Zih (n ZiK (n ZiS .tt)))))))))))) (i (t (a 10) z) (n (.f2 48 (.bool false) ZDh) (n (e z Zxy) (n (.f2 155 (.byt []) Zwc) .tt)))))))))))))))))))))))))))
theorem ZHf : Zdt Tryz.prog ZHF 12 61 Zrb = ZGX := by kernel_rfl
def Zzb : SX := .f2 40 (a 8) (k (-1))
def ZoM : SX := .us .bytes 513 (r 4) (s 10) (b 12) (a 8)
def ZoN : SX := .us .bool 514 (r 4) (s 10) (b 12) (a 8)
def Zy3 : SX := .f2 40 (a 13) (k 1)
def Zzz : SX := .us .int 512 (r 4) (.f2 110 (s 10) (a 13)) (b 12) (a 2)
def Zzs : SX := .f2 40 (a 13) (k (-1))
def ZHG : VC := i (l z (a 2)) (i (e (a 2) (.f1 32 (r 4))) (i (l (a 2) (a 3)) (i (l (a 2) k0) (i (l z (a 8)) (i (e (a 8) (.f1 30 (s 10))) (i (l (a 8) (a 9)) (i (l (a 8) k0) (n (.f1 23 Zzb) (n (l (k (-1)) Zzb) (n (t Zzb (a 8)) (n (.f2 155 ZoM ZoM) (n (.f2 48 ZoN ZoN) (u 13 .int (i (l (k (-1)) (a 13)) (i (t (a 13) (a 8)) (i (.f2 155 ZoM (.us .bytes 513 (r 4) (s 10) (b 12) Zy3)) (i (.f2 48 ZoN (.us .bool 514 (r 4) (s 10) (b 12) Zy3)) (.and (i (l z (a 13)) (n (t (a 13) (.f1 30 (s 10))) (n (l (a 2) (a 2)) (u 14 .int (u 15 .int (u 16 .bytes (u 17 .bytes (u 18 .bool (u 19 .int (u 20 .bool (i (.f2 48 (q 20) (l z Zzz)) (i (e (a 14) (d 525 (r 4) Zzz)) (i (.f2 155 (b 17) (wB 524 (r 4) Zzz)) (u 21 .int (i (l z (a 21)) (.and (i (q 20) (n (.f2 155 ZoN (e (a 14) (k 3))) (n (.f2 155 ZoM (b 17)) .tt))) (i (.f1 2 (q 20)) (n (.f1 23 Zzs) (n (t (a 13) Zy3) (n (l (k (-1)) Zzs) (n (t Zzs (a 8)) (n (.f2 155 ZoM (.us .bytes 513 (r 4) (s 10) (b 12) (a 13))) (n (.f2 48 ZoN (.us .bool 514 (r 4) (s 10) (b 12) (a 13))) .tt))))))))))))))))))))))) (i (t (a 13) z) (n (.f2 155 ZoN (.bool false)) (n (.f2 155 ZoM (.byt [])) .tt)))))))))))))))))))))
theorem ZGj : Zdt Tryz.prog ZFI 12 32 Zyj = ZHG := by kernel_rfl
def ZEG : SX := o 515 (r 4)
def ZCl : SX := .f1 30 ZEG
def ZCZ : SX := e ZCl z
def Zya : SX := wN 515 (r 4) (a 7)
def ZkX : SX := .f1 30 Zya
def ZzO : SX := l z (a 8)
def ZBV : SX := e (.f3 112 (r 4) (a 7) z) (k 5)
def ZxJ : SX := .f2 40 ZkX (k 1)
def ZE5 : SX := l z (a 11)
def Zr0 : SX := .f2 40 (a 7) (k 1)
def ZsH : SX := .f1 23 Zr0
def Zvg : SX := .f2 41 (a 6) Zr0
def Zu3 : SX := l z Zvg
def ZvB : SX := t Zvg (.f2 41 (a 6) (a 7))
def Ztp : SX := l z Zr0
def ZsC : SX := l Zr0 (a 6)
def Zqc : SX := wN 515 (r 4) Zr0
def Ziz : SX := .f1 30 Zqc
def Ztt : SX := e Ziz z
def ZuK : SX := wN 515 (r 4) (a 6)
def ZpV : SX := .f1 30 ZuK
def ZGZ : VC := i (l z (a 2)) (i (e (a 2) (.f1 32 (r 4))) (i (l (a 2) (a 3)) (i (l (a 2) k0) (i (l z (a 6)) (i (l (a 6) (a 2)) (n (l ZCl z) (n (.f2 50 (.bool false) ZCZ) (n (.f2 155 ZEG (.f1 152 z)) (n ZCZ (u 7 .int (u 8 .int (u 9 .int (i (l z (a 7)) (i (l (a 7) (a 6)) (i (l ZkX (a 9)) (i (.f2 50 ZzO (e ZkX z)) (.and (i (t (a 7) (a 6)) (n (t (a 7) (a 2)) (n (t (a 7) (.f1 32 (r 4))) (.and (i ZBV (u 10 .int (i (l z (a 10)) (n (l ZkX ZkX) (n (l (.f2 42 ZxJ (k 8)) k1) (u 11 .int (u 12 .int (i (l ZxJ (a 12)) (i (.f2 50 ZE5 (e ZxJ z)) (n ZsH (n Zu3 (n ZvB (n Ztp (n ZsC (n (l Ziz (a 12)) (n (.f2 50 ZE5 Ztt) (n (.f2 155 Zqc (.f2 119 Zya (.f2 122 (.f3 112 (r 4) (a 7) (k 1)) (.f1 152 z)))) (n (e Ziz ZxJ) .tt)))))))))))))))))) (i (.f1 2 ZBV) (n ZsH (n Zu3 (n ZvB (n Ztp (n ZsC (n (l Ziz (a 9)) (n (.f2 50 ZzO Ztt) (n (.f2 155 Zqc Zya) (n (e Ziz ZkX) .tt)))))))))))))) (i (l (a 6) (a 7)) (n (l ZpV (a 9)) (n (.f2 50 ZzO (e ZpV z)) (n (.f2 155 ZuK Zya) (n (e ZpV ZkX) .tt))))))))))))))))))))))
theorem ZHD : Zdt Tryz.prog ZGF 12 30 Ztk = ZGZ := by kernel_rfl
def Zy6 : SX := .f3 112 (r 4) (a 6) (k 1)
def Zzn : SX := .f1 36 (.f3 112 (r 4) (a 6) (k 2))
def ZAT : SX := .us .int 512 (r 4) Zy6 Zzn (a 6)
def ZED : SX := .f1 2 (e (.f3 112 (r 4) (a 6) (k 4)) z)
def ZCQ : SX := .f2 48 ZED (e (a 14) (k 3))
def ZC7 : SX := .f1 36 (.f3 112 (r 4) (a 6) (k 3))
def ZAp : SX := y 516 (r 4) (a 6) (s 11)
def ZDd : SX := x 517 (r 4) (a 6) (s 11)
def ZCJ : SX := e (k 3) ZDd
def ZAQ : SX := .f2 48 (.bool false) ZAp
def ZpQ : SX := .f2 48 ZED (.us .bool 514 (r 4) (s 11) Zzn (a 9))
def ZvT : SX := .f2 48 (.f2 150 ZC7 (.us .bytes 513 (r 4) (s 11) Zzn (a 9))) ZAp
def Zll : SX := e (k 4) ZDd
def Zv6 : SX := .f1 2 ZpQ
def ZHC : VC := i (l z (a 2)) (i (e (a 2) (.f1 32 (r 4))) (i (l (a 2) (a 3)) (i (l (a 2) k0) (i (l z (a 6)) (i (t (a 6) (a 2)) (i (l z (a 9)) (i (e (a 9) (.f1 30 (s 11))) (i (l (a 9) (a 10)) (i (l (a 9) k0) (n (t (a 6) (.f1 32 (r 4))) (u 13 .int (i (l z (a 13)) (n (l (a 6) (a 2)) (u 14 .int (u 15 .int (u 16 .bytes (u 17 .bytes (u 18 .bool (u 19 .int (u 20 .bool (i (.f2 48 (q 20) (l z ZAT)) (i (e (a 14) (d 525 (r 4) ZAT)) (i (.f2 155 (b 17) (wB 524 (r 4) ZAT)) (u 21 .int (i (l z (a 21)) (.and (i (q 20) (.and (i (t z Zy6) (.and (i ZCQ (n (.f2 48 (.f2 150 ZC7 (b 17)) ZAp) (n ZCJ .tt))) (i (.f1 2 ZCQ) (n ZAQ (n ZCJ .tt))))) (i (l Zy6 z) (.and (i ZpQ (n ZvT (n Zll .tt))) (i Zv6 (n ZAQ (n Zll .tt))))))) (i (.f1 2 (q 20)) (.and (i ZpQ (n ZvT (n Zll .tt))) (i Zv6 (n ZAQ (n Zll .tt)))))))))))))))))))))))))))))))
theorem ZGH : Zdt Tryz.prog ZHR 12 49 ZsQ = ZHC := by kernel_rfl
def ZDS : SX := v 523 (r 4)
def ZD8 : SX := e ZDS z
def ZtE : SX := v 520 (r 4)
def ZAM : SX := v 521 (r 4)
def ZC6 : SX := e z ZAM
def ZDw : SX := v 522 (r 4)
def ZAI : SX := d 508 (r 4) (a 2)
def ZrK : SX := e z ZDw
def ZCs : SX := e (.f3 112 (r 4) (a 6) z) (k 2)
def ZrT : SX := .f2 40 (a 6) (k 1)
def Zmw : SX := .f1 23 ZrT
def Zx1 : SX := .f2 41 (a 2) ZrT
def Zlh : SX := l z Zx1
def Zlr : SX := t Zx1 (.f2 41 (a 2) (a 6))
def Zlf : SX := l z ZrT
def Zlm : SX := l ZrT (a 2)
def ZkS : SX := e (d 518 (r 4) ZrT) (k (-1))
def ZqL : SX := .f3 112 (r 4) (a 6) (k 1)
def ZlY : SX := .us .int 500 (r 4) (k 5) ZqL (a 2)
def Zqb : SX := wN 515 (r 4) ZlY
def Zii : SX := .f1 30 Zqb
def Zvf : SX := l z (a 7)
def Zqf : SX := e (a 6) ZtE
def Zrc : SX := e (a 10) ZAM
def ZqP : SX := .f1 2 (.f1 2 (q 9))
def Zq0 : SX := wN 515 (r 4) (a 6)
def ZiQ : SX := .f1 30 Zq0
def ZxZ : SX := l ZiQ (a 8)
def Zx0 : SX := .f2 50 Zvf (e ZiQ z)
def Zyl : SX := e ZiQ ZiQ
def ZsV : SX := l ZiQ k0
def Zvr : SX := .f2 48 (q 9) (y 516 (r 4) (a 6) Zq0)
def Zsx : SX := e (a 10) (x 517 (r 4) (a 6) Zq0)
def ZIm : VC := i (l z (a 2)) (i (e (a 2) (.f1 32 (r 4))) (i (l (a 2) (a 3)) (i (l (a 2) k0) (.and (i (.f1 2 ZD8) (n (e z ZtE) (n ZC6 (n (e ZDS ZDw) .tt)))) (i ZD8 (n (c 511 (r 4) (a 2)) (.and (i (l z ZAI) (n (e ZAI ZtE) (n (e (d 509 (r 4) (a 2)) ZAM) (n ZrK .tt)))) (i (t ZAI z) (n (e (v 518 (r 4)) (k (-1))) (u 6 .int (i (l z (a 6)) (i (l (a 6) (a 2)) (i (e (d 518 (r 4) (a 6)) (k (-1))) (.and (i (t (a 6) (a 2)) (n (t (a 6) (.f1 32 (r 4))) (.and (i (.f1 2 ZCs) (n Zmw (n Zlh (n Zlr (n Zlf (n Zlm (n ZkS .tt))))))) (i ZCs (.and (i (t z ZqL) (n (l (a 2) (a 2)) (.and (i (l z ZlY) (n (l ZlY (a 2)) (u 7 .int (u 8 .int (i (l Zii (a 8)) (i (.f2 50 Zvf (e Zii z)) (n (e Zii Zii) (n (l Zii k0) (u 9 .bool (u 10 .int (i (.f2 48 (q 9) (y 516 (r 4) (a 6) Zqb)) (i (e (a 10) (x 517 (r 4) (a 6) Zqb)) (.and (i (.f1 2 (q 9)) (n Zqf (n Zrc (n ZrK .tt)))) (i ZqP (n Zmw (n Zlh (n Zlr (n Zlf (n Zlm (n ZkS .tt)))))))))))))))))))) (i (t ZlY z) (u 7 .int (u 8 .int (i ZxZ (i Zx0 (n Zyl (n ZsV (u 9 .bool (u 10 .int (i Zvr (i Zsx (.and (i (.f1 2 (q 9)) (n Zqf (n Zrc (n ZrK .tt)))) (i ZqP (n Zmw (n Zlh (n Zlr (n Zlf (n Zlm (n ZkS .tt)))))))))))))))))))))) (i (l ZqL z) (u 7 .int (u 8 .int (i ZxZ (i Zx0 (n Zyl (n ZsV (u 9 .bool (u 10 .int (i Zvr (i Zsx (.and (i (.f1 2 (q 9)) (n Zqf (n Zrc (n ZrK .tt)))) (i ZqP (n Zmw (n Zlh (n Zlr (n Zlf (n Zlm (n ZkS .tt)))))))))))))))))))))))) (i (l (a 2) (a 6)) (n (e (k (-1)) ZtE) (n ZC6 (n ZrK .tt))))))))))))))))))
theorem ZIr : Zdt Tryz.prog ZF4 12 24 Zyb = ZIm := by kernel_rfl
theorem ZBh (S : Sig GG) (hS : RfSig S) : ZG S Tryz.prog 61 Zrb := by
 refine Zh S (C := ZHF) (fuel := 12) (YC trivial ⟨⟨trivial, trivial⟩, trivial⟩ trivial) fun ρ => ?_
 rw [ZHf]
 simp only [ZGX, ZzJ, Zlo, ZDr, Zy1, ZE7, ZDi, Zzm, Zy4, ZDh, ZFd, Zxy, ZuW, Zwc, ZvN, Zvd, Zqq, ZiP, Ziy, Zih, ZiK, ZiS, ZtS, hS.u512, hS.u524, hS.u525, VC.den, SX.den, Env.upd, YA, ZtA, beq_iff_eq, ZIZ, beq_eq_false_iff_ne, ne_eq, ZIY, ZIX, Int.reduceToNat, Nat.reduceEqDiff, reduceIte, sB]
 generalize (ρ 4).tR = X
 generalize (ρ 2).tI = l
 generalize (ρ 8).tI = e
 generalize (ρ 7).tB = key
 generalize (ρ 6).tI = v
 intro h1 h2 h3 h4 h5 h6 _ _
 refine ⟨by omega, by omega, by omega, trivial, fun i a1 a2 a3 a4 a5 a6 a7 hi1 hi2 hi3 => ⟨fun hi => ?_, fun hi => ?_⟩⟩
 ·obtain ⟨n, rfl⟩ := ZIS hi
  have e1 : ((n : Int) + 1).toNat = n + 1 := by omega
  simp only [e1, ZI7] at hi3 ⊢
  rw [hi3, Zc7]
  unfold ZGC ZG6 xk xw Yp Zbl xa
  generalize ZaM X v key n = p at *
  generalize hk : (X.getD n []).getD 0 0 = k at *
  generalize (X.getD n []).getD 1 0 = w at *
  generalize Zcw ((X.getD n []).getD 2 0).toNat = q at *
  generalize hv : Zcw ((X.getD n []).getD 3 0).toNat = z at *
  clear hi3
  refine ⟨by omega, by omega, ?_⟩
  have found : (k = 3 \/ k = 4) /\ w = v /\ q = key -> true = leB 0 (if (k = 3 \/ k = 4) /\ w = v /\ q = key then (n : Int) else p) ∧
    (k = if 0 <= (if (k = 3 \/ k = 4) /\ w = v /\ q = key then (n : Int) else p) then (X.getD (if (k = 3 \/ k = 4) /\ w = v /\ q = key then (n : Int) else p).toNat []).getD 0 0 else 0) ∧
    (z = if 0 <= (if (k = 3 \/ k = 4) /\ w = v /\ q = key then (n : Int) else p) then Zcw ((X.getD (if (k = 3 \/ k = 4) /\ w = v /\ q = key then (n : Int) else p).toNat []).getD 3 0).toNat else []) /\ True := by
   intro hc
   rw [if_pos hc, if_pos (by omega), if_pos (by omega), ZI7, hk, hv]
   exact ⟨by unfold leB; simp, rfl, rfl, trivial⟩
  have nf : ¬ ((k = 3 \/ k = 4) /\ w = v /\ q = key) -> (if (k = 3 \/ k = 4) /\ w = v /\ q = key then (n : Int) else p) = p := fun hc => if_neg hc
  repeat' (first | exact trivial | apply And.intro | intro _)
  all_goals first
   | omega
   | exact (found ⟨by omega, by assumption, by assumption⟩).1
   | exact (found ⟨by omega, by assumption, by assumption⟩).2.1
   | exact (found ⟨by omega, by assumption, by assumption⟩).2.2.1
   | exact nf (fun ⟨c1, c2, c3⟩ => by first | contradiction | omega)
 ·have : (i + 1).toNat = 0 := by omega
  rw [hi3, this]
  exact ⟨rfl, rfl, rfl, trivial⟩
theorem ZHm (S : Sig GG) (hS : RfSig S) : ZG S Tryz.prog 32 Zyj := by
 refine Zh S (C := ZFI) (fuel := 12) (YC ⟨Zk (by decide) (ZBh S hS), trivial⟩ ⟨⟨trivial, trivial⟩, trivial⟩ trivial) fun ρ => ?_
 rw [ZGj]
 simp only [ZHG, Zzb, ZoM, ZoN, Zy3, Zzz, Zzs, hS.u512, hS.u513, hS.u514, hS.u524, hS.u525, VC.den, SX.den, Env.upd, YA, ZtA, beq_iff_eq, ZIZ, beq_eq_false_iff_ne, ne_eq, ZIY, ZIX, Int.reduceToNat, Nat.reduceEqDiff, reduceIte, sB]
 generalize (ρ 4).tR = X
 generalize (ρ 10).tN = K
 generalize (ρ 2).tI = l
 generalize (ρ 8).tI = m
 generalize (ρ 12).tB = key
 intro h1 h2 h3 h4 h5 h6 h7 h8
 refine ⟨by omega, by omega, by omega, trivial, trivial, fun i hi1 hi2 hi3 hi4 => ⟨fun hi => ⟨by omega, by omega, fun a1 a2 a3 a4 a5 a6 a7 ha7 ha1 ha4 _ _ => ?_⟩, fun hi => ?_⟩⟩
 ·obtain ⟨n, rfl⟩ := ZIS hi
  have e1 : ((n : Int) + 1).toNat = n + 1 := by omega
  simp only [e1, ZI7] at hi3 hi4 ha7 ha1 ha4 ⊢
  rw [hi3, hi4, Zgj]
  rw [show l.toNat = X.length by omega] at ha7 ha1 ha4
  unfold ZGC at ha4
  unfold ZG6 at ha1
  generalize ZaM X (K.getD n 0) key X.length = j at *
  refine ⟨fun q => ?_, fun q => ?_⟩
  ·have hj : 0 <= j := Za.1 (ha7 ▸ q)
   rw [if_pos hj] at ha1 ha4 ⊢
   rw [ha1, ha4]
   exact ⟨by simp only; rw [Bool.eq_iff_iff]; simp, rfl, trivial⟩
  ·have hj : ¬ 0 <= j := fun h => by rw [q, Za.2 h] at ha7; cases ha7
   rw [if_neg hj]
   exact ⟨by omega, by omega, by omega, by omega, rfl, rfl, trivial⟩
 ·have : (i + 1).toNat = 0 := by omega
  rw [hi3, hi4, this]
  exact ⟨rfl, rfl, trivial⟩
theorem ZHl (S : Sig GG) (hS : RfSig S) : ZG S Tryz.prog 30 Ztk := by
 refine Zh S (C := ZGF) (fuel := 12) (YC trivial ⟨⟨⟨by decide, ZIj S⟩, trivial, trivial⟩, trivial⟩ trivial) fun ρ => ?_
 rw [ZHD]
 simp only [ZGZ, ZEG, ZCl, ZCZ, Zya, ZkX, ZzO, ZBV, ZxJ, ZE5, Zr0, ZsH, Zvg, Zu3, ZvB, Ztp, ZsC, Zqc, Ziz, Ztt, ZuK, ZpV, hS.u515, VC.den, SX.den, Env.upd, YA, ZtA, beq_iff_eq, ZIZ, beq_eq_false_iff_ne, ne_eq, ZIY, ZIX, Int.reduceToNat, Nat.reduceEqDiff, reduceIte, sB]
 generalize (ρ 4).tR = X
 generalize (ρ 2).tI = l
 generalize (ρ 6).tI = m
 intro h1 h2 h3 h4 h5 h6
 refine ⟨by show ((0 : Nat) : Int) <= 0; omega, .inr rfl, rfl, rfl, fun x b c hx0 hx1 hx2 hx3 => ?_⟩
 obtain ⟨n, rfl⟩ := ZIS hx0
 have e1 : ((n : Int) + 1).toNat = n + 1 := by omega
 have hl := ZnT X n
 simp only [e1, ZI7] at hx2 hx3 ⊢
 refine ⟨fun hlt => ⟨by omega, by omega, fun hk _ _ => ⟨by omega, by omega, fun b' c' hc' hb' => ?_⟩, fun hk => ?_⟩, fun hge => ?_⟩
 ·have hs : Yo X (n + 1) = Yo X n ++ [xw (xa X n)] := if_pos hk
  rw [hs, ZI5, ZIO]
  exact ⟨by omega, by omega, by omega, by omega, by omega, by omega, by omega, rfl, by omega, trivial⟩
 ·have hs : Yo X (n + 1) = Yo X n := if_neg hk
  rw [hs]
  exact ⟨by omega, by omega, by omega, by omega, by omega, hx2, hx3, rfl, rfl, trivial⟩
 ·rw [show m.toNat = n by omega]
  exact ⟨hx2, hx3, rfl, rfl, trivial⟩
theorem ZFP (S : Sig GG) (hS : RfSig S) : ZG S Tryz.prog 49 ZsQ := by
 refine Zh S (C := ZHR) (fuel := 12) (YC ⟨Zk (by decide) (ZBh S hS), Zk (by decide) (ZHm S hS), trivial⟩ trivial trivial) fun ρ => ?_
 rw [ZGH]
 simp only [ZHC, Zy6, Zzn, ZAT, ZED, ZCQ, ZC7, ZAp, ZDd, ZCJ, ZAQ, ZpQ, ZvT, Zll, Zv6, hS.u512, hS.u513, hS.u514, hS.u516, hS.u517, hS.u524, hS.u525, VC.den, SX.den, Env.upd, YA, ZtA, beq_iff_eq, ZIZ, beq_eq_false_iff_ne, ne_eq, ZIY, ZIX, Int.reduceToNat, Nat.reduceEqDiff, reduceIte, sB]
 generalize (ρ 4).tR = X
 generalize (ρ 11).tN = K
 generalize (ρ 2).tI = l
 generalize (ρ 9).tI = m
 generalize (ρ 6).tI = a
 intro h1 h2 h3 h4 h5 h6 h7 h8 h9 h10
 obtain ⟨n, rfl⟩ := ZIS h5
 simp only [ZI7]
 rw [show m.toNat = K.length by omega, Zxc]
 unfold Yp xw Zdq xa
 refine ⟨by omega, fun _ _ => ⟨by omega, fun a1 a2 a3 a4 a5 a6 a7 ha7 ha1 ha4 => ?_⟩⟩
 generalize ZaM X ((X.getD n []).getD 1 0) (Zcw ((X.getD n []).getD 2 0).toNat) n = j at *
 have f3 : Zbl (X.getD n []) = Zcw ((X.getD n []).getD 3 0).toNat := rfl
 rw [f3]
 generalize (X.getD n []).getD 1 0 = w at *
 generalize (!(X.getD n []).getD 4 0 == 0) = hv at *
 generalize Zcw ((X.getD n []).getD 3 0).toNat = z at *
 generalize Zh8 X K (Zcw ((X.getD n []).getD 2 0).toNat) K.length = u at *
 unfold ZGC at ha4
 unfold ZG6 at ha1
 unfold xa at ha1 ha4
 generalize X.getD j.toNat [] = r at *
 have hd : ∀ q : Int, (q == 3) = decide (q = 3) := fun q => by rw [Bool.eq_iff_iff]; simp
 intro _ _
 refine ⟨fun q => ?_, fun q => ?_⟩
 ·have hj : 0 <= j := Za.1 (ha7 ▸ q)
  rw [if_pos hj] at ha1 ha4
  rw [ha1, ha4, hd]
  refine ⟨fun hw => ?_, fun hw => ?_⟩
  ·rw [if_pos ⟨hj, hw⟩]
   refine ⟨fun c => ?_, fun c => ?_⟩
   ·rw [c]; simp
   ·refine ⟨?_, rfl, trivial⟩; simp [c]
  ·rw [if_neg (fun h => by omega)]
   refine ⟨fun c => ?_, fun c => ?_⟩
   ·rw [c]; simp
   ·refine ⟨?_, rfl, trivial⟩; simp [c]
 ·have hj : ¬ 0 <= j := fun h => by rw [q, Za.2 h] at ha7; cases ha7
  rw [if_neg (fun h => hj h.1)]
  refine ⟨fun c => ?_, fun c => ?_⟩
  ·rw [c]; simp
  ·refine ⟨?_, rfl, trivial⟩; simp [c]
theorem ZIp (S : Sig GG) (hS : RfSig S) : ZG S Tryz.prog 24 Zyb := by
 refine Zh S (C := ZF4) (fuel := 12) (YC ⟨Zk (by decide) (chk_ok S hS), Zk (by decide) (ZH4 S hS), Zk (by decide) (ZBu S hS), Zk (by decide) (ZHl S hS), Zk (by decide) (ZFP S hS), trivial⟩ ⟨⟨trivial, trivial⟩, trivial⟩ trivial) fun ρ => ?_
 rw [ZIr]
 simp only [ZIm, ZDS, ZD8, ZtE, ZAM, ZC6, ZDw, ZAI, ZrK, ZCs, ZrT, Zmw, Zx1, Zlh, Zlr, Zlf, Zlm, ZkS, ZqL, ZlY, Zqb, Zii, Zvf, Zqf, Zrc, ZqP, Zq0, ZiQ, ZxZ, Zx0, Zyl, ZsV, Zvr, Zsx, hS.u500, hS.u508, hS.u509, hS.u511, hS.u515, hS.u516, hS.u517, hS.u518, hS.u520, hS.u521, hS.u522, hS.u523, VC.den, SX.den, Env.upd, YA, ZtA, beq_iff_eq, ZIZ, beq_eq_false_iff_ne, ne_eq, ZIY, ZIX, Int.reduceToNat, Nat.reduceEqDiff, reduceIte, sB]
 generalize (ρ 4).tR = X
 generalize (ρ 2).tI = l
 intro h1 h2 h3 h4
 unfold Zne
 refine ⟨fun hc => by rw [if_pos hc]; exact ⟨rfl, rfl, rfl, trivial⟩, fun hc => ?_⟩
 rw [if_neg (by omega), show l.toNat = X.length by omega]
 have hck : Zkv X X.length = true := by
  unfold ZhS at hc
  split at hc
  ·omega
  ·cases q : Zkv X X.length
   ·rw [q] at hc; simp at hc
   ·rfl
 refine ⟨hck, fun ht => by rw [if_pos ht]; exact ⟨rfl, rfl, rfl, trivial⟩, fun ht => ⟨rfl, fun x hx0 hx1 hx2 => ?_⟩⟩
 rw [if_neg (by omega)]
 obtain ⟨n, rfl⟩ := ZIS hx0
 have e1 : ((n : Int) + 1).toNat = n + 1 := by omega
 simp only [e1, ZI7] at hx2 ⊢
 have hs := Zf9 X n
 rw [if_neg (by rw [hx2]; omega)] at hs
 have hl := ZfO X 5 ((X.getD n []).getD 1 0) X.length
 have hen := Zgt X n
 have f2 : xw (xa X n) = (X.getD n []).getD 1 0 := rfl
 have f1 : xk (xa X n) = (X.getD n []).getD 0 0 := rfl
 rw [f2] at hen
 rw [f1] at hs
 have hk := fun q => ZnT X q
 generalize YR X 5 ((X.getD n []).getD 1 0) X.length = F at *
 generalize (X.getD n []).getD 1 0 = w at *
 refine ⟨fun hlt => ⟨by omega, fun q => ?_, fun q => ?_⟩, fun hge => ?_⟩
 ·rw [if_neg q] at hs
  exact ⟨by omega, by omega, by omega, by omega, by omega, by rw [hs], trivial⟩
 ·have step : ∀ (E : Nat), Zj2 X n = E -> ∀ (o : Bool) (t : Int), o = (ZiW X n (Yo X E)).1 -> t = (ZiW X n (Yo X E)).2 →
    (o = false -> (n : Int) = (ZeN X X.length).1 /\ t = (ZeN X X.length).2 /\ True /\ True) /\ (o = true -> (-9223372036854775808 <= (n : Int) + 1 /\ (n : Int) + 1 <= 9223372036854775807) /\ 0 <= l - (n + 1) /\ l - (n + 1) < l - n /\ 0 <= (n : Int) + 1 /\ (n : Int) + 1 <= l /\ (ZeN X (n + 1)).1 = -1 /\ True) := by
   intro E hE o t ho ht'
   rw [if_pos q, hE, <- ho, <- ht'] at hs
   refine ⟨fun hf => ?_, fun hf => ?_⟩
   ·rw [hf, if_neg (by simp)] at hs
    have := Zpl (x := X) (n := n + 1) (by rw [hs]; show (0 : Int) <= n; omega) (m := X.length) (by omega)
    rw [this, hs]; exact ⟨rfl, rfl, trivial, trivial⟩
   ·rw [hf, if_pos rfl] at hs
    exact ⟨by omega, by omega, by omega, by omega, by omega, by rw [hs], trivial⟩
  have hk1 := hk F.toNat
  have hk2 := hk n
  refine ⟨fun hw => ⟨by omega, fun hF => ⟨by omega, fun _ _ _ _ => ⟨trivial, by omega, step F.toNat ?_⟩⟩, fun hF _ _ _ _ => ⟨trivial, by omega, step n ?_⟩⟩, fun hw _ _ _ _ => ⟨trivial, by omega, step n ?_⟩⟩
  ·rw [hen, if_pos hw, if_pos hF]
  ·rw [hen, if_pos hw, if_neg (by omega)]
  ·rw [hen, if_neg (by omega)]
 ·have hz := ZAY (x := X) (n := n) (by rw [hx2]; omega)
  rw [show X.length = n by omega, hz]; exact ⟨rfl, rfl, trivial, trivial⟩
def kc (r : Ent) : Int := (ZP (Yp r) : Nat)
def nr (r : Ent) : Ent := [xk r, xw r, (ZP (Yp r) : Nat), (ZP (Zbl r) : Nat), b01 (Zdq r), xt r]
def Z5 (m : List (Int × Int)) (r : Ent) : Bool :=
 (Zdq r == (Zu m (kc r) && decide ((Zas 0 m (kc r)).tmod 2 = 0))) && (!Zdq r || Zbl r == Zcw ((Zas 0 m (kc r)).tdiv 2).toNat)
def vw (c : Int) : List UInt8 × Bool := (Zcw (c.tdiv 2).toNat, decide (c.tmod 2 = 0))
def Zzo (m1 m2 m3 : List (Int × Int)) : Prop := ∀ k, Zu m3 k = (Zu m1 k || Zu m2 k) /\ vw (Zas 0 m3 k) = if Zu m2 k = true then vw (Zas 0 m2 k) else vw (Zas 0 m1 k)
def layM (m1 m2 left m3 : List (Int × Int)) : Prop := (left.map (·.1)).Nodup /\ (∀ k, Zu left k = true -> Zu m2 k = true) ∧
 ∀ k, Zu m3 k = (Zu m1 k || (Zu m2 k && !Zu left k)) /\ vw (Zas 0 m3 k) = if Zu m2 k = true /\ Zu left k = false then vw (Zas 0 m2 k) else vw (Zas 0 m1 k)
def Zkr : Ent := [-7, 0, 0, 0, 0, 0]
def Zsq (x : List Ent) (n : Nat) : List Ent := ((x.drop (x.length - n)).map nr).reverse
def eqE (r s : Ent) : Prop := nr r = nr s
structure JbSig (S : Sig GG) : Prop where
 rf : RfSig S
 u530 : ∀ a b c d, S.usr 530 a b c d = .bool (Z5 a.tM b.tN)
 u531 : ∀ a b c d, S.usr 531 a b c d = .bool (ZN (Zzo a.tM b.tM c.tM))
 u532 : ∀ a b c d, S.usr 532 a b c d = .bool (ZN (layM a.tM b.tM c.tM d.tM))
 u533 : ∀ a b c d, S.usr 533 a b c d = .rows (Zsq a.tR b.tI.toNat)
 u534 : ∀ a b c d, S.usr 534 a b c d = .rows ((a.tR.take c.tI.toNat).map nr ++ b.tR.drop c.tI.toNat)
 u536 : ∀ a b c d, S.usr 536 a b c d = .bool (ZN ((a.tM.map (·.1)).Nodup))
 u535 : ∀ a b c d, S.usr 535 a b c d = .bool (ZN (∀ i : Nat, b.tI <= (i : Int) -> (i : Int) < c.tI -> eqE (xa a.tR i) (xa d.tR i)))
theorem JbSig.of {S T : Sig GG} (h : JbSig S) (hu : T.usr = S.usr) : JbSig T := by
 constructor
 ·have := h.rf
  constructor
  all_goals (rw [hu]; first | exact this.u500 | exact this.u501 | exact this.u502 | exact this.u503 | exact this.u504 | exact this.u505 | exact this.u506 | exact this.u507 | exact this.u508 | exact this.u509 | exact this.u510 | exact this.u511 | exact this.u512 | exact this.u513 | exact this.u514 | exact this.u515 | exact this.u516 | exact this.u517 | exact this.u518 | exact this.u519 | exact this.u520 | exact this.u521 | exact this.u522 | exact this.u523 | exact this.u524 | exact this.u525)
 all_goals (rw [hu]; first | exact h.u530 | exact h.u531 | exact h.u532 | exact h.u533 | exact h.u534 | exact h.u535 | exact h.u536)
theorem ZB6 (r : Ent) : xk (nr r) = xk r := rfl
theorem ZFp (r : Ent) : xw (nr r) = xw r := rfl
theorem ZC8 (r : Ent) : xt (nr r) = xt r := rfl
theorem Zj9 (r : Ent) : Yp (nr r) = Yp r := by
 show Zcw (Int.toNat (ZP (Yp r) : Nat)) = _
 rw [ZI7, Zt]
theorem Zhb (r : Ent) : Zbl (nr r) = Zbl r := by
 show Zcw (Int.toNat (ZP (Zbl r) : Nat)) = _
 rw [ZI7, Zt]
theorem ZgX (r : Ent) : Zdq (nr r) = Zdq r := by
 exact ZeW _
theorem ZBf (r : Ent) : [r.getD 0 0, r.getD 1 0, (ZP (Zcw (r.getD 2 0).toNat) : Nat), (ZP (Zcw (r.getD 3 0).toNat) : Nat), b01 (!r.getD 4 0 == 0), r.getD 5 0] = nr r := rfl
theorem ZGe (r : Ent) : nr (nr r) = nr r := by
 unfold nr
 rw [show [xk r, xw r, (ZP (Yp r) : Nat), (ZP (Zbl r) : Nat), b01 (Zdq r), xt r] = nr r from rfl, ZB6, ZFp, ZC8, Zj9, Zhb, ZgX]
 rfl
theorem Zsj {r s : Ent} (h : eqE r s) : xk r = xk s /\ xw r = xw s /\ Yp r = Yp s /\ Zbl r = Zbl s /\ Zdq r = Zdq s /\ xt r = xt s := by
 have h1 := congrArg xk h
 have h2 := congrArg xw h
 have h3 := congrArg Yp h
 have h4 := congrArg Zbl h
 have h5 := congrArg Zdq h
 have h6 := congrArg xt h
 rw [ZB6, ZB6] at h1
 rw [ZFp, ZFp] at h2
 rw [Zj9, Zj9] at h3
 rw [Zhb, Zhb] at h4
 rw [ZgX, ZgX] at h5
 rw [ZC8, ZC8] at h6
 exact ⟨h1, h2, h3, h4, h5, h6⟩
theorem Zql {r s : Ent} (h : eqE r s) : true = (r.getD 0 0 == s.getD 0 0 && (r.getD 1 0 == s.getD 1 0 && (Zcw (r.getD 2 0).toNat == Zcw (s.getD 2 0).toNat && (Zcw (r.getD 3 0).toNat == Zcw (s.getD 3 0).toNat && ((!r.getD 4 0 == 0) == (!s.getD 4 0 == 0) && r.getD 5 0 == s.getD 5 0))))) := by
 obtain ⟨h1, h2, h3, h4, h5, h6⟩ := Zsj h
 have h1 : r.getD 0 0 = s.getD 0 0 := h1
 have h2 : r.getD 1 0 = s.getD 1 0 := h2
 have h3 : Zcw (r.getD 2 0).toNat = Zcw (s.getD 2 0).toNat := h3
 have h4 : Zcw (r.getD 3 0).toNat = Zcw (s.getD 3 0).toNat := h4
 have h5 : (!r.getD 4 0 == 0) = (!s.getD 4 0 == 0) := h5
 have h6 : r.getD 5 0 = s.getD 5 0 := h6
 rw [h1, h2, h3, h4, h5, h6]
 simp
theorem ZhN {x : List Ent} {n : Nat} (h : n <= x.length) : (Zsq x n).length = n := by
 unfold Zsq
 rw [List.length_reverse, ZJa, ZJe]; omega
theorem ZAN {x : List Ent} {i : Nat} (h : i < x.length) : Zsq x (x.length - i) = Zsq x (x.length - (i + 1)) ++ [nr (x.getD i [])] := by
 unfold Zsq
 rw [show x.length - (x.length - i) = i by omega, show x.length - (x.length - (i + 1)) = i + 1 by omega, List.drop_eq_getElem_cons h, ZI9, List.reverse_cons, ZI0, ZI3 h, ZIV]
theorem ZxF {x : List Ent} {i j : Nat} {r : Ent} (h : i ≠ j) : xa (x.set i r) j = xa x j := by
 unfold xa
 rw [ZI0, ZI0, List.getElem?_set_ne h]
theorem ZpN (m : List (Int × Int)) (k v q : Int) : Zu (YD m k v) q = (decide (k = q) || Zu m q) := by
 induction m with
 | nil => simp [YD, Zu]
 | cons p m ih =>
  obtain ⟨a, b⟩ := p
  unfold YD
  by_cases h : a = k
  ·subst h; simp only [if_true, Zu]; by_cases hq : a = q <;> simp [hq]
  ·rw [if_neg h]
   simp only [Zu]
   by_cases hq : a = q
   ·simp [hq]
   ·rw [if_neg hq, if_neg hq, ih]
theorem Zqw (d : Int) (m : List (Int × Int)) (k v q : Int) : Zas d (YD m k v) q = if k = q then v else Zas d m q := by
 induction m with
 | nil => simp [YD, Zas]
 | cons p m ih =>
  obtain ⟨a, b⟩ := p
  unfold YD
  by_cases h : a = k
  ·subst h; simp only [if_true, Zas]; by_cases hq : a = q <;> simp [hq]
  ·rw [if_neg h]
   simp only [Zas]
   by_cases hq : a = q
   ·have : ¬ k = q := fun e => h (by rw [hq, e])
    simp [hq, this]
   ·rw [if_neg hq, if_neg hq, ih]
theorem ZbU {m : List (Int × Int)} (hn : (m.map (·.1)).Nodup) (k : Int) : ((ZaQ m k).map (·.1)).Nodup := by
 induction m with
 | nil => exact hn
 | cons p m ih =>
  obtain ⟨a, b⟩ := p
  simp only [ZI9, List.nodup_cons] at hn
  unfold ZaQ
  split
  ·exact hn.2
  ·simp only [ZI9, List.nodup_cons]
   refine ⟨fun h => hn.1 ?_, ih hn.2⟩
   obtain ⟨q, hq, he⟩ := List.mem_map.1 h
   exact List.mem_map.2 ⟨q, Zkb hq, he⟩
theorem ZeT {m : List (Int × Int)} {k : Int} (h : Zu m k = true) : (ZaQ m k).length < m.length := by
 induction m with
 | nil => cases h
 | cons p m ih =>
  obtain ⟨a, b⟩ := p
  unfold ZaQ
  simp only [Zu] at h
  split
  ·simp
  ·rename_i hne; rw [if_neg hne] at h
   have := ih h
   simp only [ZJk]; omega
theorem ZGv (t : List UInt8) (b : Bool) : vw ((ZP t : Nat) * 2 + b01 b) = (t, !b) := by
 unfold vw b01
 cases b
 ·have h1 : (((ZP t : Nat) : Int) * 2 + if false = true then 1 else 0).tdiv 2 = (ZP t : Nat) := by
   rw [Int.tdiv_eq_ediv_of_nonneg (by split <;> omega)]; split <;> omega
  have h2 : (((ZP t : Nat) : Int) * 2 + if false = true then 1 else 0).tmod 2 = 0 := by
   rw [Int.tmod_eq_emod_of_nonneg (by split <;> omega)]; simp
  rw [h1, h2, ZI7, Zt]; rfl
 ·have h1 : (((ZP t : Nat) : Int) * 2 + if true = true then 1 else 0).tdiv 2 = (ZP t : Nat) := by
   rw [Int.tdiv_eq_ediv_of_nonneg (by split <;> omega)]; split <;> omega
  have h2 : (((ZP t : Nat) : Int) * 2 + if true = true then 1 else 0).tmod 2 = 1 := by
   rw [Int.tmod_eq_emod_of_nonneg (by split <;> omega)]; simp
  rw [h1, h2, ZI7, Zt]; rfl
theorem ZaS {m : List (Int × Int)} (hn : (m.map (·.1)).Nodup) (k q : Int) : Zu (ZaQ m k) q = (!decide (k = q) && Zu m q) := by
 induction m with
 | nil => simp [ZaQ, Zu]
 | cons p m ih =>
  obtain ⟨a, b⟩ := p
  simp only [ZI9, List.nodup_cons] at hn
  have no : Zu m a = false := by
   cases h : Zu m a
   ·rfl
   ·exfalso; apply hn.1
    clear ih hn
    induction m with
    | nil => cases h
    | cons p m ih2 =>
     obtain ⟨c, e⟩ := p
     simp only [Zu] at h
     split at h
     ·rename_i hc; simp [hc]
     ·simp [ih2 h]
  unfold ZaQ
  by_cases h : a = k
  ·subst h
   rw [if_pos rfl]
   simp only [Zu]
   by_cases hq : a = q
   ·subst hq; simp [no]
   ·simp [hq]
  ·rw [if_neg h]
   simp only [Zu]
   by_cases hq : a = q
   ·have : ¬ k = q := fun e => h (by rw [hq, e])
    simp [hq, this]
   ·rw [if_neg hq, if_neg hq, ih hn.2]
def scC (b m : SX) : Ch := .map .str .sb b m
def ndmC : Ctr := ⟨[.int, .amap], [.one (.map (ai 0))], [scC (ai 0) (mA 1)], [], [], .tup [], [scC (ai 0) (mA 1)], [usB 536 (mA 1) z0 z0]⟩
theorem ZGh (S : Sig GG) (hS : JbSig S) : ZfQ S ndmC := by
 refine ZcZ S fun T w0 ρ h hu hp hd hr hpre => ⟨ρ, Ext.refl _ _, hpre, ?_⟩
 have hT := hS.of hu
 intro x hx
 simp only [ndmC, ZIT] at hx
 subst hx
 have e1 : hpDen T ρ w0 ndmC.pre = Ze ((scC (ai 0) (mA 1)).den T ρ w0) emp := rfl
 rw [e1, Zl] at hpre
 obtain ⟨_, es, clock, ⟨_, hn, _⟩, _⟩ := hpre
 simp only [usB, SX.den, hT.u536, ZbI, U.tPi, U.tQi, Zo]
 exact hn
def ZvR : Ctr := Zqn
def ZGV : Cx := { specs := [], anns := [] }
def Ztf : Ctr := ⟨hA, [.one (hS 0), .one (.fn 51)], [hC 0 0], [eLe z0 (ai 2), eLe (ai 2) (Zr (rA 4)), eLe (ai 2) (ai 3), eLe (ai 2) (.int 1099511627776)], [.bool], .one (.bool (qA 6)), [hC 0 0], [.f2 48 (qA 6) (.f1 2 (usB 511 (rA 4) (ai 2) z0))]⟩
def cfnI : Inv := ⟨[.int], [(8, .one (.int .i64 (di 0)))], [], [eLe z0 (di 0), eLe (di 0) (ai 2), usB 511 (rA 4) (di 0) z0], .f2 41 (ai 2) (di 0)⟩
def ZFZ : Cx := { specs := [(52, [ZvR])], anns := [(75, [(2, .inv cfnI)])] }
def entY : SX := ZhV (ai 2) (ai 3) (.f1 35 (bA 4)) (.f1 35 (bA 5)) (.f1 3 (qA 6)) (ai 7)
def Zl5 : Ctr := ⟨[.int, .amap, .int, .int, .bytes, .bytes, .bool, .int], [.one (.map (ai 0)), .agg [.int .i64 (ai 2), .int .i64 (ai 3), .str (bA 4), .str (bA 5), .bool (qA 6), .int .i64 (ai 7)]], [scC (ai 0) (mA 1)], [eLe z0 (ai 0)], [.bool],
 .one (.bool (qA 8)), [scC (ai 0) (mA 1)], [.f2 48 (qA 8) (usB 530 (mA 1) entY z0)]⟩
def ZFN : Cx := { specs := [], anns := [] }
def Zxv : Ctr := ⟨[.int, .amap, .int, .amap], [.one (.map (ai 0)), .one (.map (ai 2))], [scC (ai 0) (mA 1), scC (ai 2) (mA 3)], [eLe z0 (ai 0), eLe z0 (ai 2)], [.amap], .tup [], [scC (ai 0) (mA 4), scC (ai 2) (mA 3)], [usB 531 (mA 1) (mA 3) (mA 4)]⟩
def layI : Inv := ⟨[.amap, .ints, .amap], [], [.itr .str .sb (ai 2) (mA 3) (ai 4) (mA 1000000) (iA 1000001), scC (ai 0) (mA 1000002)], [.us .bool 532 (mA 1) (mA 3) (mA 1000000) (mA 1000002)], .f1 33 (mA 1000000)⟩
def ZGd : Cx := { specs := [], anns := [(56, [(0, .ghost ndmC [.tmp 1]), (1, .inv layI)])] }
def mkX : SX := ZhV (.int (-7)) z0 z0 z0 z0 z0
def mksX : SX := ZbN mkX (ZbN mkX (ZbN mkX Zsr))
def ZxW : Ctr := ⟨hA, [.one (hS 0)], [hC 0 0], hQ 0, [.int, .int], .one (slC (ai 6) (ai 2) (ai 7) 6), [hC 0 0, .arr hE (ai 6) (.f2 121 (rA 4) mksX) (ai 7)], [eLe (SX.mk2 40 (ai 2) (.int 3)) (ai 7), eLe z0 (ai 6)]⟩
def ZGS : Cx := { specs := [], anns := [] }
def Zw5 : Ctr := ⟨hA, [.one (hS 0)], [hC 0 0], hQ 0, [.int, .int], .one (slC (ai 6) (ai 2) (ai 7) 6), [hC 0 0, .arr hE (ai 6) (usR 533 (rA 4) (ai 2) z0) (ai 7)], [eLe (ai 2) (ai 7), .f2 50 (eLe z0 (ai 6)) (.f2 45 (ai 2) z0)]⟩
def trnW : SX := usR 533 (rA 4) (.f2 41 (ai 2) (SX.mk2 40 (di 0) (.int 1))) z0
def trnI : Inv := ⟨[.int, .int, .int], [(4, .one (.int .i64 (di 0))), (3, .one (slC (di 1) (Zr trnW) (di 2) 6))], [.arr hE (di 1) trnW (di 2)], [eLe (.int (-1)) (di 0), eLt (di 0) (ai 2), eLe (Zr trnW) (di 2), .f2 50 (eLe z0 (di 1)) (.f2 45 (Zr trnW) z0)], .f2 40 (di 0) (.int 1)⟩
def emHC : Ctr := ⟨[], [], [], [], [], .tup [], [.arr hE (.int (-1)) Zsr z0], []⟩
theorem ZFW {G : Type} (S : Sig G) : ZfQ S emHC := by
 refine ZcZ S fun T w0 ρ h hu hp hd hr hpre => ⟨ρ, Ext.refl _ _, ?_, by intro x hx; exact nomatch hx⟩
 have e1 : hpDen T ρ w0 emHC.pre = emp := rfl
 have e2 : hpDen T ρ w0 emHC.post = Ze (rAD hE (-1) [] 0) emp := rfl
 rw [e1] at hpre
 rw [e2, Zl, hE, ZiX]; exact hpre
def ZFM : Cx := { specs := [], anns := [(9, [(0, .ghost emHC []), (3, .inv trnI)])] }
def ZuJ : Ctr := ⟨[.int, .rows, .int, .int, .int] ++ hA, [.one (slC (ai 0) (ai 2) (ai 3) 6), .one (hS 5)], [.arr hE (ai 0) (rA 1) (ai 4), hC 0 5], [eLe z0 (ai 2), eLe (ai 2) (Zr (rA 1)), eLe (ai 2) (ai 3), .f2 45 (ai 2) (ai 7)] ++ hQ 5, [], .tup [],
 [.arr hE (ai 0) (usR 534 (rA 9) (rA 1) (ai 2)) (ai 4), hC 0 5], []⟩
def ovrI : Inv := ⟨[.int], [(4, .one (.int .i64 (di 0)))], [.arr hE (ai 0) (usR 534 (rA 9) (rA 1) (di 0)) (ai 4)], [eLe z0 (di 0), eLe (di 0) (ai 2)], .f2 41 (ai 2) (di 0)⟩
def ZIy : Cx := { specs := [], anns := [(10, [(1, .inv ovrI)])] }
def Zs7 : Ctr := ⟨[.int, .rows, .int, .int, .int] ++ hA, [.one (slC (ai 0) (ai 2) (ai 3) 6), .one (hS 5)], [.arr hE (ai 0) (rA 1) (ai 4), hC 0 5], [eLe z0 (ai 2), .f2 45 (Zr (rA 1)) (SX.mk2 40 (ai 2) (.int 3)), eLe (SX.mk2 40 (ai 2) (.int 3)) (ai 3), .f2 45 (ai 2) (ai 7), .us .bool 535 (rA 1) z0 (ai 2) (rA 9), .us .bool 535 (rA 1) (ai 2) (SX.mk2 40 (ai 2) (.int 3)) (.f2 121 (rA 9) mksX)] ++ hQ 5, [.bool], .one (.bool (qA 11)), [hC 0 5], [qA 11]⟩
def aslI : Inv := ⟨[.int, .rows], [(7, .one (.int .i64 (di 0))), (6, .one (.bool (.bool true)))], [.arr hE (ai 0) (rA 1000001) (ai 4)], [eLe z0 (di 0), eLe (di 0) (SX.mk2 40 (ai 2) (.int 3)), .f2 45 (Zr (rA 1000001)) (Zr (rA 1)), .us .bool 535 (rA 1000001) (di 0) (SX.mk2 40 (ai 2) (.int 3)) (rA 1)], .f2 41 (SX.mk2 40 (ai 2) (.int 3)) (di 0)⟩
def ZF0 : Cx := { specs := [], anns := [(11, [(6, .inv aslI)])] }
def ZC1 : SX := e (a 0) (k 2)
def Zxt : SX := .f2 150 (b 2) (b 2)
def ZCg : SX := .f2 150 (b 3) (b 3)
def ZAv : SX := e (a 5) z
def ZCr : SX := .f2 49 (.f2 48 (q 4) (q 4)) ZAv
def ZCD : SX := .f2 49 Zxt (.f2 49 ZCg ZCr)
def ZEr : SX := l z (a 1)
def ZyN : SX := .f2 150 (b 2) (.byt [])
def ZrH : SX := p 510 (.f2 122 (a 0) (.f2 122 (a 1) (.f2 122 (.f1 35 (b 2)) (.f2 122 (.f1 35 (b 3)) (.f2 122 (.f1 3 (q 4)) (.f2 122 (a 5) (.f1 152 z)))))))
def ZwA : SX := .f2 48 (.f1 2 ZyN) ZrH
def ZvX : SX := t (a 1) z
def Za1 : SX := .f2 48 (.bool false) ZrH
def ZpC : SX := .f2 150 (b 3) (.byt [])
def Zwt : SX := .f2 49 Zxt (.f2 49 ZpC ZCr)
def Zwo : SX := e (a 0) (k 3)
def Zxs : SX := .f2 49 Zxt (.f2 49 ZCg (.f2 49 (.f2 48 (q 4) (.bool true)) ZAv))
def ZkH : SX := t z (a 1)
def Zra : SX := l (a 1) z
def Ztn : SX := e (a 0) (k 4)
def Zte : SX := .f2 48 (q 4) (.bool false)
def Zu9 : SX := .f2 49 ZpC (.f2 49 Zte ZAv)
def ZvQ : SX := .f2 49 Zxt Zu9
def ZsI : SX := e (a 0) (k 5)
def Zv9 : SX := .f2 49 ZyN (.f2 49 ZpC Zte)
def ZqJ : SX := e (a 0) (k 1)
def ZlJ : SX := .f2 49 ZyN Zu9
def Zv7 : SX := .f2 48 ZkH ZrH
def Zvt : SX := .f1 2 ZlJ
def Zv2 : SX := e (a 0) (k 6)
def ZpF : SX := e (a 0) (k 7)
def ZIg : VC := u 6 .int (i (l z (a 6)) (u 7 .int (i (l z (a 7)) (.and (i ZC1 (.and (i (q 4) (.and (i ZCD (.and (i ZEr (n ZwA .tt)) (i ZvX (n Za1 .tt)))) (i (.f1 2 ZCD) (n Za1 .tt)))) (i (.f1 2 (q 4)) (.and (i Zwt (.and (i ZEr (n ZwA .tt)) (i ZvX (n Za1 .tt)))) (i (.f1 2 Zwt) (n Za1 .tt)))))) (i (.f1 2 ZC1) (.and (i Zwo (.and (i Zxs (.and (i ZkH (n ZwA .tt)) (i Zra (n Za1 .tt)))) (i (.f1 2 Zxs) (n Za1 .tt)))) (i (.f1 2 Zwo) (.and (i Ztn (.and (i ZvQ (.and (i ZkH (n ZwA .tt)) (i Zra (n Za1 .tt)))) (i (.f1 2 ZvQ) (n Za1 .tt)))) (i (.f1 2 Ztn) (.and (i ZsI (.and (i Zv9 (.and (i ZkH (.and (i (l (k 1) (a 5)) (n (.f2 48 (l (a 5) k0) ZrH) .tt)) (i (t (a 5) (k 1)) (n Za1 .tt)))) (i Zra (n Za1 .tt)))) (i (.f1 2 Zv9) (n Za1 .tt)))) (i (.f1 2 ZsI) (.and (i ZqJ (.and (i ZqJ (.and (i ZlJ (n Zv7 .tt)) (i Zvt (n Za1 .tt)))) .tt)) (i (.f1 2 ZqJ) (.and (i Zv2 (.and (i ZlJ (n Zv7 .tt)) (i Zvt (n Za1 .tt)))) (i (.f1 2 Zv2) (.and (i ZpF (n (.f2 48 (.f2 49 ZpF (.f2 49 (e (a 1) z) ZlJ)) ZrH) .tt)) (i (.f1 2 ZpF) (n Za1 .tt))))))))))))))))))
theorem ZHL : Zdt Tryz.prog ZGV 12 52 ZvR = ZIg := by kernel_rfl
def ZD6 : SX := l z (a 6)
def ZEa : SX := .f1 2 (c 511 (r 4) (a 2))
def Zsa : SX := .f2 40 (a 6) (k 1)
def ZCf : SX := .f2 41 (a 2) Zsa
def ZGm : VC := i (l z (a 2)) (i (l (a 2) (.f1 32 (r 4))) (i (l (a 2) (a 3)) (i (l (a 2) k0) (n (p 511 (r 4)) (u 6 .int (i ZD6 (i (l (a 6) (a 2)) (i (c 511 (r 4) (a 6)) (.and (i (t (a 6) (a 2)) (n (t (a 6) (.f1 32 (r 4))) (u 7 .int (i (l z (a 7)) (u 8 .bool (i (.f2 48 (q 8) (p 510 (.f2 122 (.f3 112 (r 4) (a 6) z) (.f2 122 (.f3 112 (r 4) (a 6) (k 1)) (.f2 122 (.f1 35 (.f1 36 (.f3 112 (r 4) (a 6) (k 2)))) (.f2 122 (.f1 35 (.f1 36 (.f3 112 (r 4) (a 6) (k 3)))) (.f2 122 (.f1 3 (.f1 2 (e (.f3 112 (r 4) (a 6) (k 4)) z))) (.f2 122 (.f3 112 (r 4) (a 6) (k 5)) (.f1 152 z))))))))) (.and (i (.f1 2 (q 8)) (n (.f2 48 ZD6 ZEa) .tt)) (i (.f1 2 (.f1 2 (q 8))) (n (.f1 23 Zsa) (n (l z ZCf) (n (t ZCf (.f2 41 (a 2) (a 6))) (n (l z Zsa) (n (l Zsa (a 2)) (n (c 511 (r 4) Zsa) .tt)))))))))))))) (i (l (a 2) (a 6)) (n (.f2 48 (.bool false) ZEa) .tt)))))))))))
theorem ZHu : Zdt Tryz.prog ZFZ 12 50 Ztf = ZGm := by kernel_rfl
def ZEI : SX := .f2 141 (m 1) (.f1 35 (b 4))
def ZCO : SX := .f3 140 z (m 1) (.f1 35 (b 4))
def ZFc : SX := .f2 48 (q 6) (e (.f2 44 ZCO (k 2)) z)
def ZCm : SX := .f1 2 (.f1 2 (q 6))
def ZzB : SX := c 530 (m 1) (.f2 122 (a 2) (.f2 122 (a 3) (.f2 122 (.f1 35 (b 4)) (.f2 122 (.f1 35 (b 5)) (.f2 122 (.f1 3 (q 6)) (.f2 122 (a 7) (.f1 152 z)))))))
def ZE6 : SX := .f2 48 (.f2 150 (b 5) (.f1 36 (.f2 43 ZCO (k 2)))) ZzB
def ZFn : SX := .f2 48 (.bool true) ZzB
def ZDG : SX := .f2 48 (.bool false) ZzB
def ZDf : SX := .f2 48 (q 6) (.bool false)
def ZIn : VC := i (l z (a 0)) (u 8 .int (i (l z (a 8)) (u 9 .int (i (l z (a 9)) (.and (i ZEI (.and (i ZFc (.and (i ZCm (n ZE6 .tt)) (i (.f1 2 (q 6)) (n ZFn .tt)))) (i (.f1 2 ZFc) (n ZDG .tt)))) (i (.f1 2 ZEI) (.and (i ZDf (.and (i ZCm (n ZE6 .tt)) (i (.f1 2 (q 6)) (n ZFn .tt)))) (i (.f1 2 ZDf) (n ZDG .tt)))))))))
theorem ZGr : Zdt Tryz.prog ZFN 12 47 Zl5 = ZIn := by kernel_rfl
def ZDH : SX := .f2 143 (m 5) (.f1 35 (b 8))
def ZBR : SX := .f3 140 z (m 3) (.f1 35 (b 8))
def ZIu : VC := i (l z (a 0)) (i (l z (a 2)) (i (p 536 (m 3)) (u 4 .int (i (l z (a 4)) (n (.us .bool 532 (m 1) (m 3) (m 3) (m 1)) (u 5 .amap (u 6 .ints (u 7 .amap (i (.us .bool 532 (m 1) (m 3) (m 5) (m 7)) (.and (i (e (.f1 33 (m 5)) z) (n (y 531 (m 1) (m 3) (m 7)) .tt)) (u 8 .bytes (i (.f2 141 (m 5) (.f1 35 (b 8))) (u 9 .int (i (l z (a 9)) (n (t (.f1 33 ZDH) (.f1 33 (m 5))) (n (.us .bool 532 (m 1) (m 3) ZDH (.f3 142 (m 7) (.f1 35 (b 8)) (.f2 40 (.f2 42 (.f1 35 (.f1 36 (.f2 43 ZBR (k 2)))) (k 2)) (.f1 3 (.f1 2 (e (.f2 44 ZBR (k 2)) z)))))) .tt))))))))))))))))
theorem ZHt : Zdt Tryz.prog ZGd 12 26 Zxv = ZIu := by kernel_rfl
def ZFa : SX := .f2 115 (r 4) (a 2)
def Zno : SX := .f2 40 (a 2) (k 1)
def ZC2 : SX := .f2 115 ZFa (a 2)
def Zm2 : SX := .f2 40 (a 2) (k 2)
def ZFe : SX := .f2 122 z (.f2 122 z (.f1 152 z))
def ZyP : SX := .f2 124 (.f2 122 (k (-7)) (.f2 122 z (.f2 122 (.f1 35 (.byt [])) (.f2 122 (.f1 35 (.byt [])) ZFe)))) (.f1 154 z)
def ZCz : SX := .f2 115 (.f2 121 ZC2 ZyP) Zno
def ZtI : SX := .f2 40 (a 2) (k 3)
def ZB0 : SX := l z (a 15)
def ZAx : SX := .f2 122 (k (-7)) (.f2 122 z (.f2 122 z (.f2 122 z ZFe)))
def ZIa : VC := i (l z (a 2)) (i (e (a 2) (.f1 32 (r 4))) (i (l (a 2) (a 3)) (i (l (a 2) k0) (n (l (.f2 42 (a 2) (k 64)) k1) (n (l (a 2) (.f1 32 (r 4))) (u 6 .int (u 7 .int (i (l (a 2) (a 7)) (i (.f2 50 (l z (a 6)) (e (a 2) z)) (u 8 .int (i (l z (a 8)) (n (l (a 2) (.f1 32 ZFa)) (n (l (.f2 42 Zno (k 64)) k1) (u 9 .int (u 10 .int (i (l Zno (a 10)) (i (.f2 50 (l z (a 9)) (e Zno z)) (u 11 .int (i (l z (a 11)) (n (l z Zno) (n (l Zno (.f2 40 (.f1 32 ZC2) (k 1))) (n (l (.f2 42 Zm2 (k 64)) k1) (u 12 .int (u 13 .int (i (l Zm2 (a 13)) (i (.f2 50 (l z (a 12)) (e Zm2 z)) (u 14 .int (i (l z (a 14)) (n (l z Zm2) (n (l Zm2 (.f2 40 (.f1 32 ZCz) (k 1))) (n (l (.f2 42 ZtI (k 64)) k1) (u 15 .int (u 16 .int (i (l ZtI (a 16)) (i (.f2 50 ZB0 (e ZtI z)) (n (l z ZtI) (n (l z (a 16)) (n (l (a 2) (a 16)) (n ZB0 (n (.f2 155 (.f2 121 (r 4) (.f2 124 ZAx (.f2 124 ZAx (.f2 124 ZAx (.f1 154 z))))) (.f2 121 (.f2 115 (.f2 121 ZCz ZyP) Zm2) ZyP)) .tt))))))))))))))))))))))))))))))))))))))))
theorem ZHs : Zdt Tryz.prog ZGS 12 7 ZxW = ZIa := by kernel_rfl
def ZAV : SX := .f2 40 (a 2) (k (-1))
def ZCM : SX := wR 533 (r 4) (.f2 41 (a 2) (a 2))
def ZDL : SX := .f1 32 ZCM
def ZEO : SX := e ZDL z
def ZCj : SX := .f2 40 (a 6) (k 1)
def ZAH : SX := wR 533 (r 4) (.f2 41 (a 2) ZCj)
def Znz : SX := .f1 32 ZAH
def ZDx : SX := l z (a 7)
def Zuy : SX := .f2 40 Znz (k 1)
def ZEF : SX := l z (a 10)
def ZqA : SX := .f2 40 (a 6) (k (-1))
def ZxP : SX := wR 533 (r 4) (.f2 41 (a 2) (a 6))
def ZqH : SX := .f1 32 ZxP
def ZHn : VC := i (l z (a 2)) (i (e (a 2) (.f1 32 (r 4))) (i (l (a 2) (a 3)) (i (l (a 2) k0) (n (.f1 23 ZAV) (n (l (k (-1)) ZAV) (n (t ZAV (a 2)) (n (l ZDL z) (n (.f2 50 (.bool false) ZEO) (n (.f2 155 ZCM (.f1 154 z)) (n ZEO (u 6 .int (u 7 .int (u 8 .int (i (l (k (-1)) (a 6)) (i (t (a 6) (a 2)) (i (l Znz (a 8)) (i (.f2 50 ZDx (e Znz z)) (.and (i (l z (a 6)) (n (t (a 6) (.f1 32 (r 4))) (u 9 .int (i (l z (a 9)) (n (l Znz Znz) (n (l (.f2 42 Zuy (k 64)) k1) (u 10 .int (u 11 .int (i (l Zuy (a 11)) (i (.f2 50 ZEF (e Zuy z)) (n (.f1 23 ZqA) (n (t (a 6) ZCj) (n (l (k (-1)) ZqA) (n (t ZqA (a 2)) (n (l ZqH (a 11)) (n (.f2 50 ZEF (e ZqH z)) (n (.f2 155 ZxP (.f2 121 ZAH (.f2 124 (.f2 122 (.f3 112 (r 4) (a 6) z) (.f2 122 (.f3 112 (r 4) (a 6) (k 1)) (.f2 122 (.f1 35 (.f1 36 (.f3 112 (r 4) (a 6) (k 2)))) (.f2 122 (.f1 35 (.f1 36 (.f3 112 (r 4) (a 6) (k 3)))) (.f2 122 (.f1 3 (.f1 2 (e (.f3 112 (r 4) (a 6) (k 4)) z))) (.f2 122 (.f3 112 (r 4) (a 6) (k 5)) (.f1 152 z))))))) (.f1 154 z)))) (n (e ZqH Zuy) .tt)))))))))))))))))) (i (t (a 6) z) (n (l (a 2) (a 8)) (n (.f2 50 ZDx (e (a 2) z)) (n (.f2 155 (wR 533 (r 4) (a 2)) ZAH) (n (e (a 2) Znz) .tt)))))))))))))))))))))))
theorem ZG9 : Zdt Tryz.prog ZFM 12 9 Zw5 = ZHn := by kernel_rfl
def ZAR : SX := hR0 534 (r 9) (r 1) (a 11)
def Zr8 : SX := .f2 40 (a 11) (k 1)
def ZFh : SX := .f2 41 (a 2) Zr8
def ZHh : VC := i (l z (a 2)) (i (l (a 2) (.f1 32 (r 1))) (i (l (a 2) (a 3)) (i (e (a 2) (a 7)) (i (l z (a 7)) (i (e (a 7) (.f1 32 (r 9))) (i (l (a 7) (a 8)) (i (l (a 7) k0) (n (.f2 155 (wR 534 (r 9) (r 1)) (r 1)) (u 11 .int (i (l z (a 11)) (i (l (a 11) (a 2)) (.and (i (t (a 11) (a 2)) (n (t (a 11) (a 7)) (n (t (a 11) (.f1 32 (r 9))) (n (t (a 11) (.f1 32 ZAR)) (n (.f1 23 Zr8) (n (l z ZFh) (n (t ZFh (.f2 41 (a 2) (a 11))) (n (l z Zr8) (n (l Zr8 (a 2)) (n (.f2 155 (hR0 534 (r 9) (r 1) Zr8) (.f3 132 ZAR (a 11) (.f2 122 (.f3 112 (r 9) (a 11) z) (.f2 122 (.f3 112 (r 9) (a 11) (k 1)) (.f2 122 (.f1 35 (.f1 36 (.f3 112 (r 9) (a 11) (k 2)))) (.f2 122 (.f1 35 (.f1 36 (.f3 112 (r 9) (a 11) (k 3)))) (.f2 122 (.f1 3 (.f1 2 (e (.f3 112 (r 9) (a 11) (k 4)) z))) (.f2 122 (.f3 112 (r 9) (a 11) (k 5)) (.f1 152 z))))))))) .tt)))))))))) (i (l (a 2) (a 11)) (n (.f2 155 (hR0 534 (r 9) (r 1) (a 2)) ZAR) .tt))))))))))))))
theorem ZIB : Zdt Tryz.prog ZIy 12 10 ZuJ = ZHh := by kernel_rfl
def ZfX : SX := .f2 40 (a 2) (k 3)
def ZDM : SX := e (a 2) (a 7)
def ZFo : SX := .f2 122 z (.f2 122 z (.f1 152 z))
def Zzx : SX := .f2 122 (k (-7)) (.f2 122 z (.f2 122 z (.f2 122 z ZFo)))
def ZrD : SX := .f2 40 (a 7) (k 3)
def ZEL : SX := t (a 11) (.f1 32 (r 12))
def Zrv : SX := .f2 40 (a 11) (k 1)
def ZDb : SX := .f1 23 Zrv
def ZCY : SX := .f2 41 ZfX Zrv
def ZBH : SX := l z ZCY
def Zu7 : SX := t ZCY (.f2 41 ZfX (a 11))
def Zxi : SX := l z Zrv
def ZuS : SX := l Zrv ZfX
def Zx6 : SX := .us .bool 535 (.f3 132 (r 12) (a 11) (.f2 122 (k (-8)) (.f2 122 z (.f2 122 (.f1 35 (.byt [])) (.f2 122 (.f1 35 (.byt [])) ZFo))))) Zrv ZfX (r 1)
def ZxB : SX := .f3 112 (r 12) (a 11) z
def Zvw : SX := .f3 112 (r 12) (a 11) (k 1)
def Zx3 : SX := .f1 36 (.f3 112 (r 12) (a 11) (k 2))
def ZtQ : SX := .f1 36 (.f3 112 (r 12) (a 11) (k 3))
def Zve : SX := .f1 2 (e (.f3 112 (r 12) (a 11) (k 4)) z)
def Zu4 : SX := .f3 112 (r 12) (a 11) (k 5)
def ZHP : VC := i (l z (a 2)) (i (e (.f1 32 (r 1)) ZfX) (i (l ZfX (a 3)) (i ZDM (i (.us .bool 535 (r 1) z (a 2) (r 9)) (i (.us .bool 535 (r 1) (a 2) ZfX (.f2 121 (r 9) (.f2 124 Zzx (.f2 124 Zzx (.f2 124 Zzx (.f1 154 z)))))) (i (l z (a 7)) (i (e (a 7) (.f1 32 (r 9))) (i (l (a 7) (a 8)) (i (l (a 7) k0) (.and .tt (i ZDM (n (.f1 23 ZrD) (n (l z (a 3)) (n (l z ZrD) (n (l ZrD (a 3)) (n (l z ZfX) (n (e (.f1 32 (r 1)) (.f1 32 (r 1))) (n (.us .bool 535 (r 1) z ZfX (r 1)) (u 11 .int (u 12 .rows (i (l z (a 11)) (i (l (a 11) ZfX) (i (e (.f1 32 (r 12)) (.f1 32 (r 1))) (i (.us .bool 535 (r 12) (a 11) ZfX (r 1)) (.and (i (t (a 11) ZrD) (u 13 .int (i (l z (a 13)) (.and (i (t (a 11) (a 7)) (n (t (a 11) (.f1 32 (r 9))) (n ZEL (n ZDb (n ZBH (n Zu7 (n Zxi (n ZuS (n Zx6 (n (.f2 155 (.bool true) (.f2 49 (e ZxB (.f3 112 (r 9) (a 11) z)) (.f2 49 (e Zvw (.f3 112 (r 9) (a 11) (k 1))) (.f2 49 (.f2 150 Zx3 (.f1 36 (.f3 112 (r 9) (a 11) (k 2)))) (.f2 49 (.f2 150 ZtQ (.f1 36 (.f3 112 (r 9) (a 11) (k 3)))) (.f2 49 (.f2 48 Zve (.f1 2 (e (.f3 112 (r 9) (a 11) (k 4)) z))) (e Zu4 (.f3 112 (r 9) (a 11) (k 5))))))))) .tt)))))))))) (i (l (a 7) (a 11)) (n ZEL (n ZDb (n ZBH (n Zu7 (n Zxi (n ZuS (n Zx6 (n (.f2 155 (.bool true) (.f2 49 (e ZxB (k (-7))) (.f2 49 (e Zvw z) (.f2 49 (.f2 150 Zx3 (.byt [])) (.f2 49 (.f2 150 ZtQ (.byt [])) (.f2 49 (.f2 48 Zve (.bool false)) (e Zu4 z))))))) .tt))))))))))))) (i (l ZrD (a 11)) .tt))))))))))))))))))))))))))
theorem ZGP : Zdt Tryz.prog ZF0 12 11 Zs7 = ZHP := by kernel_rfl
theorem ZGT (S : Sig GG) (hS : JbSig S) : ZG S Tryz.prog 52 ZvR := by
 refine Zh S (C := ZGV) (fuel := 12) (YC trivial trivial trivial) fun ρ => ?_
 rw [ZHL]
 simp only [ZIg, ZC1, Zxt, ZCg, ZAv, ZCr, ZCD, ZEr, ZyN, ZrH, ZwA, ZvX, Za1, ZpC, Zwt, Zwo, Zxs, ZkH, Zra, Ztn, Zte, Zu9, ZvQ, ZsI, Zv9, ZqJ, ZlJ, Zv7, Zvt, Zv2, ZpF, hS.rf.u510, VC.den, SX.den, Env.upd, YA, ZV, beq_iff_eq, ZIZ, beq_eq_false_iff_ne, ne_eq, ZIY, ZIX, Int.reduceToNat, Nat.reduceEqDiff, reduceIte, sB, sC]
 generalize (ρ 0).tI = k
 generalize (ρ 1).tI = w
 generalize (ρ 2).tB = a
 generalize (ρ 3).tB = b
 generalize (ρ 4).toBool = c
 generalize (ρ 5).tI = d
 unfold ZcA xk xw Yp Zbl Zdq xt leB ltB
 simp only [List.getD_cons_zero, List.getD_cons_succ, ZI7, Zt, ZeW]
 have hw : ∀ x y : Int, (x == y) = decide (x = y) := fun x y => by rw [Bool.eq_iff_iff]; simp
 have ha : ∀ x : List UInt8, (x == x) = true := fun x => by simp
 have hc : (c == c) = true := by simp
 simp only [hw, ha, hc, Bool.true_and]
 generalize (a == []) = A
 generalize (b == []) = B
 intro _ _ _ _
 repeat' (first | exact trivial | apply And.intro | intro _)
 all_goals (try simp_all)
 all_goals (first | omega | (cases A <;> cases B <;> cases c <;> simp_all))
theorem ZGt (S : Sig GG) (hS : JbSig S) : ZG S Tryz.prog 50 Ztf := by
 refine Zh S (C := ZFZ) (fuel := 12) (YC ⟨Zk (by decide) (ZGT S hS), trivial⟩ ⟨⟨trivial, trivial⟩, trivial⟩ trivial) fun ρ => ?_
 rw [ZHu]
 simp only [ZGm, ZD6, ZEa, Zsa, ZCf, hS.rf.u510, hS.rf.u511, VC.den, SX.den, Env.upd, YA, ZV, beq_iff_eq, ZIZ, beq_eq_false_iff_ne, ne_eq, ZIY, ZIX, Int.reduceToNat, Nat.reduceEqDiff, reduceIte, sB, sC]
 generalize (ρ 4).tR = X
 generalize (ρ 2).tI = l
 intro h1 h2 h3 h4
 refine ⟨ZE fun i hi => absurd hi (Nat.not_lt_zero _), fun x hx0 hx1 hx2 => ?_⟩
 obtain ⟨n, rfl⟩ := ZIS hx0
 have e1 : ((n : Int) + 1).toNat = n + 1 := by omega
 simp only [e1, ZI7] at hx2 ⊢
 have hx2 := (Zo (p := ∀ i < n, ZcA (xa X i) = true)).mp hx2
 rw [may_nr']
 refine ⟨fun hlt => ⟨by omega, fun _ _ y hy => ⟨fun q => ⟨?_, trivial⟩, fun q => ⟨by omega, by omega, by omega, by omega, by omega, ZE fun i hi => ?_, trivial⟩⟩⟩, fun hge => ⟨?_, trivial⟩⟩
 ·have hf : Zkv X l.toNat = false := ZF fun h => by
   have := h n (by omega)
   have hy : y = ZcA (xa X n) := hy
   rw [<- hy, q] at this; cases this
  rw [hf, Za.2 (by omega)]; rfl
 ·rcases ZIU i n with h | h
  ·exact hx2 i h
  ·rw [show i = n by omega]
   have hy : y = ZcA (xa X n) := hy
   rw [<- hy, q]
 ·have hf : Zkv X l.toNat = true := ZE fun i hi => hx2 i (by omega)
  rw [hf]; rfl
theorem ZtG (S : Sig GG) (hS : JbSig S) : ZG S Tryz.prog 47 Zl5 := by
 refine Zh S (C := ZFN) (fuel := 12) (YC trivial trivial trivial) fun ρ => ?_
 rw [ZGr]
 simp only [ZIn, ZEI, ZCO, ZFc, ZCm, ZzB, ZE6, ZFn, ZDG, ZDf, hS.u530, VC.den, SX.den, Env.upd, YA, ZV, beq_iff_eq, ZIZ, beq_eq_false_iff_ne, ne_eq, ZIY, ZIX, Int.reduceToNat, Nat.reduceEqDiff, reduceIte, sB, sC]
 generalize (ρ 1).tM = M
 generalize (ρ 2).tI = k
 generalize (ρ 3).tI = w
 generalize (ρ 4).tB = a
 generalize (ρ 5).tB = b
 generalize (ρ 6).toBool = c
 generalize (ρ 7).tI = d
 unfold Z5 kc Yp Zbl Zdq
 simp only [List.getD_cons_zero, List.getD_cons_succ, ZI7, Zt, ZeW]
 generalize Zu M (ZP a : Nat) = h
 generalize Zas 0 M (ZP a : Nat) = g
 have hd : (g.tmod 2 == 0) = decide (g.tmod 2 = 0) := by rw [Bool.eq_iff_iff]; simp
 rw [hd]
 generalize decide (g.tmod 2 = 0) = e
 generalize (b == Zcw (g.tdiv 2).toNat) = f
 intro _ _ _ _ _
 cases h <;> cases c <;> cases e <;> cases f <;> simp
theorem ZHB (S : Sig GG) (hS : JbSig S) : ZG S Tryz.prog 26 Zxv := by
 refine Zh S (C := ZGd) (fuel := 12) (YC trivial ⟨⟨⟨by decide, ZGh S hS⟩, trivial, trivial⟩, trivial⟩ trivial) fun ρ => ?_
 rw [ZHt]
 simp only [ZIu, ZDH, ZBR, hS.u531, hS.u532, hS.u536, VC.den, SX.den, Env.upd, YA, ZV, beq_iff_eq, ZIZ, beq_eq_false_iff_ne, ne_eq, ZIY, ZIX, Int.reduceToNat, Nat.reduceEqDiff, reduceIte, sB, sC]
 generalize (ρ 1).tM = M
 generalize (ρ 3).tM = N
 intro h1 h2 h3 _ _
 refine ⟨⟨h3, fun k hk => hk, fun k => ⟨?_, ?_⟩⟩, fun L _ R hL => ⟨fun hz => ⟨?_, trivial⟩, fun t ht _ _ => ⟨by have := ZeT ht; omega, ?_, trivial⟩⟩⟩
 ·cases Zu N k <;> simp
 ·rw [if_neg (by rintro ⟨a, b⟩; rw [a] at b; cases b)]
 ·have hz : L = [] := ZJf (by omega)
  subst hz
  obtain ⟨_, _, hl⟩ := hL
  intro k
  obtain ⟨a, b⟩ := hl k
  have hm : Zu [] k = false := rfl
  rw [hm] at a b
  refine ⟨by rw [a]; simp, ?_⟩
  rw [b]
  by_cases q : Zu N k = true
  ·rw [if_pos ⟨q, rfl⟩, if_pos q]
  ·rw [if_neg (fun h => q h.1), if_neg q]
 ·obtain ⟨l1, l2, l3⟩ := hL
  refine ⟨ZbU l1 _, fun k hk => ?_, fun k => ?_⟩
  ·rw [ZaS l1] at hk
   exact l2 k (by simp at hk; exact hk.2)
  ·obtain ⟨a, b⟩ := l3 k
   have hN := l2 _ ht
   rw [ZpN, Zqw, ZaS l1, a]
   by_cases hk : ((ZP t : Nat) : Int) = k
   ·subst hk
    refine ⟨by rw [hN]; simp, ?_⟩
    rw [if_pos rfl, if_pos ⟨hN, by simp⟩, ZGv]
    unfold vw
    have hd : ((Zas 0 N ((ZP t : Nat) : Int)).tmod 2 == 0) = decide ((Zas 0 N ((ZP t : Nat) : Int)).tmod 2 = 0) := by rw [Bool.eq_iff_iff]; simp
    rw [ZIY, hd]
   ·rw [if_neg hk, b]
    simp [hk]
theorem ZFG (S : Sig GG) (hS : JbSig S) : ZG S Tryz.prog 7 ZxW := by
 refine Zh S (C := ZGS) (fuel := 12) (YC trivial trivial trivial) fun ρ => ?_
 rw [ZHs]
 simp only [ZIa, ZFa, Zno, ZC2, Zm2, ZFe, ZyP, ZCz, ZtI, ZB0, ZAx, VC.den, SX.den, Env.upd, YA, ZV, beq_iff_eq, ZIZ, beq_eq_false_iff_ne, ne_eq, ZIY, ZIX, Int.reduceToNat, Nat.reduceEqDiff, reduceIte, sB, sC]
 generalize (ρ 4).tR = X
 generalize (ρ 2).tI = l
 intro h1 h2 h3 h4
 have m0 : ([-7, 0, ((ZP [] : Nat) : Int), ((ZP [] : Nat) : Int), 0, 0] : List Int) = Zkr := rfl
 have ht : X.take l.toNat = X := ZJc (by omega)
 have ht2 : (X ++ [Zkr]).take (l + 1).toNat = X ++ [Zkr] := ZJc (by rw [ZI5, ZIO]; omega)
 have ht3 : (X ++ [Zkr] ++ [Zkr]).take (l + 2).toNat = X ++ [Zkr] ++ [Zkr] := ZJc (by rw [ZI5, ZI5, ZIO]; omega)
 simp only [m0, ht, ht2, ht3, ZI5, ZIO]
 repeat' (first | exact trivial | omega | apply And.intro | intro _)
 simp [Zkr]
theorem ZF3 (S : Sig GG) (hS : JbSig S) : ZG S Tryz.prog 9 Zw5 := by
 refine Zh S (C := ZFM) (fuel := 12) (YC trivial ⟨⟨⟨by decide, ZFW S⟩, trivial, trivial⟩, trivial⟩ trivial) fun ρ => ?_
 rw [ZG9]
 simp only [ZHn, ZAV, ZCM, ZDL, ZEO, ZCj, ZAH, Znz, ZDx, Zuy, ZEF, ZqA, ZxP, ZqH, hS.u533, VC.den, SX.den, Env.upd, YA, ZV, beq_iff_eq, ZIZ, beq_eq_false_iff_ne, ne_eq, ZIY, ZIX, Int.reduceToNat, Nat.reduceEqDiff, reduceIte, sB, sC]
 simp only [ZBf]
 generalize (ρ 4).tR = X
 generalize (ρ 2).tI = l
 intro h1 h2 h3 h4
 have z : Zsq X (l - l).toNat = [] := ZJf (by rw [ZhN (by omega)]; omega)
 rw [z]
 refine ⟨by omega, by omega, by omega, by show ((0 : Nat) : Int) <= 0; omega, .inr rfl, rfl, rfl, fun x b c hx0 hx1 hx2 hx3 => ⟨fun hx => ?_, fun hx => ?_⟩⟩
 ·obtain ⟨n, rfl⟩ := ZIS hx
  have e1 : (l - ((n : Int) + 1)).toNat = X.length - (n + 1) := by omega
  have e2 : (l - (n : Int)).toNat = X.length - n := by omega
  have hs := ZAN (x := X) (i := n) (by omega)
  have l1 := ZhN (x := X) (n := X.length - (n + 1)) (by omega)
  have l2 := ZhN (x := X) (n := X.length - n) (by omega)
  simp only [e1, e2, ZI7, l1, l2] at hx2 hx3 ⊢
  refine ⟨by omega, fun _ _ => ⟨by omega, by omega, fun b' c' hc' hb' => ⟨by omega, by omega, by omega, by omega, by omega, by omega, hs, by omega, trivial⟩⟩⟩
 ·have e1 : (l - (x + 1)).toNat = l.toNat := by omega
  rw [e1] at hx2 hx3 ⊢
  have l2 := ZhN (x := X) (n := l.toNat) (by omega)
  rw [l2] at hx2 hx3 ⊢
  exact ⟨by omega, by omega, rfl, by omega, trivial⟩
theorem ZIE (S : Sig GG) (hS : JbSig S) : ZG S Tryz.prog 10 ZuJ := by
 refine Zh S (C := ZIy) (fuel := 12) (YC trivial ⟨⟨trivial, trivial⟩, trivial⟩ trivial) fun ρ => ?_
 rw [ZIB]
 simp only [ZHh, ZAR, Zr8, ZFh, hS.u534, VC.den, SX.den, Env.upd, YA, ZV, beq_iff_eq, ZIZ, beq_eq_false_iff_ne, ne_eq, ZIY, ZIX, Int.reduceToNat, Nat.reduceEqDiff, reduceIte, sB, sC]
 generalize (ρ 9).tR = H
 generalize (ρ 1).tR = X
 generalize (ρ 2).tI = l
 intro h1 h2 h3 h4 h5 h6 h7 h8
 refine ⟨by simp, fun x hx0 hx1 => ?_⟩
 obtain ⟨n, rfl⟩ := ZIS hx0
 have e1 : ((n : Int) + 1).toNat = n + 1 := by omega
 simp only [e1, ZI7]
 refine ⟨fun hlt => ⟨by omega, by omega, ?_, by omega, by omega, by omega, by omega, by omega, ?_, trivial⟩, fun hge => ⟨by rw [show l.toNat = n by omega], trivial⟩⟩
 ·simp only [ZI5, ZJa, ZI2, ZJe]; omega
 ·rw [ZBf]
  have hnl : n < H.length := by omega
  have hnx : n < X.length := by omega
  have e2 : H.take (n + 1) = H.take n ++ [H.getD n []] := by
   rw [ZI0, ZI3 hnl, ZIV]
   exact (List.take_append_getElem hnl).symm
  have e3 : X.drop n = X[n] :: X.drop (n + 1) := List.drop_eq_getElem_cons hnx
  rw [e2, e3, ZJg, ZJo]
  rw [List.set_append_right _ _ (by simp; omega)]
  simp only [ZJa, ZI2]
  rw [show n - min n H.length = 0 by omega]
  rfl
theorem ZF6 (S : Sig GG) (hS : JbSig S) : ZG S Tryz.prog 11 Zs7 := by
 refine Zh S (C := ZF0) (fuel := 12) (YC trivial ⟨⟨trivial, trivial⟩, trivial⟩ trivial) fun ρ => ?_
 rw [ZGP]
 simp only [ZHP, ZfX, ZDM, ZFo, Zzx, ZrD, ZEL, Zrv, ZDb, ZCY, ZBH, Zu7, Zxi, ZuS, Zx6, ZxB, Zvw, Zx3, ZtQ, Zve, Zu4, hS.u535, VC.den, SX.den, Env.upd, YA, ZV, beq_iff_eq, ZIZ, beq_eq_false_iff_ne, ne_eq, ZIY, ZIX, Int.reduceToNat, Nat.reduceEqDiff, reduceIte, sB, sC]
 generalize (ρ 9).tR = H
 generalize (ρ 1).tR = X
 generalize (ρ 2).tI = l
 generalize (ρ 7).tI = m
 intro h1 h2 h3 h4 h5 h6 h7 h8 h9 h10
 subst h4
 refine ⟨trivial, fun _ => ⟨by omega, by omega, by omega, by omega, by omega, trivial, fun i _ _ => rfl, fun x Y hx0 hx1 hY hE => ⟨fun hlt _ _ => ?_, fun _ => trivial⟩⟩⟩
 obtain ⟨n, rfl⟩ := ZIS hx0
 simp only [ZI7]
 have Zag : ∀ r : Ent, ∀ i : Nat, (n : Int) + 1 <= i -> (i : Int) < l + 3 -> eqE (xa (Y.set n r) i) (xa X i) := fun r i hi1 hi2 => by
  rw [ZxF (by omega)]; exact hE i (by omega) hi2
 have hn := hE n (by omega) (by omega)
 refine ⟨fun hl => ⟨by omega, by omega, by omega, by omega, by omega, by omega, by omega, fun i hi1 hi2 => Zag _ i hi1 hi2, Zql (hn.trans (h5 n (by omega) hl)), trivial⟩, fun hl => ⟨by omega, by omega, by omega, by omega, by omega, by omega, fun i hi1 hi2 => Zag _ i hi1 hi2, ?_, trivial⟩⟩
 have hq := hn.trans (h6 n hl (by omega))
 have hm : xa (H ++ [[-7, 0, 0, 0, 0, 0], [-7, 0, 0, 0, 0, 0], [-7, 0, 0, 0, 0, 0]]) n = Zkr := by
  unfold xa
  rw [ZI0, ZJj (by omega)]
  have : n - H.length = 0 \/ n - H.length = 1 \/ n - H.length = 2 := by omega
  rcases this with e | e | e <;> rw [e] <;> rfl
 rw [hm] at hq
 exact Zql hq
structure Bk where
 txs : List Tx
 kept : List Nat
 out : List Ent
 fal : List Nat
 fault : Int
 what : Int
def bk0 : Bk := ⟨[], [], [], [], -1, 0⟩
def ixL (w : Int) : List Tx -> Nat
 | [] => 0
 | t :: l => bif t.who == w then 0 else ixL w l + 1
def rdT (t : Tx) (i : Int) (x : Ent) : Tx := if Zu t.ch (kc x) = true then (if Z5 t.ch x = true then t else { t with bad := t.bad ++ [i] }) else { t with rds := t.rds ++ [i :: nr x] }
def Bk.flt (B : Bk) (i w : Int) : Bk := { B with fault := i, what := w }
def ZmN : List Tx -> Nat -> List Nat
 | [], _ => []
 | t :: l, n => bif t.opn then n :: ZmN l (n + 1) else ZmN l (n + 1)
def Zap (B : Bk) (i : Int) (x : Ent) : Bk :=
 let j := ixL (xw x) B.txs
 let t := B.txs.getD j tx0
 let op := decide (j < B.txs.length) && t.opn
 if xk x = 1 then (if j < B.txs.length then B.flt i 1 else { B with txs := B.txs ++ [⟨xw x, i, -1, true, [], [], []⟩], fal := [] })
 else if xk x = 2 then (if xw x = 0 then { B with out := B.out ++ [i :: nr x], fal := [] } else if op = true then { B with txs := B.txs.set j (rdT t i x), fal := [] } else B.flt i 1)
 else if xk x = 3 \/ xk x = 4 then (if op = true then { B with txs := B.txs.set j { t with ch := YD t.ch (kc x) ((ZP (Zbl x) : Nat) * 2 + b01 (xk x == 4)) } } else B.flt i 1)
 else if xk x = 6 then (if op = true then { B with txs := B.txs.set j { t with opn := false } } else B.flt i 1)
 else if xk x = 5 then (if (op = false /\ ¬ j ∈ B.fal) \/ 0 <= t.com then B.flt i 1 else if ¬ xt x = B.kept.length + 1 then B.flt i 2 else { B with txs := B.txs.set j { t with opn := false, com := i }, kept := B.kept ++ [j] })
 else if xk x = 7 then { B with txs := B.txs.map fun t => { t with opn := false }, fal := ZmN B.txs 0 }
 else B
def Yf (h : List Ent) : Nat -> Bk
 | 0 => bk0
 | n + 1 => if 0 <= (Yf h n).fault then Yf h n else Zap (Yf h n) n (xa h n)
/-! ### In memory -/
def g3 (r : List Int) : Int := r.getD 3 0
def g4 (r : List Int) : Int := r.getD 4 0
def g5 (r : List Int) : Int := r.getD 5 0
def rE : En := .rows (.int .i64 :: hF)
def mapV (b : Int) : Value := .map (if b < 0 then none else some b.toNat)
def ZBw (b : Int) (who beg com : Int) (opn : Bool) (mb rb rl rc bb bl bc : Int) : HProp := fun h => (0 <= b \/ False) /\ row b.toNat 0 [.int .i64 who, .int .i64 beg, .int .i64 com, .bool opn, mapV mb, slV rb rl rc, slV bb bl bc] true h
def ZtP (b : Int) (m : List (Int × Int)) : HProp := fun h => 0 <= b /\ ∃ es clock, ZfV .str .sb es clock m /\ ZeZ b.toNat (.map es clock) h
def Zds (r : List Int) (t : Tx) : HProp := Ze (ZBw (g0 r) t.who t.beg t.com t.opn (g1 r) (g2 r) (t.rds.length : Nat) (g3 r) (g4 r) (t.bad.length : Nat) (g5 r)) (Ze (ZtP (g1 r) t.ch) (Ze (rAD rE (g2 r) t.rds (g3 r)) (iAD (g4 r) t.bad (g5 r))))
def ZfF : List (List Int) -> List Tx -> HProp
 | [], [] => emp
 | r :: rs, t :: ts => Ze (Zds r t) (ZfF rs ts)
 | _, _ => fun _ => False
def ZHw (i : Int) (R : List (List Int)) (L : List Tx) : HProp := Ze (ZfF (R.take i.toNat) (L.take i.toNat)) (ZfF (R.drop (i.toNat + 1)) (L.drop (i.toNat + 1)))
def ZyB (R : List (List Int)) (i : Int) (r : List Int) : List (List Int) := R.take i.toNat ++ r :: R.drop (i.toNat + 1)
def setT (L : List Tx) (i : Int) (t : Tx) : List Tx := L.take i.toNat ++ t :: L.drop (i.toNat + 1)
def plOk (R : List (List Int)) (L : List Tx) : Prop := R.length = L.length /\ (R.map g0).Nodup /\ ∀ r ∈ R, 0 <= g0 r
def Zff (R : List (List Int)) (L : List Tx) : List (Int × Int) := (L.zip R).map fun p => (p.1.who, g0 p.2)
def Zdb (R : List (List Int)) (ks : List Nat) : List (List Int) := ks.map fun k => [g0 (R.getD k [])]
def ZrZ (t : Tx) (m : List (Int × Int)) (p : List Int) : Tx := { t with ch := m, com := p.getD 0 0, opn := p.getD 1 0 == 1 }
def Zw8 (t : Tx) (r : List Ent) (b : List Int) : Tx := { t with rds := r, bad := b }
def ZhM (l : Int) : List (List Int) -> Nat
 | [] => 0
 | r :: R => bif g0 r == l then 0 else ZhM l R + 1
def ZAo (R : List (List Int)) (b : Int) : Prop := ∃ k, k < R.length /\ b = g0 (R.getD k [])
def Zi9 (R : List (List Int)) (L : List Tx) (i : Nat) : HProp := ZBw (g0 (R.getD i [])) (L.getD i tx0).who (L.getD i tx0).beg (L.getD i tx0).com (L.getD i tx0).opn (g1 (R.getD i [])) (g2 (R.getD i [])) ((L.getD i tx0).rds.length : Nat) (g3 (R.getD i [])) (g4 (R.getD i [])) ((L.getD i tx0).bad.length : Nat) (g5 (R.getD i []))
def twoH (v y : Int) (R : List (List Int)) (L : List Tx) : HProp := fun h => ∀ h', Hl.Disj h h' -> Ze (Zi9 R L (ZhM v R)) (Zi9 R L (ZhM y R)) h' -> ZfF R L (Hl.un h h')
def atT (L : List Tx) (i : Int) : Tx := L.getD i.toNat tx0
def Zcz (L : List Tx) (left : List (Int × Int)) : List Tx := L.map fun t => if Zu left t.who = true then t else { t with opn := false }
def Zcx (left : List (Int × Int)) : List Tx -> Nat -> List Nat
 | [], _ => []
 | t :: l, n => if t.opn = true /\ Zu left t.who = false then n :: Zcx left l (n + 1) else Zcx left l (n + 1)
def ZGI (b : Int) (m : List (Int × Int)) : HProp := fun h => 0 <= b /\ ∃ es clock, ZfV (.int .i64) (.one .ptr) es clock m /\ ZeZ b.toNat (.map es clock) h
def celB (b ma kb kl kc ob ol oc ft wt : Int) : HProp := fun h => (0 <= b \/ False) /\ row b.toNat 0 [mapV ma, slV kb kl kc, slV ob ol oc, .int .i64 ft, .int .i64 wt] true h
def bookB (b : Int) (B : Bk) : HProp := fun h => ∃ (ma kb kc ob oc : Int) (R : List (List Int)), Ze (celB b ma kb (B.kept.length : Nat) kc ob (B.out.length : Nat) oc B.fault B.what)
 (Ze (ZGI ma (Zff R B.txs)) (Ze (rAD (.rows [.ptr]) kb (Zdb R B.kept) kc) (Ze (rAD rE ob B.out oc) (ZfF R B.txs)))) h
def ZrR (b : Int) (x : List Ent) : HProp := if b < 0 then emp else bookB b (Yf x x.length)
structure JtSig (S : Sig GG) : Prop where
 jb : JbSig S
 p100 : ∀ w0 k x, S.prd 100 w0 k x = ZfF k.tR (Z8 x)
 p101 : ∀ w0 k x, S.prd 101 w0 k x = ZHw (g0 (k.tR.getD 0 [])) (k.tR.drop 1) (Z8 x)
 p103 : ∀ w0 k x, S.prd 103 w0 k x = ZrR (g0 (k.tR.getD 0 [])) (k.tR.drop 1)
 u568 : ∀ a b c d, S.usr 568 a b c d = .g (.tx (Zcz (Z8 a) b.tM))
 u571 : ∀ a b c d, S.usr 571 a b c d = .bool (ZN ((a.tM.map (·.1)).Nodup /\ ∀ k, Zu a.tM k = true -> Zu b.tM k = true))
 u569 : ∀ a b c d, S.usr 569 a b c d = .bool (ZN (a.tR.map g0 = b.tR.map g0))
 u570 : ∀ a b c d, S.usr 570 a b c d = .bool (ZN (d.tR.Perm (Zdb c.tR (Zcx b.tM (Z8 a) 0))))
 p102 : ∀ w0 k x, S.prd 102 w0 k x = twoH (g0 (k.tR.getD 0 [])) (g1 (k.tR.getD 0 [])) (k.tR.drop 1) (Z8 x)
 u565 : ∀ a b c d, S.usr 565 a b c d = .bool (ZN (ZAo a.tR b.tI))
 u566 : ∀ a b c d, S.usr 566 a b c d = .int (ZhM b.tI a.tR : Nat)
 u540 : ∀ a b c d, S.usr 540 a b c d = .int (atT (Z8 a) b.tI).who
 u541 : ∀ a b c d, S.usr 541 a b c d = .int (atT (Z8 a) b.tI).beg
 u542 : ∀ a b c d, S.usr 542 a b c d = .int (atT (Z8 a) b.tI).com
 u543 : ∀ a b c d, S.usr 543 a b c d = .bool (atT (Z8 a) b.tI).opn
 u544 : ∀ a b c d, S.usr 544 a b c d = .amap (atT (Z8 a) b.tI).ch
 u545 : ∀ a b c d, S.usr 545 a b c d = .rows (atT (Z8 a) b.tI).rds
 u546 : ∀ a b c d, S.usr 546 a b c d = .ints (atT (Z8 a) b.tI).bad
 u547 : ∀ a b c d, S.usr 547 a b c d = .amap (Zff a.tR (Z8 b))
 u548 : ∀ a b c d, S.usr 548 a b c d = .rows (Zdb c.tR (Yf a.tR b.tI.toNat).kept)
 u549 : ∀ a b c d, S.usr 549 a b c d = .rows (Yf a.tR b.tI.toNat).out
 u550 : ∀ a b c d, S.usr 550 a b c d = .int (Yf a.tR b.tI.toNat).fault
 u551 : ∀ a b c d, S.usr 551 a b c d = .int (Yf a.tR b.tI.toNat).what
 u552 : ∀ a b c d, S.usr 552 a b c d = .int ((Z8 a).length : Nat)
 u553 : ∀ a b c d, S.usr 553 a b c d = .int (ixL b.tI (Z8 a) : Nat)
 u554 : ∀ a b c d, S.usr 554 a b c d = .rows (ZyB a.tR b.tI c.tN)
 u555 : ∀ a b c d, S.usr 555 a b c d = .g (.tx (setT (Z8 a) b.tI (ZrZ (atT (Z8 a) b.tI) c.tM d.tN)))
 u556 : ∀ a b c d, S.usr 556 a b c d = .g (.tx (setT (Z8 a) b.tI (Zw8 (atT (Z8 a) b.tI) c.tR d.tN)))
 u557 : ∀ a b c d, S.usr 557 a b c d = .g (.tx (Z8 a ++ [⟨b.tI, c.tI, -1, true, [], [], []⟩]))
 u558 : ∀ a b c d, S.usr 558 a b c d = .bool (ZN (plOk a.tR (Z8 b)))
 u559 : ∀ a b c d, S.usr 559 a b c d = .bool (ZN (d.tR.Perm (Zdb c.tR (Yf a.tR b.tI.toNat).fal)))
 u560 : ∀ a b c d, S.usr 560 a b c d = .bool (ZN (∀ r ∈ a.tR, ∃ b', r = [b'] /\ ZAo b.tR b'))
 u561 : ∀ a b c d, S.usr 561 a b c d = .g (.tx (Yf a.tR b.tI.toNat).txs)
 u562 : ∀ a b c d, S.usr 562 a b c d = .bool (ZN ([b.tI] ∈ a.tR))
 u563 : ∀ a b c d, S.usr 563 a b c d = .rows (if Zu a.tM (kc b.tN) = true then c.tR else c.tR ++ [d.tI :: nr b.tN])
 u564 : ∀ a b c d, S.usr 564 a b c d = .ints (if Zu a.tM (kc b.tN) = true /\ Z5 a.tM b.tN = false then c.tN ++ [d.tI] else c.tN)
theorem JtSig.of {S T : Sig GG} (h : JtSig S) (hu : T.usr = S.usr) (hp : T.prd = S.prd) : JtSig T := by
 constructor
 ·exact h.jb.of hu
 all_goals first | (rw [hp]; first | exact h.p100 | exact h.p101 | exact h.p102 | exact h.p103) | (rw [hu]; first | exact h.u568 | exact h.u569 | exact h.u570 | exact h.u571 | exact h.u565 | exact h.u566 | exact h.u540 | exact h.u541 | exact h.u542 | exact h.u543 | exact h.u544 | exact h.u545 | exact h.u546 | exact h.u547 | exact h.u548 | exact h.u549 | exact h.u550 | exact h.u551 | exact h.u552 | exact h.u553 | exact h.u554 | exact h.u555 | exact h.u556 | exact h.u557 | exact h.u558 | exact h.u559 | exact h.u560 | exact h.u561 | exact h.u562 | exact h.u563 | exact h.u564)
def txC (R g : SX) : Ch := .prd 100 R g
def txO (i R g : SX) : Ch := .prd 101 (ZbN (Zz5 i) R) g
def usM (k : Nat) (a b : SX) : SX := .us .amap k a b z0 z0
def rAr (b x c : SX) : Ch := .arr rE b x c
def Zy8 (who beg com : SX) (opn : SX) (mb rb rl rc bb bl bc : SX) : List SC := [.int .i64 who, .int .i64 beg, .int .i64 com, .bool opn, .map mb, slC rb rl rc 7, sl1 bb bl bc]
def txQ (R g i : SX) : List SC := Zy8 (usI 540 g i z0) (usI 541 g i z0) (usI 542 g i z0) (usB 543 g i z0) (nt R i 1) (nt R i 2) (Zr (usR 545 g i z0)) (nt R i 3) (nt R i 4) (Ze1 (usN 546 g i z0)) (nt R i 5)
def txP (b R g i : SX) : List Ch := [.cel b 0 (txQ R g i), scC (nt R i 1) (usM 544 g i), rAr (nt R i 2) (usR 545 g i z0) (nt R i 3), iAr (nt R i 4) (usN 546 g i z0) (nt R i 5)]
def ixW (g w : SX) : SX := usI 553 g w z0
def ZIs (R g i : SX) : List SX := [eLe (Zr (usR 545 g i z0)) (nt R i 3), eLe (Ze1 (usN 546 g i z0)) (nt R i 5), .f2 50 (eLe z0 (nt R i 2)) (.f2 45 (Zr (usR 545 g i z0)) z0), .f2 50 (eLe z0 (nt R i 4)) (.f2 45 (Ze1 (usN 546 g i z0)) z0), eLe z0 (nt R i 1), eLe z0 (nt R i 0), .f2 45 (Zr R) (usI 552 g z0 z0)]
def Zy2 : Ctr := ⟨[.int, .int, .rows, .g], [.one (.ptr (ai 0) 0), .one (.int .i64 (ai 1))], [txC (rA 2) (gA 3)], [eLt (ixW (gA 3) (ai 1)) (usI 552 (gA 3) z0 z0), .f2 45 (ai 0) (nt (rA 2) (ixW (gA 3) (ai 1)) 0)], [], .tup [],
 txP (ai 0) (rA 2) (gA 3) (ixW (gA 3) (ai 1)) ++ [txO (ixW (gA 3) (ai 1)) (rA 2) (gA 3)], ZIs (rA 2) (gA 3) (ixW (gA 3) (ai 1))⟩
def Zrj : Ctr := ⟨[.int, .int, .rows, .g], [.one (.ptr (ai 0) 0)], txO (ai 1) (rA 2) (gA 3) :: txP (ai 0) (rA 2) (gA 3) (ai 1), [.f2 45 (Zr (rA 2)) (usI 552 (gA 3) z0 z0), eLe z0 (ai 1), eLt (ai 1) (usI 552 (gA 3) z0 z0), .f2 45 (ai 0) (nt (rA 2) (ai 1) 0)], [], .tup [], [txC (rA 2) (gA 3)], []⟩
def Znx : Ctr := ⟨[.int, .int, .rows, .g, .int, .int, .int, .bool, .int, .int, .int, .int, .int, .amap, .rows, .ints, .int, .int], [.one (.ptr (ai 0) 0)],
 [txO (ai 1) (rA 2) (gA 3), .cel (ai 0) 0 (Zy8 (ai 4) (ai 5) (ai 6) (qA 7) (ai 8) (ai 9) (ai 16) (ai 10) (ai 11) (ai 17) (ai 12)), scC (ai 8) (mA 13), rAr (ai 9) (rA 14) (ai 10), iAr (ai 11) (iA 15) (ai 12)],
 [.f2 45 (Zr (rA 2)) (usI 552 (gA 3) z0 z0), eLe z0 (ai 1), eLt (ai 1) (usI 552 (gA 3) z0 z0), .f2 45 (ai 4) (usI 540 (gA 3) (ai 1) z0), .f2 45 (ai 5) (usI 541 (gA 3) (ai 1) z0), .f2 45 (ai 16) (Zr (rA 14)), .f2 45 (ai 17) (Ze1 (iA 15))], [], .tup [],
 [txC (usR 554 (rA 2) (ai 1) (ZhV (ai 0) (ai 8) (ai 9) (ai 10) (ai 11) (ai 12))) (.us .g 556 (.us .g 555 (gA 3) (ai 1) (mA 13) (Zeq (ai 6) (.f1 3 (qA 7)))) (ai 1) (rA 14) (iA 15))], []⟩
def adTC : Ctr := ⟨[.int, .rows, .g, .int, .int, .int], [.one (.ptr (ai 0) 0)],
 [.cel (ai 0) 0 [.int .i64 (ai 3), .int .i64 (ai 4), .int .i64 (.int (-1)), .bool (.bool true), .map (ai 5), slC (.int (-1)) z0 z0 1, sl1 (.int (-1)) z0 z0], scC (ai 5) (.f1 155 z0), txC (rA 1) (gA 2)], [], [], .tup [],
 [txC (.f2 121 (rA 1) (ZbN (ZhV (ai 0) (ai 5) (.int (-1)) z0 (.int (-1)) z0) Zsr)) (usG 557 (gA 2) (ai 3) (ai 4))], []⟩
def pE : En := .rows [.ptr]
def ixB (R b : SX) : SX := usI 566 R b z0
def twC (v y R g : SX) : Ch := .prd 102 (ZbN (Zeq v y) R) g
def ZBm : Ctr := ⟨[.int, .int, .int, .int, .int, .rows, .int, .rows, .g], [.one (slC (ai 0) (ai 1) (ai 2) 1), .one (.int .i64 (ai 3)), .one (.ptr (ai 4) 0)], [.arr pE (ai 0) (rA 5) (ai 6), txC (rA 7) (gA 8)],
 [usB 565 (rA 7) (ai 4) z0, usB 565 (rA 7) (nt (rA 5) (ai 3) 0) z0, .f1 2 (.f2 45 (ai 4) (nt (rA 5) (ai 3) 0))], [], .tup [],
 [.arr pE (ai 0) (rA 5) (ai 6), .cel (ai 4) 0 (txQ (rA 7) (gA 8) (ixB (rA 7) (ai 4))), .cel (nt (rA 5) (ai 3) 0) 0 (txQ (rA 7) (gA 8) (ixB (rA 7) (nt (rA 5) (ai 3) 0))), twC (ai 4) (nt (rA 5) (ai 3) 0) (rA 7) (gA 8)], []⟩
def ZCW : Ctr := ⟨[.int, .int, .rows, .g], [.one (.ptr (ai 0) 0)], [twC (ai 0) (ai 1) (rA 2) (gA 3), .cel (ai 0) 0 (txQ (rA 2) (gA 3) (ixB (rA 2) (ai 0))), .cel (ai 1) 0 (txQ (rA 2) (gA 3) (ixB (rA 2) (ai 1)))],
 [usB 565 (rA 2) (ai 0) z0, usB 565 (rA 2) (ai 1) z0], [], .tup [], [txC (rA 2) (gA 3)], []⟩
def gdTC : Ctr := ⟨[.rows, .g], [], [txC (rA 0) (gA 1)], [], [], .tup [], [txC (rA 0) (gA 1)], [usB 558 (rA 0) (gA 1) z0]⟩
def ZyE : Ctr := ⟨[.int, .rows, .g], [.one (.ptr (ai 0) 0)], [txC (rA 1) (gA 2)], [usB 565 (rA 1) (ai 0) z0], [], .tup [],
 txP (ai 0) (rA 1) (gA 2) (ixB (rA 1) (ai 0)) ++ [txO (ixB (rA 1) (ai 0)) (rA 1) (gA 2)], .f2 45 (ai 0) (nt (rA 1) (ixB (rA 1) (ai 0)) 0) :: eLt (ixB (rA 1) (ai 0)) (usI 552 (gA 2) z0 z0) :: ZIs (rA 1) (gA 2) (ixB (rA 1) (ai 0))⟩
def pAr (b x c : SX) : Ch := .arr pE b x c
def ZBo : Ctr := ⟨[], [], [], [], [], .tup [], [pAr (.int (-1)) Zsr z0], []⟩
def ZFL : Ctr := ⟨[], [], [], [], [], .tup [], [rAr (.int (-1)) Zsr z0], []⟩
def bkC (b x : SX) : Ch := .prd 103 (ZbN (Zz5 b) x) z0
def imC (b m : SX) : Ch := .map (.int .i64) (.one .ptr) b m
def bkQ (ma kb kl kc ob ol oc ft wt : SX) : List SC := [.map ma, slC kb kl kc 1, slC ob ol oc 7, .int .i64 ft, .int .i64 wt]
def xX : SX := tk (rA 4) (ai 2)
def ZFF : Ctr := ⟨hA ++ [.int], [.one (hS 0), .one (.ptr (ai 6) 0)], [hC 0 0], [eLt (ai 6) z0], [], .tup [], [hC 0 0, bkC (ai 6) xX], []⟩
def Zsf : Ctr := ⟨hA ++ [.int, .int, .int, .int, .int, .int, .int, .int, .int, .int, .rows, .g, .amap, .rows, .rows], [.one (hS 0), .one (.ptr (ai 6) 0)],
 [hC 0 0, .cel (ai 6) 0 (bkQ (ai 7) (ai 8) (ai 9) (ai 10) (ai 11) (ai 12) (ai 13) (ai 14) (ai 15)), imC (ai 7) (mA 18), pAr (ai 8) (rA 19) (ai 10), rAr (ai 11) (rA 20) (ai 13), txC (rA 16) (gA 17)],
 [eLe z0 (ai 6), eqS (gA 17) (usG 561 xX (Zr xX) z0), eqS (mA 18) (.us .amap 547 (rA 16) (gA 17) z0 z0), eqS (rA 19) (usR 548 xX (Zr xX) (rA 16)), eqS (rA 20) (usR 549 xX (Zr xX) z0), .f2 45 (ai 9) (Zr (rA 19)), .f2 45 (ai 12) (Zr (rA 20)),
  .f2 45 (ai 14) (usI 550 xX (Zr xX) z0), .f2 45 (ai 15) (usI 551 xX (Zr xX) z0)], [], .tup [], [hC 0 0, bkC (ai 6) xX], []⟩
def emTC : Ctr := ⟨[], [], [], [], [], .tup [], [txC Zsr (usG 561 Zsr z0 z0)], []⟩
theorem Zb6 : ∀ {k : List (List Int)} {q : List Tx} {h : Hl}, ZfF k q h -> k.length = q.length
 | [], [], _, _ => rfl
 | r :: k, p :: q, h, hx => by
  obtain ⟨a, b, _, _, _, hb⟩ := hx
  rw [ZJk, ZJk, Zb6 hb]
 | [], _ :: _, _, hx => hx.elim
 | _ :: _, [], _, hx => hx.elim
theorem Zec : ∀ {a : List (List Int)} {c : List Tx} (b : List (List Int)) (d : List Tx), a.length = c.length -> ZfF (a ++ b) (c ++ d) = Ze (ZfF a c) (ZfF b d)
 | [], [], b, d, _ => by rw [List.nil_append, List.nil_append]; show _ = Ze emp _; rw [emp_star]
 | r :: a, p :: c, b, d, h => by
  rw [List.cons_append, List.cons_append]
  show Ze _ (ZfF (a ++ b) (c ++ d)) = Ze (Ze _ (ZfF a c)) (ZfF b d)
  rw [Zec b d (by simpa using h), star_assoc]
 | [], _ :: _, _, _, h => by simp at h
 | _ :: _, [], _, _, h => by simp at h
theorem Zqd (r : List Int) (p : Tx) : ZfF [r] [p] = Zds r p := by
 show Ze _ emp = _
 rw [Zl]
theorem ZqU {R : List (List Int)} {L : List Tx} {i : Int} (hl : R.length = L.length) (h0 : 0 <= i) (hi : i < R.length) (r : List Int) (t : Tx) :
  ZfF (ZyB R i r) (setT L i t) = Ze (ZHw i R L) (Zds r t) := by
 unfold ZyB setT ZHw
 rw [<- List.singleton_append, <- List.singleton_append (l := L.drop _), Zec _ _ (by rw [ZI2, ZI2]; omega), Zec _ _ (show [r].length = [t].length from rfl), Zqd, star_assoc, Yi (Zds _ _)]
theorem Zqt {α : Type} {R : List α} {d : α} {i : Nat} (hi : i < R.length) : R.take i ++ R.getD i d :: R.drop (i + 1) = R := by
 have := ZqG (d := d) hi
 rw [List.singleton_append] at this
 exact this.symm
theorem ZhL {R : List (List Int)} {L : List Tx} {i : Int} (hl : R.length = L.length) (h0 : 0 <= i) (hi : i < R.length) : ZfF R L = Ze (ZHw i R L) (Zds (R.getD i.toNat []) (atT L i)) := by
 rw [<- ZqU hl h0 hi]
 unfold ZyB setT atT
 rw [Zqt (by omega), Zqt (by omega)]
theorem Zer (T : Sig GG) (ρ : Go.Eng.Env GG) (w0 : World) (b who beg com opn mb rb rl rc bb bl bc : SX) : (Ch.cel b 0 (Zy8 who beg com opn mb rb rl rc bb bl bc)).den T ρ w0 =
  ZBw (b.den T ρ).tI (who.den T ρ).tI (beg.den T ρ).tI (com.den T ρ).tI (opn.den T ρ).toBool (mb.den T ρ).tI (rb.den T ρ).tI (rl.den T ρ).tI (rc.den T ρ).tI (bb.den T ρ).tI (bl.den T ρ).tI (bc.den T ρ).tI := by
 simp only [Zy8, Ch.den, ZI9, List.map_nil, sl1, Zpf, SC.den, reduceCtorEq]
 rfl
theorem Zm1 (T : Sig GG) (ρ : Go.Eng.Env GG) (w0 : World) (b m : SX) : (scC b m).den T ρ w0 = ZtP (b.den T ρ).tI (m.den T ρ).tM := rfl
theorem ZjI (T : Sig GG) (ρ : Go.Eng.Env GG) (w0 : World) (b x c : SX) : (rAr b x c).den T ρ w0 = rAD rE (b.den T ρ).tI (x.den T ρ).tR (c.den T ρ).tI := rfl
theorem ZvI (T : Sig GG) (ρ : Go.Eng.Env GG) (w0 : World) (b x c : SX) : (iAr b x c).den T ρ w0 = iAD (b.den T ρ).tI (x.den T ρ).tN (c.den T ρ).tI := rfl
theorem Zhs (T : Sig GG) (ρ : Go.Eng.Env GG) (R i : SX) (k : Nat) : (nt R i k).den T ρ = .int (((R.den T ρ).tR.getD (i.den T ρ).tI.toNat []).getD k 0) := by
 show (ap3 112 (R.den T ρ) (i.den T ρ) (U.int (k : Int))) = _
 rw [Zud]; rfl
theorem Zvc {T : Sig GG} (hT : JtSig T) (ρ : Go.Eng.Env GG) (w0 : World) (b R g i : SX) (hb : (b.den T ρ).tI = g0 ((R.den T ρ).tR.getD (i.den T ρ).tI.toNat [])) :
  hpDen T ρ w0 (txP b R g i) = Zds ((R.den T ρ).tR.getD (i.den T ρ).tI.toNat []) (atT (Z8 (g.den T ρ)) (i.den T ρ).tI) := by
 have e : hpDen T ρ w0 (txP b R g i) = Ze ((Ch.cel b 0 (txQ R g i)).den T ρ w0) (Ze ((scC (nt R i 1) (usM 544 g i)).den T ρ w0) (Ze ((rAr (nt R i 2) (usR 545 g i z0) (nt R i 3)).den T ρ w0) (Ze ((iAr (nt R i 4) (usN 546 g i z0) (nt R i 5)).den T ρ w0) emp))) := rfl
 rw [e, Zl, txQ, Zer, Zm1, ZjI, ZvI]
 simp only [Zhs, usI, usB, usR, usN, usM, Zr, Ze1, SX.den, hT.u540, hT.u541, hT.u542, hT.u543, hT.u544, hT.u545, hT.u546, Zbx, ZbI, ZtH, ZgO, ZjR, Zlj, Zdx, U.tIi, U.tQi, U.tMi, U.tRi, U.tNi]
 rw [hb]
 rfl
theorem ZgI {r : List Int} {t : Tx} {h : Hl} (hi : Zds r t h) : ((t.rds.length : Nat) : Int) <= g3 r /\ ((t.bad.length : Nat) : Int) <= g5 r /\ (0 <= g2 r \/ ((t.rds.length : Nat) : Int) = 0) /\ (0 <= g4 r \/ ((t.bad.length : Nat) : Int) = 0) /\ 0 <= g1 r /\ 0 <= g0 r := by
 obtain ⟨a, b, _, _, ha, hb⟩ := hi
 obtain ⟨c, d, _, _, hc, hd⟩ := hb
 obtain ⟨e, f, _, _, he, hf⟩ := hd
 have h1 := ZA9 (by decide) he
 have h2 := ZH3 hf
 refine ⟨h1, h2, ?_, ?_, hc.1, by simpa using ha.1⟩
 ·obtain ⟨_, _, _, q, _⟩ := he
  rcases q with q | q
  ·exact .inl q
  ·exact .inr (by have : g3 r = 0 := q; omega)
 ·obtain ⟨_, _, _, q, _⟩ := hf
  rcases q with q | q
  ·exact .inl q
  ·exact .inr (by have : g5 r = 0 := q; omega)
theorem Zz2 {T : Sig GG} (hT : JtSig T) (ρ : Go.Eng.Env GG) (R g i : SX) {h : Hl} (hl : (R.den T ρ).tR.length = (Z8 (g.den T ρ)).length) (hi : Zds ((R.den T ρ).tR.getD (i.den T ρ).tI.toNat []) (atT (Z8 (g.den T ρ)) (i.den T ρ).tI) h) : ∀ e ∈ ZIs R g i, (e.den T ρ).tP := by
 obtain ⟨f1, f2, f3, f4, f5, f6⟩ := ZgI hi
 have w1 : ((Zr (usR 545 g i z0)).den T ρ).tI = ((atT (Z8 (g.den T ρ)) (i.den T ρ).tI).rds.length : Nat) := by
  simp only [Zr, usR, SX.den, hT.u545, ZgO, Zdx, U.tIi, U.tRi]
 have w2 : ((Ze1 (usN 546 g i z0)).den T ρ).tI = ((atT (Z8 (g.den T ρ)) (i.den T ρ).tI).bad.length : Nat) := by
  simp only [Ze1, usN, SX.den, hT.u546, ZjR, Zlj, U.tIi, U.tNi]
 have n0 : ∀ k, ((nt R i k).den T ρ).tI = (((R.den T ρ).tR.getD (i.den T ρ).tI.toNat []).getD k 0) := fun k => by rw [Zhs]; rfl
 have z : (z0.den T ρ).tI = 0 := rfl
 intro e he
 simp only [ZIs, List.mem_cons, List.not_mem_nil, or_false] at he
 rcases he with rfl | rfl | rfl | rfl | rfl | rfl | rfl
 ·rw [Zj, w1, n0]; exact f1
 ·rw [Zj, w2, n0]; exact f2
 ·simp only [SX.den, p50]
  rcases f3 with q | q
  ·left; show ((eLe z0 (nt R i 2)).den T ρ).tP; rw [Zj, n0, z]; exact q
  ·right; show (ap2 45 ((Zr (usR 545 g i z0)).den T ρ) (z0.den T ρ)).tP; rw [p45, w1, z]; exact q
 ·simp only [SX.den, p50]
  rcases f4 with q | q
  ·left; show ((eLe z0 (nt R i 4)).den T ρ).tP; rw [Zj, n0, z]; exact q
  ·right; show (ap2 45 ((Ze1 (usN 546 g i z0)).den T ρ) (z0.den T ρ)).tP; rw [p45, w2, z]; exact q
 ·rw [Zj, n0, z]; exact f5
 ·rw [Zj, n0, z]; exact f6
 ·simp only [Zr, usI, SX.den, hT.u552, p45, Zdx, U.tIi, Zbx]; rw [hl]
theorem ZuX {T : Sig GG} (hT : JtSig T) (ρ : Go.Eng.Env GG) (w0 : World) (b R g i : SX) {h : Hl} (h0 : 0 <= (i.den T ρ).tI) (h1 : (i.den T ρ).tI < ((Z8 (g.den T ρ)).length : Nat))
  (hb : (b.den T ρ).tI = ((nt R i 0).den T ρ).tI) (hp : ZfF (R.den T ρ).tR (Z8 (g.den T ρ)) h) : hpDen T ρ w0 (txP b R g i ++ [txO i R g]) h /\ ∀ e ∈ ZIs R g i, (e.den T ρ).tP := by
 have hl := Zb6 hp
 rw [ZhL hl h0 (by omega)] at hp
 rw [Zhs] at hb
 have hb : (b.den T ρ).tI = g0 ((R.den T ρ).tR.getD (i.den T ρ).tI.toNat []) := hb
 have e : hpDen T ρ w0 (txP b R g i ++ [txO i R g]) = Ze (hpDen T ρ w0 (txP b R g i)) (Ze (T.prd 101 w0 ((ZbN (Zz5 i) R).den T ρ) (g.den T ρ)) emp) := by
  unfold hpDen; rw [ZJg, Zc8]; rfl
 rw [e, Zl, Zvc hT ρ w0 b R g i hb, hT.p101]
 have k2 : ((ZbN (Zz5 i) R).den T ρ).tR = [(i.den T ρ).tI] :: (R.den T ρ).tR := rfl
 rw [k2]
 refine ⟨by rw [Yi]; exact hp, ?_⟩
 obtain ⟨_, _, _, _, _, hi⟩ := hp
 exact Zz2 hT ρ R g i hl hi
theorem ZmK (S : Sig GG) (hS : JtSig S) : ZfQ S Zy2 := by
 refine ZcZ S fun T w0 ρ h hu hp hd hr hpre => ⟨ρ, Ext.refl _ _, ?_⟩
 have hT := hS.of hu hp
 have e1 : hpDen T ρ w0 Zy2.pre = Ze (T.prd 100 w0 ((rA 2).den T ρ) ((gA 3).den T ρ)) emp := rfl
 rw [e1, Zl, hT.p100] at hpre
 have r1 := hr (eLt (ixW (gA 3) (ai 1)) (usI 552 (gA 3) z0 z0)) (by simp [Zy2])
 have r2 := hr (.f2 45 (ai 0) (nt (rA 2) (ixW (gA 3) (ai 1)) 0)) (by simp [Zy2])
 have hix : ((ixW (gA 3) (ai 1)).den T ρ).tI = (ixL (ρ 1).tI (Z8 ((gA 3).den T ρ)) : Nat) := by
  simp only [ixW, usI, SX.den, hT.u553, Zbx, U.tIi]; rfl
 rw [YB] at r1
 have e552 : ((usI 552 (gA 3) z0 z0).den T ρ).tI = ((Z8 ((gA 3).den T ρ)).length : Nat) := by
  simp only [usI, SX.den, hT.u552, Zbx, U.tIi]
 rw [e552] at r1
 have r2 : (ap2 45 ((ai 0).den T ρ) ((nt (rA 2) (ixW (gA 3) (ai 1)) 0).den T ρ)).tP := r2
 rw [p45] at r2
 exact ZuX hT ρ w0 (ai 0) (rA 2) (gA 3) (ixW (gA 3) (ai 1)) (by rw [hix]; omega) r1 r2 hpre
theorem Zha (S : Sig GG) (hS : JtSig S) : ZfQ S Zrj := by
 refine ZcZ S fun T w0 ρ h hu hp hd hr hpre => ⟨ρ, Ext.refl _ _, ?_, (fun x hx => nomatch hx)⟩
 have hT := hS.of hu hp
 have e1 : hpDen T ρ w0 Zrj.pre = Ze (T.prd 101 w0 ((ZbN (Zz5 (ai 1)) (rA 2)).den T ρ) ((gA 3).den T ρ)) (hpDen T ρ w0 (txP (ai 0) (rA 2) (gA 3) (ai 1))) := rfl
 have e2 : hpDen T ρ w0 Zrj.post = Ze (T.prd 100 w0 ((rA 2).den T ρ) ((gA 3).den T ρ)) emp := rfl
 have r0 := hr (eLe z0 (ai 1)) (by simp [Zrj])
 have r1 := hr (eLt (ai 1) (usI 552 (gA 3) z0 z0)) (by simp [Zrj])
 have r2 := hr (.f2 45 (ai 0) (nt (rA 2) (ai 1) 0)) (by simp [Zrj])
 rw [Zj] at r0
 rw [YB] at r1
 simp only [usI, SX.den, hT.u552, Zbx, U.tIi] at r1
 have r2 : (ap2 45 ((ai 0).den T ρ) ((nt (rA 2) (ai 1) 0).den T ρ)).tP := r2
 rw [p45, Zhs] at r2
 have k2 : ((ZbN (Zz5 (ai 1)) (rA 2)).den T ρ).tR = [((ai 1).den T ρ).tI] :: ((rA 2).den T ρ).tR := rfl
 rw [e1, hT.p101, k2, Zvc hT ρ w0 (ai 0) (rA 2) (gA 3) (ai 1) r2] at hpre
 rw [e2, Zl, hT.p100]
 have r0 : 0 <= ((ai 1).den T ρ).tI := r0
 have hl := hr (.f2 45 (Zr (rA 2)) (usI 552 (gA 3) z0 z0)) (by simp [Zrj])
 simp only [Zr, usI, SX.den, hT.u552, p45, Zdx, U.tIi, Zbx] at hl
 have hl : ((rA 2).den T ρ).tR.length = (Z8 ((gA 3).den T ρ)).length := by omega
 rw [ZhL hl r0 (by omega)]
 exact hpre
theorem Zf1 {L : List Tx} {i : Int} {t u : Tx} (h0 : 0 <= i) (hi : i < L.length) : setT (setT L i t) i u = setT L i u /\ atT (setT L i t) i = t := by
 have hl : (L.take i.toNat).length = i.toNat := by rw [ZI2]; omega
 have e1 : (L.take i.toNat ++ t :: L.drop (i.toNat + 1)).take i.toNat = L.take i.toNat := by
  rw [List.take_append_of_le_length (by omega), List.take_take, Nat.min_self]
 have e2 : (L.take i.toNat ++ t :: L.drop (i.toNat + 1)).drop (i.toNat + 1) = L.drop (i.toNat + 1) := by
  rw [List.drop_append, List.drop_of_length_le (by omega), hl, List.nil_append, show i.toNat + 1 - i.toNat = 1 by omega]; rfl
 unfold setT atT
 refine ⟨by rw [e1, e2], ?_⟩
 rw [ZI0, ZJj (by omega), hl, Nat.sub_self]; rfl
theorem ZkD (S : Sig GG) (hS : JtSig S) : ZfQ S Znx := by
 refine ZcZ S fun T w0 ρ h hu hp hd hr hpre => ⟨ρ, Ext.refl _ _, ?_, (fun x hx => nomatch hx)⟩
 have hT := hS.of hu hp
 have e1 : hpDen T ρ w0 Znx.pre = Ze (T.prd 101 w0 ((ZbN (Zz5 (ai 1)) (rA 2)).den T ρ) ((gA 3).den T ρ)) (Ze ((Ch.cel (ai 0) 0 (Zy8 (ai 4) (ai 5) (ai 6) (qA 7) (ai 8) (ai 9) (ai 16) (ai 10) (ai 11) (ai 17) (ai 12))).den T ρ w0) (Ze ((scC (ai 8) (mA 13)).den T ρ w0) (Ze ((rAr (ai 9) (rA 14) (ai 10)).den T ρ w0) (Ze ((iAr (ai 11) (iA 15) (ai 12)).den T ρ w0) emp)))) := rfl
 have e2 : hpDen T ρ w0 Znx.post = Ze (T.prd 100 w0 ((usR 554 (rA 2) (ai 1) (ZhV (ai 0) (ai 8) (ai 9) (ai 10) (ai 11) (ai 12))).den T ρ) ((Go.Eng.SX.us .g 556 (.us .g 555 (gA 3) (ai 1) (mA 13) (Zeq (ai 6) (.f1 3 (qA 7)))) (ai 1) (rA 14) (iA 15)).den T ρ)) emp := rfl
 have r0 := hr (eLe z0 (ai 1)) (by simp [Znx])
 have r1 := hr (eLt (ai 1) (usI 552 (gA 3) z0 z0)) (by simp [Znx])
 have r4 := hr (.f2 45 (ai 4) (usI 540 (gA 3) (ai 1) z0)) (by simp [Znx])
 have r5 := hr (.f2 45 (ai 5) (usI 541 (gA 3) (ai 1) z0)) (by simp [Znx])
 have r6 := hr (.f2 45 (ai 16) (Zr (rA 14))) (by simp [Znx])
 have r7 := hr (.f2 45 (ai 17) (Ze1 (iA 15))) (by simp [Znx])
 have hl := hr (.f2 45 (Zr (rA 2)) (usI 552 (gA 3) z0 z0)) (by simp [Znx])
 rw [Zj] at r0
 rw [YB] at r1
 simp only [usI, SX.den, hT.u552, Zbx, U.tIi] at r1
 simp only [Zr, Ze1, usI, SX.den, hT.u552, hT.u540, hT.u541, p45, Zlj, Zdx, U.tIi, Zbx] at hl r4 r5 r6 r7
 have hl : ((rA 2).den T ρ).tR.length = (Z8 ((gA 3).den T ρ)).length := by omega
 have r0 : 0 <= ((ai 1).den T ρ).tI := r0
 have k2 : ((ZbN (Zz5 (ai 1)) (rA 2)).den T ρ).tR = [((ai 1).den T ρ).tI] :: ((rA 2).den T ρ).tR := rfl
 have k3 : ((usR 554 (rA 2) (ai 1) (ZhV (ai 0) (ai 8) (ai 9) (ai 10) (ai 11) (ai 12))).den T ρ).tR = ZyB ((rA 2).den T ρ).tR ((ai 1).den T ρ).tI [(ρ 0).tI, (ρ 8).tI, (ρ 9).tI, (ρ 10).tI, (ρ 11).tI, (ρ 12).tI] := by
  simp only [usR, SX.den, hT.u554, ZgO, U.tRi]; try rfl
 have k4 : Z8 ((Go.Eng.SX.us .g 556 (.us .g 555 (gA 3) (ai 1) (mA 13) (Zeq (ai 6) (.f1 3 (qA 7)))) (ai 1) (rA 14) (iA 15)).den T ρ) =
   setT (Z8 ((gA 3).den T ρ)) ((ai 1).den T ρ).tI (Zw8 (ZrZ (atT (Z8 ((gA 3).den T ρ)) ((ai 1).den T ρ).tI) (ρ 13).tM [(ρ 6).tI, b01 (ρ 7).toBool]) (ρ 14).tR (ρ 15).tN) := by
  have hw : Z8 ((Go.Eng.SX.us .g 555 (gA 3) (ai 1) (mA 13) (Zeq (ai 6) (.f1 3 (qA 7)))).den T ρ) = setT (Z8 ((gA 3).den T ρ)) ((ai 1).den T ρ).tI (ZrZ (atT (Z8 ((gA 3).den T ρ)) ((ai 1).den T ρ).tI) (ρ 13).tM [(ρ 6).tI, b01 (ρ 7).toBool]) := by
   simp only [SX.den, hT.u555, ZHr, ZaN]; rfl
  have hw2 : ∀ g : SX, Z8 ((Go.Eng.SX.us .g 556 g (ai 1) (rA 14) (iA 15)).den T ρ) = setT (Z8 (g.den T ρ)) ((ai 1).den T ρ).tI (Zw8 (atT (Z8 (g.den T ρ)) ((ai 1).den T ρ).tI) (ρ 14).tR (ρ 15).tN) := fun g => by
   simp only [SX.den, hT.u556, ZHr, ZaN]; rfl
  rw [hw2, hw, (Zf1 r0 r1).1, (Zf1 (u := tx0) r0 r1).2]
 rw [e1, hT.p101, k2, Zer, Zm1, ZjI, ZvI, Zl] at hpre
 rw [e2, Zl, hT.p100, k3, k4, ZqU hl r0 (by omega)]
 have ei : Zds [(ρ 0).tI, (ρ 8).tI, (ρ 9).tI, (ρ 10).tI, (ρ 11).tI, (ρ 12).tI] (Zw8 (ZrZ (atT (Z8 ((gA 3).den T ρ)) ((ai 1).den T ρ).tI) (ρ 13).tM [(ρ 6).tI, b01 (ρ 7).toBool]) (ρ 14).tR (ρ 15).tN) =
   Ze (ZBw (ρ 0).tI (ρ 4).tI (ρ 5).tI (ρ 6).tI (b01 (ρ 7).toBool == 1) (ρ 8).tI (ρ 9).tI (ρ 16).tI (ρ 10).tI (ρ 11).tI (ρ 17).tI (ρ 12).tI) (Ze (ZtP (ρ 8).tI (ρ 13).tM) (Ze (rAD rE (ρ 9).tI (ρ 14).tR (ρ 10).tI) (iAD (ρ 11).tI (ρ 15).tN (ρ 12).tI))) := by
  have q4 : (ρ 4).tI = (atT (Z8 ((gA 3).den T ρ)) ((ai 1).den T ρ).tI).who := r4
  have q5 : (ρ 5).tI = (atT (Z8 ((gA 3).den T ρ)) ((ai 1).den T ρ).tI).beg := r5
  have q6 : (ρ 16).tI = ((ρ 14).tR.length : Nat) := r6
  have q7 : (ρ 17).tI = ((ρ 15).tN.length : Nat) := r7
  rw [q4, q5, q6, q7]; rfl
 rw [ei, show (b01 (ρ 7).toBool == 1) = (ρ 7).toBool from by cases (ρ 7).toBool <;> rfl]
 exact hpre
theorem ZFQ (S : Sig GG) (hS : JtSig S) : ZfQ S adTC := by
 refine ZcZ S fun T w0 ρ h hu hp hd hr hpre => ⟨ρ, Ext.refl _ _, ?_, (fun x hx => nomatch hx)⟩
 have hT := hS.of hu hp
 have e1 : hpDen T ρ w0 adTC.pre = Ze ((Ch.cel (ai 0) 0 (Zy8 (ai 3) (ai 4) (.int (-1)) (.bool true) (ai 5) (.int (-1)) z0 z0 (.int (-1)) z0 z0)).den T ρ w0) (Ze ((scC (ai 5) (.f1 155 z0)).den T ρ w0) (Ze (T.prd 100 w0 ((rA 1).den T ρ) ((gA 2).den T ρ)) emp)) := by
  have q : (Ch.cel (ai 0) 0 (Zy8 (ai 3) (ai 4) (.int (-1)) (.bool true) (ai 5) (.int (-1)) z0 z0 (.int (-1)) z0 z0)).den T ρ w0 = (Ch.cel (ai 0) 0 [.int .i64 (ai 3), .int .i64 (ai 4), .int .i64 (.int (-1)), .bool (.bool true), .map (ai 5), slC (.int (-1)) z0 z0 1, sl1 (.int (-1)) z0 z0]).den T ρ w0 := by
   rw [Zer]
   simp only [Ch.den, ZI9, List.map_nil, sl1, Zpf, SC.den, reduceCtorEq]
   rfl
  rw [q]; rfl
 have e2 : hpDen T ρ w0 adTC.post = Ze (T.prd 100 w0 ((Go.Eng.SX.f2 121 (rA 1) (ZbN (ZhV (ai 0) (ai 5) (.int (-1)) z0 (.int (-1)) z0) Zsr)).den T ρ) ((usG 557 (gA 2) (ai 3) (ai 4)).den T ρ)) emp := rfl
 rw [e1, Zer, Zm1, Zl, hT.p100] at hpre
 have k3 : ((Go.Eng.SX.f2 121 (rA 1) (ZbN (ZhV (ai 0) (ai 5) (.int (-1)) z0 (.int (-1)) z0) Zsr)).den T ρ).tR = ((rA 1).den T ρ).tR ++ [[(ρ 0).tI, (ρ 5).tI, -1, 0, -1, 0]] := rfl
 have k4 : Z8 ((usG 557 (gA 2) (ai 3) (ai 4)).den T ρ) = Z8 ((gA 2).den T ρ) ++ [⟨(ρ 3).tI, (ρ 4).tI, -1, true, [], [], []⟩] := by
  simp only [usG, SX.den, hT.u557, ZHr, ZaN]; rfl
 rw [e2, Zl, hT.p100, k3, k4]
 obtain ⟨a, b, d, rfl, ha, c, e, d2, rfl, hc, he⟩ := hpre
 rw [Zec _ _ (Zb6 he), Zqd]
 have ei : Zds [(ρ 0).tI, (ρ 5).tI, -1, 0, -1, 0] ⟨(ρ 3).tI, (ρ 4).tI, -1, true, [], [], []⟩ = Ze (ZBw (ρ 0).tI (ρ 3).tI (ρ 4).tI (-1) true (ρ 5).tI (-1) 0 0 (-1) 0 0) (ZtP (ρ 5).tI []) := by
  show Ze _ (Ze _ (Ze (rAD rE (-1) [] 0) (iAD (-1) [] 0))) = _
  rw [rE, ZiX, ZwI, Zl, Zl]; rfl
 rw [ei, Yi, star_assoc]
 exact ⟨a, _, d, rfl, ha, c, e, d2, rfl, hc, he⟩
theorem ZyZ {b : Int} {w1 b1 c1 : Int} {o1 : Bool} {m1 r1 l1 q1 s1 t1 u1 w2 b2 c2 : Int} {o2 : Bool} {m2 r2 l2 q2 s2 t2 u2 : Int} {A : HProp} {h : Hl}
  (hs : Ze (ZBw b w1 b1 c1 o1 m1 r1 l1 q1 s1 t1 u1) (Ze (ZBw b w2 b2 c2 o2 m2 r2 l2 q2 s2 t2 u2) A) h) : False := by
 obtain ⟨x, y, d, rfl, ⟨_, hx⟩, z, v, d2, rfl, ⟨_, hz⟩, _⟩ := hs
 have e1 : x b.toNat 0 = some (.val (.int .i64 w1) true) := by rw [hx]; exact Zct (o := 0) (i := 0) (by simp)
 have e2 : z b.toNat 0 = some (.val (.int .i64 w2) true) := by rw [hz]; exact Zct (o := 0) (i := 0) (by simp)
 rcases d b.toNat 0 with q | q
 ·rw [e1] at q; cases q
 ·unfold Hl.un at q; rw [e2] at q; cases q
theorem Zpo {r : List Int} : ∀ {R : List (List Int)} {L : List Tx} {h : Hl}, r ∈ R -> ZfF R L h -> ∃ (t : Tx) (A : HProp), Ze (ZBw (g0 r) t.who t.beg t.com t.opn (g1 r) (g2 r) (t.rds.length : Nat) (g3 r) (g4 r) (t.bad.length : Nat) (g5 r)) A h
 | s :: R, t :: L, h, hm, hx => by
  rcases List.mem_cons.1 hm with rfl | hm
  ·have hx : Ze (Zds r t) (ZfF R L) h := hx
   unfold Zds at hx
   rw [star_assoc] at hx
   exact ⟨t, _, hx⟩
  ·obtain ⟨a, b, d, rfl, ha, hb⟩ := hx
   obtain ⟨u, A, hA⟩ := Zpo hm hb
   have : Ze (Zds s t) (Ze _ A) (Hl.un a b) := ⟨a, b, d, rfl, ha, hA⟩
   rw [Zm] at this
   exact ⟨u, _, this⟩
 | _ :: _, [], _, _, hx => hx.elim
 | [], _, _, hm, _ => by cases hm
theorem Zg2 : ∀ {R : List (List Int)} {L : List Tx} {h : Hl}, ZfF R L h -> (R.map g0).Nodup /\ ∀ r ∈ R, 0 <= g0 r
 | [], [], _, _ => ⟨List.nodup_nil, fun r hr => by cases hr⟩
 | r :: R, t :: L, h, hx => by
  obtain ⟨a, b, d, rfl, ha, hb⟩ := hx
  obtain ⟨h1, h2⟩ := Zg2 hb
  refine ⟨?_, fun s hs => ?_⟩
  ·rw [ZI9, List.nodup_cons]
   refine ⟨fun hm => ?_, h1⟩
   obtain ⟨s, hs, he⟩ := List.mem_map.1 hm
   obtain ⟨u, A, hA⟩ := Zpo hs hb
   have hq : Ze (Zds r t) (Ze _ A) (Hl.un a b) := ⟨a, b, d, rfl, ha, hA⟩
   unfold Zds at hq
   rw [star_assoc, he] at hq
   rw [Zm (A := Ze (ZtP _ _) _)] at hq
   exact ZyZ hq
  ·rcases List.mem_cons.1 hs with rfl | hs
   ·exact (ZgI ha).2.2.2.2.2
   ·exact h2 s hs
 | [], _ :: _, _, hx => hx.elim
 | _ :: _, [], _, hx => hx.elim
theorem ZdV {l : Int} : ∀ {R : List (List Int)}, ZhM l R < R.length -> g0 (R.getD (ZhM l R) []) = l
 | [], h => absurd h (Nat.not_lt_zero _)
 | r :: R, h => by
  unfold ZhM at h ⊢
  cases hp : g0 r == l
  ·rw [hp] at h
   have h : ZhM l R + 1 < R.length + 1 := h
   show g0 (R.getD (ZhM l R) []) = l
   exact ZdV (by omega)
  ·exact beq_iff_eq.1 hp
theorem Zb8 {R : List (List Int)} {b : Int} (h : ZAo R b) : ZhM b R < R.length := by
 obtain ⟨k, hk, rfl⟩ := h
 induction R generalizing k with
 | nil => exact absurd hk (Nat.not_lt_zero _)
 | cons r R ih =>
  unfold ZhM
  cases hp : g0 r == g0 ((r :: R).getD k [])
  ·cases k with
   | zero => have : (g0 r == g0 r) = false := hp; simp at this
   | succ k =>
    have := ih k (by simpa using hk)
    show ZhM _ R + 1 < R.length + 1
    have e : (r :: R).getD (k + 1) [] = R.getD k [] := rfl
    rw [e]; omega
  ·exact Nat.zero_lt_succ _
theorem Zxm (R : List (List Int)) (L : List Tx) (i : Nat) : ∃ A, Zds (R.getD i []) (L.getD i tx0) = Ze A (Zi9 R L i) := ⟨_, Yi _ _⟩
theorem Zjl {T : Sig GG} (hT : JtSig T) (ρ : Go.Eng.Env GG) (w0 : World) (b R g i : SX) (I : Nat) (hi : (i.den T ρ).tI = (I : Nat)) (hb : (b.den T ρ).tI = g0 ((R.den T ρ).tR.getD I [])) :
  (Ch.cel b 0 (txQ R g i)).den T ρ w0 = Zi9 (R.den T ρ).tR (Z8 (g.den T ρ)) I := by
 rw [txQ, Zer]
 simp only [Zhs, usI, usB, usR, usN, usM, Zr, Ze1, SX.den, hT.u540, hT.u541, hT.u542, hT.u543, hT.u545, hT.u546, Zbx, ZbI, ZtH, ZgO, ZjR, Zlj, Zdx, U.tIi, U.tQi, U.tRi, U.tNi, hi, atT, ZI7]
 rw [hb]
 rfl
theorem ZAh {R : List (List Int)} {L : List Tx} {j k : Nat} (hl : R.length = L.length) (hj : j < R.length) (hk : k < R.length) (hne : j ≠ k) : ∃ A, ZfF R L = Ze A (Ze (Zi9 R L j) (Zi9 R L k)) := by
 have pick : ∀ (R : List (List Int)) (L : List Tx) (k : Nat), R.length = L.length -> k < R.length -> ∃ A, ZfF R L = Ze A (Zi9 R L k) := by
  intro R L k hl hk
  have h := ZhL (R := R) (L := L) (i := (k : Nat)) hl (by omega) (by omega)
  rw [ZI7] at h
  obtain ⟨A, hA⟩ := Zxm R L k
  have e : atT L (k : Nat) = L.getD k tx0 := by unfold atT; rw [ZI7]
  rw [e, hA, <- star_assoc] at h
  exact ⟨_, h⟩
 have main : ∀ (j k : Nat), j < k -> k < R.length -> ∃ A, ZfF R L = Ze A (Ze (Zi9 R L j) (Zi9 R L k)) := by
  intro j k hjk hk
  have h : ZfF (R.take k ++ R.drop k) (L.take k ++ L.drop k) = _ := Zec _ _ (by rw [ZI2, ZI2]; omega)
  rw [List.take_append_drop, List.take_append_drop] at h
  obtain ⟨A, hA⟩ := pick (R.take k) (L.take k) j (by rw [ZI2, ZI2]; omega) (by rw [ZI2]; omega)
  obtain ⟨B, hB⟩ := pick (R.drop k) (L.drop k) 0 (by rw [ZJe, ZJe]; omega) (by rw [ZJe]; omega)
  have e1 : Zi9 (R.take k) (L.take k) j = Zi9 R L j := by unfold Zi9; rw [ZfZ hjk, ZfZ hjk]
  have gd : ∀ {α : Type} (l : List α) (d : α), (l.drop k).getD 0 d = l.getD k d := fun l d => by
   rw [ZI0, ZI0, ZJp, Nat.add_zero]
  have e2 : Zi9 (R.drop k) (L.drop k) 0 = Zi9 R L k := by unfold Zi9; rw [gd, gd]
  rw [hA, hB, e1, e2] at h
  refine ⟨Ze A B, ?_⟩
  rw [h, star_assoc, star_assoc, Zm (Zi9 R L j)]
 rcases ZIU j k with h | h
 ·exact main j k h hk
 ·obtain ⟨A, hA⟩ := main k j (by omega) hj
  exact ⟨A, by rw [hA, Yi (Zi9 R L k)]⟩
theorem ZBA (S : Sig GG) (hS : JtSig S) : ZfQ S ZBm := by
 refine ZcZ S fun T w0 ρ h hu hp hd hr hpre => ⟨ρ, Ext.refl _ _, ?_, (fun x hx => nomatch hx)⟩
 have hT := hS.of hu hp
 have e1 : hpDen T ρ w0 ZBm.pre = Ze ((Ch.arr pE (ai 0) (rA 5) (ai 6)).den T ρ w0) (Ze (T.prd 100 w0 ((rA 7).den T ρ) ((gA 8).den T ρ)) emp) := rfl
 have e2 : hpDen T ρ w0 ZBm.post = Ze ((Ch.arr pE (ai 0) (rA 5) (ai 6)).den T ρ w0) (Ze ((Ch.cel (ai 4) 0 (txQ (rA 7) (gA 8) (ixB (rA 7) (ai 4)))).den T ρ w0) (Ze ((Ch.cel (nt (rA 5) (ai 3) 0) 0 (txQ (rA 7) (gA 8) (ixB (rA 7) (nt (rA 5) (ai 3) 0)))).den T ρ w0) (Ze (T.prd 102 w0 ((ZbN (Zeq (ai 4) (nt (rA 5) (ai 3) 0)) (rA 7)).den T ρ) ((gA 8).den T ρ)) emp))) := rfl
 have r0 := hr (usB 565 (rA 7) (ai 4) z0) (by simp [ZBm])
 have r1 := hr (usB 565 (rA 7) (nt (rA 5) (ai 3) 0) z0) (by simp [ZBm])
 have r2 := hr (.f1 2 (.f2 45 (ai 4) (nt (rA 5) (ai 3) 0))) (by simp [ZBm])
 have n0 := Zhs T ρ (rA 5) (ai 3) 0
 simp only [usB, SX.den, hT.u565, ZbI, U.tPi, U.tQi, Zo] at r0 r1
 have r2 : (ap1 2 (ap2 45 ((ai 4).den T ρ) ((nt (rA 5) (ai 3) 0).den T ρ))).tP := r2
 rw [ZGb] at r2
 generalize hv : ((ai 4).den T ρ).tI = v at *
 generalize hy : ((nt (rA 5) (ai 3) 0).den T ρ).tI = y at *
 have ib : ∀ b : SX, ((ixB (rA 7) b).den T ρ).tI = (ZhM (b.den T ρ).tI ((rA 7).den T ρ).tR : Nat) := fun b => by
  simp only [ixB, usI, SX.den, hT.u566, Zbx, U.tIi]
 have k2 : ((ZbN (Zeq (ai 4) (nt (rA 5) (ai 3) 0)) (rA 7)).den T ρ).tR = [v, y] :: ((rA 7).den T ρ).tR := by
  show ([((ai 4).den T ρ).tI, ((nt (rA 5) (ai 3) 0).den T ρ).tI] :: ((rA 7).den T ρ).tR) = _
  rw [hv, hy]
 have a0 := ZdV (Zb8 r0)
 have a1 := ZdV (Zb8 r1)
 rw [e1, Zl, hT.p100] at hpre
 rw [e2, Zl, Zjl hT ρ w0 (ai 4) (rA 7) (gA 8) (ixB (rA 7) (ai 4)) (ZhM v ((rA 7).den T ρ).tR) (by rw [ib, hv]) (by rw [a0, hv]),
  Zjl hT ρ w0 (nt (rA 5) (ai 3) 0) (rA 7) (gA 8) (ixB (rA 7) (nt (rA 5) (ai 3) 0)) (ZhM y ((rA 7).den T ρ).tR) (by rw [ib, hy]) (by rw [a1, hy]), hT.p102, k2]
 generalize ((rA 7).den T ρ).tR = R at *
 generalize Z8 ((gA 8).den T ρ) = L at *
 obtain ⟨p, q, d, rfl, hp1, hq⟩ := hpre
 have hl := Zb6 hq
 have hne : ZhM v R ≠ ZhM y R := fun e => r2 (by rw [<- a0, <- a1, e])
 obtain ⟨A, hA⟩ := ZAh hl (Zb8 r0) (Zb8 r1) hne
 have hq2 := hq
 rw [hA] at hq2
 obtain ⟨s, t, d2, rfl, hs, ht⟩ := hq2
 have hw : twoH (g0 ([v, y] :: R |>.getD 0 [])) (g1 ([v, y] :: R |>.getD 0 [])) (([v, y] :: R).drop 1) L s := by
  intro h' hd' hh'
  show ZfF R L _
  rw [hA]
  exact ⟨s, h', hd', rfl, hs, hh'⟩
 refine ⟨p, _, d, rfl, hp1, ?_⟩
 have : Ze (Ze (Zi9 R L (ZhM v R)) (Zi9 R L (ZhM y R))) (twoH (g0 ([v, y] :: R |>.getD 0 [])) (g1 ([v, y] :: R |>.getD 0 [])) (([v, y] :: R).drop 1) L) (Hl.un s t) := ⟨t, s, d2.symm, Hl.un_comm d2, ht, hw⟩
 rw [star_assoc] at this
 exact this
theorem ZBx (S : Sig GG) (hS : JtSig S) : ZfQ S ZCW := by
 refine ZcZ S fun T w0 ρ h hu hp hd hr hpre => ⟨ρ, Ext.refl _ _, ?_, (fun x hx => nomatch hx)⟩
 have hT := hS.of hu hp
 have e1 : hpDen T ρ w0 ZCW.pre = Ze (T.prd 102 w0 ((ZbN (Zeq (ai 0) (ai 1)) (rA 2)).den T ρ) ((gA 3).den T ρ)) (Ze ((Ch.cel (ai 0) 0 (txQ (rA 2) (gA 3) (ixB (rA 2) (ai 0)))).den T ρ w0) (Ze ((Ch.cel (ai 1) 0 (txQ (rA 2) (gA 3) (ixB (rA 2) (ai 1)))).den T ρ w0) emp)) := rfl
 have e2 : hpDen T ρ w0 ZCW.post = Ze (T.prd 100 w0 ((rA 2).den T ρ) ((gA 3).den T ρ)) emp := rfl
 have r0 := hr (usB 565 (rA 2) (ai 0) z0) (by simp [ZCW])
 have r1 := hr (usB 565 (rA 2) (ai 1) z0) (by simp [ZCW])
 simp only [usB, SX.den, hT.u565, ZbI, U.tPi, U.tQi, Zo] at r0 r1
 have ib : ∀ b : SX, ((ixB (rA 2) b).den T ρ).tI = (ZhM (b.den T ρ).tI ((rA 2).den T ρ).tR : Nat) := fun b => by
  simp only [ixB, usI, SX.den, hT.u566, Zbx, U.tIi]
 have k2 : ((ZbN (Zeq (ai 0) (ai 1)) (rA 2)).den T ρ).tR = [((ai 0).den T ρ).tI, ((ai 1).den T ρ).tI] :: ((rA 2).den T ρ).tR := rfl
 have a0 := ZdV (Zb8 r0)
 have a1 := ZdV (Zb8 r1)
 rw [e1, Zl, hT.p102, k2, Zjl hT ρ w0 (ai 0) (rA 2) (gA 3) (ixB (rA 2) (ai 0)) _ (by rw [ib]) (by rw [a0]),
  Zjl hT ρ w0 (ai 1) (rA 2) (gA 3) (ixB (rA 2) (ai 1)) _ (by rw [ib]) (by rw [a1])] at hpre
 rw [e2, Zl, hT.p100]
 obtain ⟨a, b, d, rfl, ha, hb⟩ := hpre
 exact ha b d hb
theorem ZGk (S : Sig GG) (hS : JtSig S) : ZfQ S gdTC := by
 refine ZcZ S fun T w0 ρ h hu hp hd hr hpre => ⟨ρ, Ext.refl _ _, hpre, ?_⟩
 have hT := hS.of hu hp
 have e1 : hpDen T ρ w0 gdTC.pre = Ze (T.prd 100 w0 ((rA 0).den T ρ) ((gA 1).den T ρ)) emp := rfl
 rw [e1, Zl, hT.p100] at hpre
 intro x hx
 simp only [gdTC, ZIT] at hx
 subst hx
 simp only [usB, SX.den, hT.u558, ZbI, U.tPi, U.tQi, Zo]
 exact ⟨Zb6 hpre, (Zg2 hpre).1, (Zg2 hpre).2⟩
theorem ZGB (S : Sig GG) (hS : JtSig S) : ZfQ S emTC := by
 refine ZcZ S fun T w0 ρ h hu hp hd hr hpre => ⟨ρ, Ext.refl _ _, ?_, (fun x hx => nomatch hx)⟩
 have hT := hS.of hu hp
 have e1 : hpDen T ρ w0 emTC.pre = emp := rfl
 have e2 : hpDen T ρ w0 emTC.post = Ze (T.prd 100 w0 (Zsr.den T ρ) ((usG 561 Zsr z0 z0).den T ρ)) emp := rfl
 rw [e1] at hpre
 rw [e2, Zl, hT.p100]
 have k : Z8 ((usG 561 Zsr z0 z0).den T ρ) = [] := by
  simp only [usG, SX.den, hT.u561, ZHr, ZaN]; rfl
 rw [k]
 exact hpre
def entZ : SX := ZhV (ai 2) (ai 3) (.f1 35 (bA 4)) (.f1 35 (bA 5)) (.f1 3 (qA 6)) (ai 7)
def reaW : SX := .us .rows 563 (mA 17) entZ (rA 18) (ai 1)
def reaV : SX := .us .ints 564 (mA 17) entZ (iA 19) (ai 1)
def mil : SX := .int 1000000
def ZxH : Ctr := ⟨[.int, .int, .int, .int, .bytes, .bytes, .bool, .int, .int, .int, .int, .bool, .int, .int, .int, .int, .int, .amap, .rows, .ints],
 [.one (.ptr (ai 0) 0), .one (.int .i64 (ai 1)), .agg [.int .i64 (ai 2), .int .i64 (ai 3), .str (bA 4), .str (bA 5), .bool (qA 6), .int .i64 (ai 7)]],
 [.cel (ai 0) 0 (Zy8 (ai 8) (ai 9) (ai 10) (qA 11) (ai 12) (ai 13) (Zr (rA 18)) (ai 14) (ai 15) (Ze1 (iA 19)) (ai 16)), scC (ai 12) (mA 17), rAr (ai 13) (rA 18) (ai 14), iAr (ai 15) (iA 19) (ai 16)],
 [eLe z0 (ai 12), eLe (Zr (rA 18)) (ai 14), eLe (Ze1 (iA 19)) (ai 16), eLe (Zr (rA 18)) mil, eLe (Ze1 (iA 19)) mil, .f2 50 (eLe z0 (ai 13)) (.f2 45 (Zr (rA 18)) z0), .f2 50 (eLe z0 (ai 15)) (.f2 45 (Ze1 (iA 19)) z0)],
 [.int, .int, .int, .int], .tup [],
 [.cel (ai 0) 0 (Zy8 (ai 8) (ai 9) (ai 10) (qA 11) (ai 12) (ai 20) (Zr reaW) (ai 21) (ai 22) (Ze1 reaV) (ai 23)), scC (ai 12) (mA 17), rAr (ai 20) reaW (ai 21), iAr (ai 22) reaV (ai 23)],
 [eLe (Zr reaW) (ai 21), eLe (Ze1 reaV) (ai 23), .f2 50 (eLe z0 (ai 20)) (.f2 45 (Zr reaW) z0), .f2 50 (eLe z0 (ai 22)) (.f2 45 (Ze1 reaV) z0)]⟩
def ZG7 : Cx := { specs := [(47, [Zl5])], anns := [] }
def ZuD : Ctr := ⟨[.int, .int, .int, .rows, .int, .rows, .g], [.one (slC (ai 0) (ai 1) (ai 2) 1), .one (.ptr (ai 4) 0)], [.arr pE (ai 0) (rA 3) (ai 2), txC (rA 5) (gA 6)],
 [.f2 45 (ai 1) (Zr (rA 3)), eLe (ai 1) (ai 2), eLe (ai 1) mil, usB 560 (rA 3) (rA 5) z0, .f2 50 (eLt (ai 4) z0) (usB 565 (rA 5) (ai 4) z0), usB 558 (rA 5) (gA 6) z0], [.bool], .one (.bool (qA 7)), [.arr pE (ai 0) (rA 3) (ai 2), txC (rA 5) (gA 6)], [.f2 48 (qA 7) (usB 562 (rA 3) (ai 4) z0)]⟩
def cntI : Inv := ⟨[.int], [(8, .one (.int .i64 (di 0)))], [], [eLe z0 (di 0), eLe (di 0) (ai 1), .f1 2 (usB 562 (tk (rA 3) (di 0)) (ai 4) z0)], .f2 41 (ai 1) (di 0)⟩
def cntE : SX := .f2 45 (ai 4) (nt (rA 3) (ai 7) 0)
def ZGY : Cx := { specs := [], anns := [(76, [(2, .inv cntI), (4, .split (eLt (ai 4) z0)), (4, .iff (eLe z0 (ai 4))), (4, .split cntE), (4, .iff (Zdz cntE)), (4, .ghost ZBm [.tmp 0, .tmp 5, .tmp 1]), (500004, .iff (Zdz cntE)), (500004, .ghost ZCW [.tmp 1])])] }
def ZEA : SX := l z (a 13)
def ZE1 : SX := l z (a 15)
def ZDF : SX := .f1 2 (.f2 141 (m 17) (.f1 35 (b 4)))
def Zva : SX := .f2 40 (.f1 32 (r 18)) (k 1)
def ZzL : SX := l z (a 23)
def Zwx : SX := .f2 122 (a 2) (.f2 122 (a 3) (.f2 122 (.f1 35 (b 4)) (.f2 122 (.f1 35 (b 5)) (.f2 122 (.f1 3 (q 6)) (.f2 122 (a 7) (.f1 152 z))))))
def ZAS : SX := .us .rows 563 (m 17) Zwx (r 18) (a 1)
def ZrM : SX := .f1 32 ZAS
def Zzy : SX := .us .ints 564 (m 17) Zwx (s 19) (a 1)
def Zr7 : SX := .f1 30 Zzy
def Zup : SX := l Zr7 (a 16)
def ZxS : SX := e ZrM z
def Zxx : SX := e Zr7 z
def ZwQ : SX := .f2 50 ZE1 Zxx
def Zyq : SX := .f2 155 Zzy (s 19)
def Zx4 : SX := e Zr7 (.f1 30 (s 19))
def Zmm : SX := .f2 40 (.f1 30 (s 19)) (k 1)
def Zxe : SX := l z (a 24)
def Zvv : SX := l ZrM (a 14)
def ZtB : SX := .f2 50 ZEA ZxS
def ZsE : SX := .f2 155 ZAS (r 18)
def ZxN : SX := e ZrM (.f1 32 (r 18))
def ZF2 : VC := i (l z (a 12)) (i (l (.f1 32 (r 18)) (a 14)) (i (l (.f1 30 (s 19)) (a 16)) (i (l (.f1 32 (r 18)) (k 1000000)) (i (l (.f1 30 (s 19)) (k 1000000)) (i (.f2 50 ZEA (e (.f1 32 (r 18)) z)) (i (.f2 50 ZE1 (e (.f1 30 (s 19)) z)) (u 20 .int (i (l z (a 20)) (u 21 .int (i (l z (a 21)) (.and (i ZDF (u 22 .int (i (l z (a 22)) (n (l (.f1 32 (r 18)) (.f1 32 (r 18))) (n (l (.f2 42 Zva (k 72)) k1) (u 23 .int (u 24 .int (i (l Zva (a 24)) (i (.f2 50 ZzL (e Zva z)) (n (l ZrM (a 24)) (n Zup (n (.f2 50 ZzL ZxS) (n ZwQ (n Zyq (n (.f2 155 ZAS (.f2 121 (r 18) (.f2 124 (.f2 122 (a 1) Zwx) (.f1 154 z)))) (n Zx4 (n (e ZrM Zva) .tt))))))))))))))))) (i (.f1 2 ZDF) (u 22 .bool (i (.f2 48 (q 22) (c 530 (m 17) Zwx)) (.and (i (.f1 2 (q 22)) (u 23 .int (i ZzL (n (l (.f1 30 (s 19)) (.f1 30 (s 19))) (n (l (.f2 42 Zmm (k 8)) k1) (u 24 .int (u 25 .int (i (l Zmm (a 25)) (i (.f2 50 Zxe (e Zmm z)) (n Zvv (n (l Zr7 (a 25)) (n ZtB (n (.f2 50 Zxe Zxx) (n (.f2 155 Zzy (.f2 119 (s 19) (.f2 122 (a 1) (.f1 152 z)))) (n ZsE (n (e Zr7 Zmm) (n ZxN .tt))))))))))))))))) (i (.f1 2 (.f1 2 (q 22))) (n Zvv (n Zup (n ZtB (n ZwQ (n Zyq (n ZsE (n Zx4 (n ZxN .tt))))))))))))))))))))))))
theorem ZHU : Zdt Tryz.prog ZG7 12 54 ZxH = ZF2 := by kernel_rfl
def ZEi : SX := t (a 4) z
def ZDk : SX := c 565 (r 5) (a 4)
def ZBM : SX := l z (a 7)
def ZzF : SX := t (a 7) (.f1 32 (r 3))
def ZzH : SX := .f3 112 (r 3) (a 7) z
def Zsb : SX := .f2 40 (a 7) (k 1)
def ZES : SX := .f1 23 Zsb
def ZCx : SX := .f2 41 (a 1) Zsb
def ZBP : SX := l z ZCx
def ZBK : SX := t ZCx (.f2 41 (a 1) (a 7))
def ZxY : SX := l z Zsb
def ZvW : SX := l Zsb (a 1)
def Zyf : SX := .f1 2 (c 562 (.f2 115 (r 3) Zsb) (a 4))
def Zt7 : SX := e (a 4) ZzH
def Zv8 : SX := c 562 (r 3) (a 4)
def ZHM : VC := i (e (a 1) (.f1 32 (r 3))) (i (l (a 1) (a 2)) (i (l (a 1) (k 1000000)) (i (c 560 (r 3) (r 5)) (i (.f2 50 ZEi ZDk) (i (c 558 (r 5) (g 6)) (n (l z (a 1)) (n (.f1 2 (c 562 (.f2 115 (r 3) z) (a 4))) (u 7 .int (i ZBM (i (l (a 7) (a 1)) (i (.f1 2 (c 562 (.f2 115 (r 3) (a 7)) (a 4))) (.and (i (t (a 7) (a 1)) (.and (i ZEi (n ZzF (n (l z ZzH) (n ZES (n ZBP (n ZBK (n ZxY (n ZvW (n Zyf .tt))))))))) (i (l z (a 4)) (.and (i Zt7 (n ZzF (n (.f2 48 ZBM Zv8) .tt))) (i (.f1 2 Zt7) (n ZDk (n (c 565 (r 5) ZzH) (n ZzF (n ZES (n ZBP (n ZBK (n ZxY (n ZvW (n Zyf .tt)))))))))))))) (i (l (a 1) (a 7)) (n (.f2 48 (.bool false) Zv8) .tt))))))))))))))
theorem ZG4 : Zdt Tryz.prog ZGY 12 55 ZuD = ZHM := by kernel_rfl
theorem ZFR (S : Sig GG) (hS : JtSig S) : ZG S Tryz.prog 54 ZxH := by
 refine Zh S (C := ZG7) (fuel := 12) (YC ⟨Zk (by decide) (ZtG S hS.jb), trivial⟩ trivial trivial) fun ρ => ?_
 rw [ZHU]
 simp only [ZF2, ZEA, ZE1, ZDF, Zva, ZzL, Zwx, ZAS, ZrM, Zzy, Zr7, Zup, ZxS, Zxx, ZwQ, Zyq, Zx4, Zmm, Zxe, Zvv, ZtB, ZsE, ZxN, hS.jb.u530, hS.u563, hS.u564, ZaN, VC.den, SX.den, Env.upd, YA, ZV, beq_iff_eq, ZIZ, beq_eq_false_iff_ne, ne_eq, ZIY, ZIX, Int.reduceToNat, Nat.reduceEqDiff, reduceIte, sB, sC]
 have hk : kc [(ρ 2).tI, (ρ 3).tI, ((ZP (ρ 4).tB : Nat) : Int), ((ZP (ρ 5).tB : Nat) : Int), b01 (ρ 6).toBool, (ρ 7).tI] = (ZP (ρ 4).tB : Nat) := by
  unfold kc Yp
  simp only [List.getD_cons_zero, List.getD_cons_succ, ZI7, Zt]
 have hn : nr [(ρ 2).tI, (ρ 3).tI, ((ZP (ρ 4).tB : Nat) : Int), ((ZP (ρ 5).tB : Nat) : Int), b01 (ρ 6).toBool, (ρ 7).tI] = [(ρ 2).tI, (ρ 3).tI, ((ZP (ρ 4).tB : Nat) : Int), ((ZP (ρ 5).tB : Nat) : Int), b01 (ρ 6).toBool, (ρ 7).tI] := by
  unfold nr xk xw Yp Zbl Zdq xt
  simp only [List.getD_cons_zero, List.getD_cons_succ, ZI7, Zt, ZeW]
 simp only [hk, hn]
 generalize ([(ρ 2).tI, (ρ 3).tI, ((ZP (ρ 4).tB : Nat) : Int), ((ZP (ρ 5).tB : Nat) : Int), b01 (ρ 6).toBool, (ρ 7).tI] : List Int) = E
 generalize ((ZP (ρ 4).tB : Nat) : Int) = K
 generalize (ρ 17).tM = M
 generalize (ρ 18).tR = X
 generalize (ρ 19).tN = Y
 generalize Z5 M E = s
 cases Zu M K
 ·simp only [Bool.false_eq_true, if_false, false_and, ZI5, ZIO]
  repeat' (first | exact trivial | rfl | omega | assumption | apply And.intro | intro _)
  all_goals simp_all
 ·cases s
  ·simp only [if_true, true_and, ZI5, ZIO]
   repeat' (first | exact trivial | rfl | omega | assumption | apply And.intro | intro _)
   all_goals simp_all
  ·simp only [if_true, Bool.true_eq_false, and_false, if_false]
   repeat' (first | exact trivial | rfl | omega | assumption | apply And.intro | intro _)
   all_goals simp_all
theorem ZFS (S : Sig GG) (hS : JtSig S) : ZG S Tryz.prog 55 ZuD := by
 refine Zh S (C := ZGY) (fuel := 12) (YC trivial ⟨⟨trivial, trivial, trivial, trivial, trivial, ⟨by decide, ZBA S hS⟩, trivial, ⟨by decide, ZBx S hS⟩, trivial⟩, trivial⟩ trivial) fun ρ => ?_
 rw [ZG4]
 simp only [ZHM, ZEi, ZDk, ZBM, ZzF, ZzH, Zsb, ZES, ZCx, ZBP, ZBK, ZxY, ZvW, Zyf, Zt7, Zv8, hS.u558, hS.u560, hS.u562, hS.u565, ZaN, VC.den, SX.den, Env.upd, YA, ZV, beq_iff_eq, ZIZ, beq_eq_false_iff_ne, ne_eq, ZIY, ZIX, Int.reduceToNat, Nat.reduceEqDiff, reduceIte, sB, sC]
 generalize (ρ 3).tR = F
 generalize (ρ 5).tR = R
 generalize (ρ 4).tI = v
 generalize (ρ 1).tI = l
 generalize Z8 _ = L
 intro h1 h2 h3 h4 h5 h6
 refine ⟨by omega, ZF (by rw [List.take_zero]; exact List.not_mem_nil), fun x hx0 hx1 hx2 => ?_⟩
 obtain ⟨n, rfl⟩ := ZIS hx0
 have e1 : ((n : Int) + 1).toNat = n + 1 := by omega
 simp only [e1, ZI7] at hx2 ⊢
 have hx2 : ¬ [v] ∈ F.take n := fun h => by rw [ZE h] at hx2; cases hx2
 refine ⟨fun hlt => ?_, fun hge => ⟨?_, trivial⟩⟩
 ·have hn : n < F.length := by omega
  have hgt : F.getD n [] = F[n] := by rw [ZI0, ZI3 hn, ZIV]
  have hm : F.getD n [] ∈ F := by rw [hgt]; exact ZJn hn
  obtain ⟨b, hb, hbl⟩ := h4 _ hm
  have e2 : F.take (n + 1) = F.take n ++ [F.getD n []] := by rw [hgt]; exact (List.take_append_getElem hn).symm
  rw [e2, hb]
  have hb0 : ([b] : List Int).getD 0 0 = b := rfl
  rw [hb0]
  have hpos : 0 <= b := by
   obtain ⟨k, hk, rfl⟩ := hbl
   refine h6.2.2 _ ?_
   rw [ZI0, ZI3 hk, ZIV]; exact ZJn hk
  have no : ¬ v = b -> ZN ([v] ∈ F.take n ++ [[b]]) = false := fun hne => ZF fun h => by
   rcases List.mem_append.1 h with h | h
   ·exact hx2 h
   ·rw [ZIT] at h; injection h with h; exact hne h
  refine ⟨fun hv => ⟨by omega, hpos, by omega, by omega, by omega, by omega, by omega, no (by omega), trivial⟩, fun hv => ⟨fun he => ⟨by omega, ?_, trivial⟩, fun he => ⟨?_, hbl, by omega, by omega, by omega, by omega, by omega, by omega, no he, trivial⟩⟩⟩
  ·rw [ZE (by rw [he, <- hb]; exact hm), Za.2 (by omega)]
  ·rcases h5 with h | h
   ·omega
   ·exact h
 ·rw [ZJc (by omega)] at hx2
  rw [ZF hx2]
theorem ZzU {G : Type} {S : Sig G} {P : Program} {f : Nat} {sp sq : Ctr} (hw : sp.wf = true) (h : ZG S P f sp) (hw2 : sq.wf = true) (h2 : ZG S P f sq) : ∀ q ∈ [sp, sq], q.wf = true /\ ZG S P f q := by
 intro q hq
 rcases List.mem_cons.1 hq with rfl | hq
 ·exact ⟨hw, h⟩
 ·rw [ZIT] at hq; subst hq; exact ⟨hw2, h2⟩
theorem ZhO (S : Sig GG) (hS : JtSig S) : ZfQ S ZyE := by
 refine ZcZ S fun T w0 ρ h hu hp hd hr hpre => ⟨ρ, Ext.refl _ _, ?_⟩
 have hT := hS.of hu hp
 have e1 : hpDen T ρ w0 ZyE.pre = Ze (T.prd 100 w0 ((rA 1).den T ρ) ((gA 2).den T ρ)) emp := rfl
 rw [e1, Zl, hT.p100] at hpre
 have r0 := hr (usB 565 (rA 1) (ai 0) z0) (by simp [ZyE])
 simp only [usB, SX.den, hT.u565, ZbI, U.tPi, U.tQi, Zo] at r0
 have hix : ((ixB (rA 1) (ai 0)).den T ρ).tI = (ZhM ((ai 0).den T ρ).tI ((rA 1).den T ρ).tR : Nat) := by
  simp only [ixB, usI, SX.den, hT.u566, Zbx, U.tIi]
 have r0 : ZAo ((rA 1).den T ρ).tR ((ai 0).den T ρ).tI := r0
 have hlt := Zb8 r0
 have hat := ZdV hlt
 have hl := Zb6 hpre
 have hb : ((ai 0).den T ρ).tI = ((nt (rA 1) (ixB (rA 1) (ai 0)) 0).den T ρ).tI := by
  rw [Zhs, hix, ZI7]
  exact hat.symm
 obtain ⟨k1, k2⟩ := ZuX hT ρ w0 (ai 0) (rA 1) (gA 2) (ixB (rA 1) (ai 0)) (by rw [hix]; omega) (by rw [hix]; omega) hb hpre
 refine ⟨k1, fun e he => ?_⟩
 rcases List.mem_cons.1 he with rfl | he
 ·show (ap2 45 ((ai 0).den T ρ) ((nt (rA 1) (ixB (rA 1) (ai 0)) 0).den T ρ)).tP
  rw [p45]; exact hb
 ·rcases List.mem_cons.1 he with rfl | he
  ·rw [YB, hix]
   have e552 : ((usI 552 (gA 2) z0 z0).den T ρ).tI = ((Z8 ((gA 2).den T ρ)).length : Nat) := by
    simp only [usI, SX.den, hT.u552, Zbx, U.tIi]
   rw [e552]; omega
  ·exact k2 e he
theorem Zly {G : Type} (S : Sig G) : ZfQ S ZBo := by
 refine ZcZ S fun T w0 ρ h hu hp hd hr hpre => ⟨ρ, Ext.refl _ _, ?_, by intro x hx; exact nomatch hx⟩
 have e1 : hpDen T ρ w0 ZBo.pre = emp := rfl
 have e2 : hpDen T ρ w0 ZBo.post = Ze (rAD pE (-1) [] 0) emp := rfl
 rw [e1] at hpre
 rw [e2, Zl, pE, ZiX]; exact hpre
theorem ZBj {G : Type} (S : Sig G) : ZfQ S ZFL := by
 refine ZcZ S fun T w0 ρ h hu hp hd hr hpre => ⟨ρ, Ext.refl _ _, ?_, by intro x hx; exact nomatch hx⟩
 have e1 : hpDen T ρ w0 ZFL.pre = emp := rfl
 have e2 : hpDen T ρ w0 ZFL.post = Ze (rAD rE (-1) [] 0) emp := rfl
 rw [e1] at hpre
 rw [e2, Zl, rE, ZiX]; exact hpre
theorem ZmS {T : Sig GG} (hT : JtSig T) (ρ : Go.Eng.Env GG) (w0 : World) (b x : SX) : (bkC b x).den T ρ w0 = ZrR (b.den T ρ).tI (x.den T ρ).tR := by
 have e : (bkC b x).den T ρ w0 = T.prd 103 w0 ((ZbN (Zz5 b) x).den T ρ) (z0.den T ρ) := rfl
 rw [e, hT.p103]; rfl
theorem ZBp (S : Sig GG) (hS : JtSig S) : ZfQ S ZFF := by
 refine ZcZ S fun T w0 ρ h hu hp hd hr hpre => ⟨ρ, Ext.refl _ _, ?_, (fun x hx => nomatch hx)⟩
 have hT := hS.of hu hp
 have e1 : hpDen T ρ w0 ZFF.pre = Ze ((hC 0 0).den T ρ w0) emp := rfl
 have e2 : hpDen T ρ w0 ZFF.post = Ze ((hC 0 0).den T ρ w0) (Ze ((bkC (ai 6) xX).den T ρ w0) emp) := rfl
 have r0 := hr (eLt (ai 6) z0) (by simp [ZFF])
 rw [YB] at r0
 have r0 : ((ai 6).den T ρ).tI < 0 := r0
 rw [e1] at hpre
 rw [e2, ZmS hT, ZrR, if_pos r0, Zl]; exact hpre
theorem Zv3 (T : Sig GG) (ρ : Go.Eng.Env GG) (w0 : World) (b ma kb kl kc ob ol oc ft wt : SX) : (Ch.cel b 0 (bkQ ma kb kl kc ob ol oc ft wt)).den T ρ w0 =
  celB (b.den T ρ).tI (ma.den T ρ).tI (kb.den T ρ).tI (kl.den T ρ).tI (kc.den T ρ).tI (ob.den T ρ).tI (ol.den T ρ).tI (oc.den T ρ).tI (ft.den T ρ).tI (wt.den T ρ).tI := by
 simp only [bkQ, Ch.den, ZI9, List.map_nil, sl1, Zpf, SC.den, reduceCtorEq]
 rfl
theorem ZsP (T : Sig GG) (ρ : Go.Eng.Env GG) (w0 : World) (b m : SX) : (imC b m).den T ρ w0 = ZGI (b.den T ρ).tI (m.den T ρ).tM := rfl
theorem Zta (T : Sig GG) (ρ : Go.Eng.Env GG) (w0 : World) (b x c : SX) : (pAr b x c).den T ρ w0 = rAD (.rows [.ptr]) (b.den T ρ).tI (x.den T ρ).tR (c.den T ρ).tI := rfl
theorem ZGo (S : Sig GG) (hS : JtSig S) : ZfQ S Zsf := by
 refine ZcZ S fun T w0 ρ h hu hp hd hr hpre => ⟨ρ, Ext.refl _ _, ?_, (fun x hx => nomatch hx)⟩
 have hT := hS.of hu hp
 have e1 : hpDen T ρ w0 Zsf.pre = Ze ((hC 0 0).den T ρ w0) (Ze ((Ch.cel (ai 6) 0 (bkQ (ai 7) (ai 8) (ai 9) (ai 10) (ai 11) (ai 12) (ai 13) (ai 14) (ai 15))).den T ρ w0) (Ze ((imC (ai 7) (mA 18)).den T ρ w0) (Ze ((pAr (ai 8) (rA 19) (ai 10)).den T ρ w0)
  (Ze ((rAr (ai 11) (rA 20) (ai 13)).den T ρ w0) (Ze (T.prd 100 w0 ((rA 16).den T ρ) ((gA 17).den T ρ)) emp))))) := rfl
 have e2 : hpDen T ρ w0 Zsf.post = Ze ((hC 0 0).den T ρ w0) (Ze ((bkC (ai 6) xX).den T ρ w0) emp) := rfl
 have r0 := hr (eLe z0 (ai 6)) (by simp [Zsf])
 have r1 := hr (eqS (gA 17) (usG 561 xX (Zr xX) z0)) (by simp [Zsf])
 have r2 := hr (eqS (mA 18) (.us .amap 547 (rA 16) (gA 17) z0 z0)) (by simp [Zsf])
 have r3 := hr (eqS (rA 19) (usR 548 xX (Zr xX) (rA 16))) (by simp [Zsf])
 have r4 := hr (eqS (rA 20) (usR 549 xX (Zr xX) z0)) (by simp [Zsf])
 have r5 := hr (.f2 45 (ai 9) (Zr (rA 19))) (by simp [Zsf])
 have r6 := hr (.f2 45 (ai 12) (Zr (rA 20))) (by simp [Zsf])
 have r7 := hr (.f2 45 (ai 14) (usI 550 xX (Zr xX) z0)) (by simp [Zsf])
 have r8 := hr (.f2 45 (ai 15) (usI 551 xX (Zr xX) z0)) (by simp [Zsf])
 rw [Zj] at r0
 have hX : (xX.den T ρ).tR = ((rA 4).den T ρ).tR.take (ρ 2).tI.toNat := rfl
 have hL : ((Zr xX).den T ρ).tI.toNat = (xX.den T ρ).tR.length := by
  show ((((xX.den T ρ).tR.length : Nat) : Int)).toNat = _
  omega
 have w1 : ((usG 561 xX (Zr xX) z0).den T ρ) = .g (.tx (Yf (xX.den T ρ).tR (xX.den T ρ).tR.length).txs) := by
  have : ((usG 561 xX (Zr xX) z0).den T ρ) = U.co T .g (T.usr 561 (xX.den T ρ) ((Zr xX).den T ρ) (z0.den T ρ) (z0.den T ρ)) := rfl
  rw [this, hT.u561, hL]; rfl
 have w2 : (Go.Eng.SX.us .amap 547 (rA 16) (gA 17) z0 z0).den T ρ = .amap (Zff ((rA 16).den T ρ).tR (Z8 ((gA 17).den T ρ))) := by
  have : (Go.Eng.SX.us .amap 547 (rA 16) (gA 17) z0 z0).den T ρ = U.co T .amap (T.usr 547 ((rA 16).den T ρ) ((gA 17).den T ρ) (z0.den T ρ) (z0.den T ρ)) := rfl
  rw [this, hT.u547]; rfl
 have w3 : (usR 548 xX (Zr xX) (rA 16)).den T ρ = .rows (Zdb ((rA 16).den T ρ).tR (Yf (xX.den T ρ).tR (xX.den T ρ).tR.length).kept) := by
  have : (usR 548 xX (Zr xX) (rA 16)).den T ρ = U.co T .rows (T.usr 548 (xX.den T ρ) ((Zr xX).den T ρ) ((rA 16).den T ρ) (z0.den T ρ)) := rfl
  rw [this, hT.u548, hL]; rfl
 have w4 : (usR 549 xX (Zr xX) z0).den T ρ = .rows (Yf (xX.den T ρ).tR (xX.den T ρ).tR.length).out := by
  have : (usR 549 xX (Zr xX) z0).den T ρ = U.co T .rows (T.usr 549 (xX.den T ρ) ((Zr xX).den T ρ) (z0.den T ρ) (z0.den T ρ)) := rfl
  rw [this, hT.u549, hL]; rfl
 have w7 : (usI 550 xX (Zr xX) z0).den T ρ = .int (Yf (xX.den T ρ).tR (xX.den T ρ).tR.length).fault := by
  have : (usI 550 xX (Zr xX) z0).den T ρ = U.co T .int (T.usr 550 (xX.den T ρ) ((Zr xX).den T ρ) (z0.den T ρ) (z0.den T ρ)) := rfl
  rw [this, hT.u550, hL]; rfl
 have w8 : (usI 551 xX (Zr xX) z0).den T ρ = .int (Yf (xX.den T ρ).tR (xX.den T ρ).tR.length).what := by
  have : (usI 551 xX (Zr xX) z0).den T ρ = U.co T .int (T.usr 551 (xX.den T ρ) ((Zr xX).den T ρ) (z0.den T ρ) (z0.den T ρ)) := rfl
  rw [this, hT.u551, hL]; rfl
 have p155' : ∀ a b : SX, ((eqS a b).den T ρ).tP = (a.den T ρ = b.den T ρ) := fun a b => p155 (a.den T ρ) (b.den T ρ)
 have p45' : ∀ a b : SX, ((Go.Eng.SX.f2 45 a b).den T ρ).tP = ((a.den T ρ).tI = (b.den T ρ).tI) := fun a b => p45 (a.den T ρ) (b.den T ρ)
 rw [p155', w1] at r1
 rw [p155', w2, r1] at r2
 rw [p155', w3] at r3
 rw [p155', w4] at r4
 rw [p45'] at r5 r6
 rw [p45', w7] at r7
 rw [p45', w8] at r8
 have q5 : ((ai 9).den T ρ).tI = ((((rA 19).den T ρ).tR.length : Nat) : Int) := r5
 have q6 : ((ai 12).den T ρ).tI = ((((rA 20).den T ρ).tR.length : Nat) : Int) := r6
 rw [e1, Zv3, ZsP, Zta, ZjI, Zl, hT.p100, q5, q6, r1, r2, r3, r4, r7, r8] at hpre
 simp only [U.tRi, U.tMi, U.tIi, ZaN] at hpre
 rw [e2, ZmS hT, ZrR, if_neg (by have : 0 <= ((ai 6).den T ρ).tI := r0; omega), Zl]
 refine Zr3 hpre fun h' hh => ⟨((ai 7).den T ρ).tI, ((ai 8).den T ρ).tI, ((ai 10).den T ρ).tI, ((ai 11).den T ρ).tI, ((ai 13).den T ρ).tI, ((rA 16).den T ρ).tR, ?_⟩
 have hk : ∀ (R : List (List Int)) (ks : List Nat), (Zdb R ks).length = ks.length := fun R ks => by unfold Zdb; rw [ZJa]
 rw [hk] at hh
 exact hh
end
end Go.Proofs.YtidlngnhjffepaaGreat
