/- Part of a proof. -/
import Derived.Test.YtidlngnhjffepaaGreatPo3
import Derived.ChangeSame
import Derived.Test.YtidlngnhjffepaaGreatProg
import Derived.KernelRfl
set_option linter.unusedSimpArgs false
set_option linter.unusedVariables false
set_option maxRecDepth 20000
namespace Go.Eng
noncomputable section
abbrev LB := List (Nat × Int)
def LB.get : LB -> Nat -> Option Int
 | [], _ => none
 | (j, l) :: r, i => bif Nat.beq j i then some l else LB.get r i
mutual
def Zma (lo hi : LB) : SX -> Option Int
 | .int n => some n
 | .at s i => (match s with | .int => LB.get lo i | _ => none)
 | .f1 f _ => (match f with | 30 | 31 | 32 | 33 => some 0 | _ => none)
 | .f2 f a b => (match f with
  | 40 => (match Zma lo hi a, Zma lo hi b with | some x, some y => some (x + y) | _, _ => none)
  | 41 => (match Zma lo hi a, Zme lo hi b with | some x, some y => some (x - y) | _, _ => none)
  | 111 => some 0
  | _ => none)
 | _ => none
def Zme (lo hi : LB) : SX -> Option Int
 | .int n => some n
 | .at s i => (match s with | .int => (match LB.get hi i with | some x => some (-x) | none => none) | _ => none)
 | .f2 f a b => (match f with
  | 40 => (match Zme lo hi a, Zme lo hi b with | some x, some y => some (x + y) | _, _ => none)
  | 41 => (match Zme lo hi a, Zma lo hi b with | some x, some y => some (x - y) | _, _ => none)
  | 111 => some 255
  | _ => none)
 | _ => none
end
def LB.put (i : Nat) (c : Int) : LB -> LB
 | [] => [(i, c)]
 | (j, l) :: r => bif Nat.beq j i then (j, max l c) :: r else bif Nat.blt j i then (i, c) :: (j, l) :: r else (j, l) :: LB.put i c r
def ZiU (lo : LB) (e : SX) : LB :=
 match e with
 | .f2 f (.int c) (.at .int i) => (match f with | 47 => LB.put i c lo | 46 => LB.put i (c + 1) lo | _ => lo)
 | _ => lo
def ZiD (hi : LB) (e : SX) : LB :=
 match e with
 | .f2 f (.at .int i) (.int c) => (match f with | 47 => LB.put i (-c) hi | 46 => LB.put i (-(c - 1)) hi | _ => hi)
 | _ => hi
def Zjl : SX -> SX -> Bool
 | .f2 f x (.f2 g y (.int (.ofNat (_ + 1)))), .f2 f' x' y' => bif (bif Nat.beq f 41 then (bif Nat.beq g 40 then Nat.beq f' 41 else false) else false) then (bif SX.bq x x' then SX.bq y y' else false) else false
 | _, _ => false
def ZpD (lo hi : LB) : SX -> Bool
 | .bool b => b
 | .f1 f x => (match f with
  | 23 => (match Zma lo hi x, Zme lo hi x with | some l, some u => bif decide (-9223372036854775808 <= l) then decide (u <= 9223372036854775807) else false | _, _ => false)
  | _ => false)
 | .f2 f a b => (match f with
  | 47 => (match Zme lo hi a, Zma lo hi b with | some u, some l => decide (u <= l) | _, _ => false)
  | 46 => bif Zjl a b then true else (match Zme lo hi a, Zma lo hi b with | some u, some l => decide (u < l) | _, _ => false)
  | _ => false)
 | _ => false
def allB (c : Int) : List UInt8 -> Bool
 | [] => true
 | x :: l => bif ibq (.ofNat x.toNat) c then allB c l else false
def ZiI (lo hi : LB) : SX -> Bool
 | .bool b => !b
 | .f1 f x => (match f, x with
  | 2, .f2 45 (.f2 111 (.byt l) i) (.int c) => (match Zma lo hi i, Zme lo hi i with
   | some (.ofNat a), some (.ofNat b) => bif Nat.blt b l.length then allB c ((l.drop a).take (b + 1 - a)) else false
   | _, _ => false)
  | _, _ => false)
 | .f2 f a b => (match f with
  | 47 => (match Zma lo hi a, Zme lo hi b with | some l, some u => decide (u < l) | _, _ => false)
  | 46 => (match Zma lo hi a, Zme lo hi b with | some l, some u => decide (u <= l) | _, _ => false)
  | _ => false)
 | _ => false
def LB.below (n : Nat) : LB -> LB
 | [] => []
 | (j, l) :: r => bif Nat.blt j n then (j, l) :: r else LB.below n r
def VC.chk : LB -> LB -> VC -> Bool
 | _, _, .tt => true
 | _, _, .ff _ => false
 | lo, hi, .and a b => bif VC.chk lo hi a then VC.chk lo hi b else false
 | lo, hi, .imp e a => bif ZiI lo hi e then true else VC.chk (ZiU lo e) (ZiD hi e) a
 | lo, hi, .need e a => bif ZpD lo hi e then VC.chk (ZiU lo e) (ZiD hi e) a else false
 | lo, hi, .all n _ a => VC.chk (LB.below n lo) (LB.below n hi) a
section
variable {G : Type} (S : Sig G)
def ZoX (v : Nat -> Int) (env : LB) : Prop := env.Pairwise (fun a b => b.1 < a.1) /\ ∀ p ∈ env, p.2 <= v p.1
theorem LB.get_ok {v : Nat -> Int} : ∀ {env : LB}, (∀ p ∈ env, p.2 <= v p.1) -> ∀ {i : Nat} {l : Int}, LB.get env i = some l -> l <= v i
 | [], _, _, _, h => nomatch h
 | (j, l') :: r, ho, i, l, h => by
  simp only [LB.get] at h
  cases hb : Nat.beq j i
  ·rw [hb] at h; exact LB.get_ok (fun p hp => ho p (ZN4 _ hp)) h
  ·rw [hb] at h; cases h
   have := ho _ ZN6
   rw [ZNZ hb] at this; exact this
theorem ZDL {ρ : Env G} {lo hi : LB} (ho : ∀ p ∈ lo, p.2 <= (ρ p.1).tI) (hh : ∀ p ∈ hi, p.2 <= -(ρ p.1).tI) : ∀ {e : SX},
  (∀ {l : Int}, Zma lo hi e = some l -> l <= (e.den S ρ).tI) /\ (∀ {l : Int}, Zme lo hi e = some l -> (e.den S ρ).tI <= l) := by
 intro e
 induction e with
 | int n => exact ⟨fun h => (by simp only [Zma] at h; cases h; exact ZN9 _), fun h => (by simp only [Zme] at h; cases h; exact ZN9 _)⟩
 | «at» s i =>
  refine ⟨fun h => ?_, fun h => ?_⟩
  ·simp only [Zma] at h
   cases s <;> simp only [reduceCtorEq] at h
   exact LB.get_ok (v := fun i => (ρ i).tI) ho h
  ·simp only [Zme] at h
   cases s <;> simp only [reduceCtorEq] at h
   split at h
   ·rename_i x hx
    cases h
    have := LB.get_ok (v := fun i => -(ρ i).tI) hh hx
    simp only [SX.den, U.co, U.tIi]
    omega
   ·cases h
 | f1 f a _ =>
  refine ⟨fun h => ?_, fun h => ?_⟩
  ·simp only [Zma] at h
   split at h <;> cases h
   all_goals simp only [SX.den, ap1, U.tIi]; omega
  ·simp only [Zme] at h; cases h
 | f2 f a b iha ihb =>
  refine ⟨fun h => ?_, fun h => ?_⟩
  ·simp only [Zma] at h
   split at h
   ·split at h
    ·rename_i x y hx hy
     cases h
     have := iha.1 hx
     have := ihb.1 hy
     simp only [SX.den, ap2, U.tIi]; omega
    ·cases h
   ·split at h
    ·rename_i x y hx hy
     cases h
     have := iha.1 hx
     have := ihb.2 hy
     simp only [SX.den, ap2, U.tIi]; omega
    ·cases h
   ·cases h
    simp only [SX.den, ap2, U.tIi]; omega
   ·cases h
  ·simp only [Zme] at h
   split at h
   ·split at h
    ·rename_i x y hx hy
     cases h
     have := iha.2 hx
     have := ihb.2 hy
     simp only [SX.den, ap2, U.tIi]; omega
    ·cases h
   ·split at h
    ·rename_i x y hx hy
     cases h
     have := iha.2 hx
     have := ihb.1 hy
     simp only [SX.den, ap2, U.tIi]; omega
    ·cases h
   ·cases h
    simp only [SX.den, ap2, U.tIi]
    have := (((a.den S ρ).tB.getD (b.den S ρ).tI.toNat 0)).toNat_lt
    omega
   ·cases h
 | _ => exact ⟨fun h => (by simp only [Zma] at h; cases h), fun h => (by simp only [Zme] at h; cases h)⟩
theorem LB.put_ok {ρ : Nat -> Int} {i : Nat} {c : Int} (hc : c <= ρ i) : ∀ {env : LB}, ZoX ρ env -> ZoX ρ (LB.put i c env) /\ ∀ p ∈ LB.put i c env, p.1 = i \/ ∃ q ∈ env, q.1 = p.1
 | [], _ => ⟨⟨List.pairwise_singleton _ _, fun p hp => by rw [LB.put, ZNR] at hp; subst hp; exact hc⟩, fun p hp => by rw [LB.put, ZNR] at hp; subst hp; exact .inl rfl⟩
 | (j, l) :: r, h => by
  obtain ⟨hp, ho⟩ := h
  rw [List.pairwise_cons] at hp
  simp only [LB.put]
  cases h1 : Nat.beq j i
  ·cases h2 : Nat.blt j i
   ·have ih := LB.put_ok hc (env := r) ⟨hp.2, fun p hq => ho p (ZN4 _ hq)⟩
    have hij : i < j := by
     have e1 : ¬ j < i := fun hh => by rw [<- Nat.blt_eq] at hh; rw [h2] at hh; cases hh
     have e2 : j ≠ i := fun hh => by rw [hh, Nat.beq_refl] at h1; cases h1
     omega
    simp only [cond_false]
    refine ⟨⟨List.pairwise_cons.2 ⟨fun p hq => ?_, ih.1.1⟩, fun p hq => ?_⟩, fun p hq => ?_⟩
    ·rcases ih.2 p hq with e | ⟨q, hq', e⟩
     ·rw [e]; exact hij
     ·rw [<- e]; exact hp.1 q hq'
    ·rcases List.mem_cons.1 hq with rfl | hq
     ·exact ho _ ZN6
     ·exact ih.1.2 p hq
    ·rcases List.mem_cons.1 hq with rfl | hq
     ·exact .inr ⟨_, ZN6, rfl⟩
     ·rcases ih.2 p hq with e | ⟨q, hq', e⟩
      ·exact .inl e
      ·exact .inr ⟨q, ZN4 _ hq', e⟩
   ·rw [Nat.blt_eq] at h2
    simp only [cond_true, cond_false]
    refine ⟨⟨List.pairwise_cons.2 ⟨fun p hq => ?_, List.pairwise_cons.2 hp⟩, fun p hq => ?_⟩, fun p hq => ?_⟩
    ·rcases List.mem_cons.1 hq with rfl | hq
     ·exact h2
     ·have := hp.1 p hq; omega
    ·rcases List.mem_cons.1 hq with rfl | hq
     ·exact hc
     ·exact ho p hq
    ·rcases List.mem_cons.1 hq with rfl | hq
     ·exact .inl rfl
     ·exact .inr ⟨p, hq, rfl⟩
  ·have e := ZNZ h1
   subst e
   simp only [cond_true]
   refine ⟨⟨List.pairwise_cons.2 ⟨fun p hq => hp.1 p hq, hp.2⟩, fun p hq => ?_⟩, fun p hq => ?_⟩
   ·rcases List.mem_cons.1 hq with rfl | hq
    ·have := ho (j, l) ZN6
     simp only at this ⊢; omega
    ·exact ho p (ZN4 _ hq)
   ·rcases List.mem_cons.1 hq with rfl | hq
    ·exact .inl rfl
    ·exact .inr ⟨p, ZN4 _ hq, rfl⟩
abbrev loV (ρ : Env G) : Nat -> Int := fun i => (ρ i).tI
abbrev hiV (ρ : Env G) : Nat -> Int := fun i => -(ρ i).tI
theorem Zil {ρ : Env G} {env : LB} (h : ZoX (loV ρ) env) {e : SX} (he : (e.den S ρ).tP) : ZoX (loV ρ) (ZiU env e) := by
 unfold ZiU
 split
 ·rename_i f c i
  split
  ·have he : decide (c <= (ρ i).tI) = true := he
   exact (LB.put_ok (of_decide_eq_true he) h).1
  ·have he : decide (c < (ρ i).tI) = true := he
   have := of_decide_eq_true he
   exact (LB.put_ok (by simp only [loV]; omega) h).1
  ·exact h
 ·exact h
theorem Zh0 {ρ : Env G} {env : LB} (h : ZoX (hiV ρ) env) {e : SX} (he : (e.den S ρ).tP) : ZoX (hiV ρ) (ZiD env e) := by
 unfold ZiD
 split
 ·rename_i f i c
  split
  ·have he : decide ((ρ i).tI <= c) = true := he
   have := of_decide_eq_true he
   exact (LB.put_ok (by simp only [hiV]; omega) h).1
  ·have he : decide ((ρ i).tI < c) = true := he
   have := of_decide_eq_true he
   exact (LB.put_ok (by simp only [hiV]; omega) h).1
  ·exact h
 ·exact h
theorem Zrv {ρ : Env G} {a b : SX} (h : Zjl a b = true) : (a.den S ρ).tI < (b.den S ρ).tI := by
 unfold Zjl at h
 split at h
 ·rename_i f x g y n f' x' y'
  cases h1 : Nat.beq f 41
  ·rw [h1] at h; cases h
  cases h2 : Nat.beq g 40
  ·rw [h1, h2] at h; cases h
  cases h3 : Nat.beq f' 41
  ·rw [h1, h2, h3] at h; cases h
  cases h4 : SX.bq x x'
  ·rw [h1, h2, h3, h4] at h; cases h
  rw [h1, h2, h3, h4] at h
  have e1 := ZNZ h1
  have e2 := ZNZ h2
  have e3 := ZNZ h3
  have e4 := SX.bq_eq h4
  have e5 := SX.bq_eq h
  subst e1; subst e2; subst e3; subst e4; subst e5
  simp only [SX.den, ap2, U.tIi]
  have e6 : (Int.ofNat n.succ : Int) = (n : Int) + 1 := rfl
  rw [e6]
  omega
 ·cases h
theorem Zyq {ρ : Env G} {lo hi : LB} (ho : ZoX (loV ρ) lo) (hh : ZoX (hiV ρ) hi) {e : SX} (he : ZpD lo hi e = true) : (e.den S ρ).tP := by
 have B := @ZDL G S ρ lo hi ho.2 hh.2
 unfold ZpD at he
 split at he
 ·simp [SX.den, he]
 ·rename_i f x
  split at he
  ·split at he
   ·rename_i l u hl hu
    have b1 := (B).1 hl
    have b2 := (B).2 hu
    cases h1 : decide (-9223372036854775808 <= l)
    ·rw [h1] at he; cases he
    rw [h1] at he
    have q1 := of_decide_eq_true h1
    have q2 := of_decide_eq_true he
    show (decide (IntKind.i64.min <= (x.den S ρ).tI) && decide ((x.den S ρ).tI <= IntKind.i64.max)) = true
    rw [Bool.and_eq_true]
    refine ⟨decide_eq_true ?_, decide_eq_true ?_⟩
    ·show (-(2 ^ 63) : Int) <= _; omega
    ·show _ <= (2 ^ 63 - 1 : Int); omega
   ·cases he
  ·cases he
 ·rename_i f a b
  split at he
  ·split at he
   ·rename_i u l hu hl
    have b1 := (B).2 hu
    have b2 := (B).1 hl
    have := of_decide_eq_true he
    show decide ((a.den S ρ).tI <= (b.den S ρ).tI) = true
    exact decide_eq_true (by omega)
   ·cases he
  ·cases hf : Zjl a b
   ·rw [hf] at he
    simp only [cond_false] at he
    split at he
    ·rename_i u l hu hl
     have b1 := (B).2 hu
     have b2 := (B).1 hl
     have := of_decide_eq_true he
     show decide ((a.den S ρ).tI < (b.den S ρ).tI) = true
     exact decide_eq_true (by omega)
    ·cases he
   ·show decide ((a.den S ρ).tI < (b.den S ρ).tI) = true
    exact decide_eq_true (Zrv S hf)
  ·cases he
 ·cases he
theorem ZAX {c : Int} : ∀ {l : List UInt8}, allB c l = true -> ∀ x ∈ l, ((x.toNat : Nat) : Int) = c
 | [], _, x, hx => nomatch hx
 | y :: l, h, x, hx => by
  simp only [allB] at h
  cases h1 : ibq (.ofNat y.toNat) c
  ·rw [h1] at h; cases h
  ·rw [h1] at h
   rcases List.mem_cons.1 hx with rfl | hx
   ·exact ZeQ h1
   ·exact ZAX h x hx
theorem ZrE {ρ : Env G} {lo hi : LB} (ho : ZoX (loV ρ) lo) (hh : ZoX (hiV ρ) hi) {e : SX} (he : ZiI lo hi e = true) : ¬ (e.den S ρ).tP := by
 have B := @ZDL G S ρ lo hi ho.2 hh.2
 unfold ZiI at he
 split at he
 ·rename_i b; cases b <;> simp [SX.den] at he ⊢
 ·rename_i f x
  split at he
  ·rename_i l i c
   split at he
   ·rename_i a b hl hu
    have b1 := (B).1 hl
    have b2 := (B).2 hu
    cases h1 : Nat.blt b l.length
    ·rw [h1] at he; cases he
    rw [h1] at he
    simp only [cond_true] at he
    rw [Nat.blt_eq] at h1
    have c1 : (Int.ofNat a : Int) = (a : Int) := rfl
    have c2 : (Int.ofNat b : Int) = (b : Int) := rfl
    have hlt : (i.den S ρ).tI.toNat < l.length := by omega
    have hval : ((((l.getD (i.den S ρ).tI.toNat 0).toNat : Nat) : Int)) = c := by
     apply ZAX he
     rw [ZNY, ZN1 hlt]
     apply List.mem_iff_getElem?.2
     refine ⟨(i.den S ρ).tI.toNat - a, ?_⟩
     rw [List.getElem?_take_of_lt (by omega), ZOn, show a + ((i.den S ρ).tI.toNat - a) = (i.den S ρ).tI.toNat by omega, ZN1 hlt]
     rfl
    intro hq
    have hq : (!((((l.getD (i.den S ρ).tI.toNat 0).toNat : Nat) : Int) == c)) = true := hq
    rw [hval] at hq
    simp at hq
   ·cases he
  ·cases he
 ·rename_i f a b
  split at he
  ·split at he
   ·rename_i l u hl hu
    have b1 := (B).1 hl
    have b2 := (B).2 hu
    have := of_decide_eq_true he
    intro hq
    have hq : decide ((a.den S ρ).tI <= (b.den S ρ).tI) = true := hq
    have := of_decide_eq_true hq
    omega
   ·cases he
  ·split at he
   ·rename_i l u hl hu
    have b1 := (B).1 hl
    have b2 := (B).2 hu
    have := of_decide_eq_true he
    intro hq
    have hq : decide ((a.den S ρ).tI < (b.den S ρ).tI) = true := hq
    have := of_decide_eq_true hq
    omega
   ·cases he
  ·cases he
 ·cases he
theorem ZjF {v v' : Nat -> Int} {n : Nat} (hv : ∀ i, i < n -> v' i = v i) : ∀ {env : LB}, ZoX v env -> ZoX v' (LB.below n env)
 | [], _ => ⟨List.Pairwise.nil, fun _ h => nomatch h⟩
 | (j, l) :: r, h => by
  simp only [LB.below]
  obtain ⟨hp, ho⟩ := h
  have hp' := List.pairwise_cons.1 hp
  cases h1 : Nat.blt j n
  ·exact ZjF hv ⟨hp'.2, fun p hq => ho p (ZN4 _ hq)⟩
  ·rw [Nat.blt_eq] at h1
   refine ⟨hp, fun p hq => ?_⟩
   have hlt : p.1 < n := by
    rcases List.mem_cons.1 hq with rfl | hq
    ·exact h1
    ·have := hp'.1 p hq; simp only at this; omega
   rw [hv _ hlt]; exact ho p hq
theorem Ztu (ρ : Env G) (n : Nat) (u : U G) (i : Nat) (h : i < n) : ρ.upd n u i = ρ i := by unfold Env.upd; rw [if_neg (by omega)]
theorem VC.chk_ok : ∀ (v : VC) (lo hi : LB) (ρ : Env G), ZoX (loV ρ) lo -> ZoX (hiV ρ) hi -> VC.chk lo hi v = true -> v.den S ρ := by
 intro v
 induction v with
 | tt => intro _ _ _ _ _ _; trivial
 | ff n => intro _ _ _ _ _ h; cases h
 | and a b iha ihb =>
  intro lo hi ρ ho hh h
  simp only [VC.chk] at h
  cases h1 : VC.chk lo hi a
  ·rw [h1] at h; cases h
  ·rw [h1] at h; exact ⟨iha lo hi ρ ho hh h1, ihb lo hi ρ ho hh h⟩
 | imp e a ih =>
  intro lo hi ρ ho hh h he
  simp only [VC.chk] at h
  cases h1 : ZiI lo hi e
  ·rw [h1] at h; exact ih _ _ ρ (Zil S ho he) (Zh0 S hh he) h
  ·exact absurd he (ZrE S ho hh h1)
 | need e a ih =>
  intro lo hi ρ ho hh h
  simp only [VC.chk] at h
  cases h1 : ZpD lo hi e
  ·rw [h1] at h; cases h
  ·rw [h1] at h
   have he := Zyq S ho hh h1
   exact ⟨he, ih _ _ ρ (Zil S ho he) (Zh0 S hh he) h⟩
 | all n s a ih =>
  intro lo hi ρ ho hh h
  have key : ∀ u : U G, a.den S (ρ.upd n u) := fun u => ih _ _ _ (ZjF (fun i hi => by simp only [loV, Ztu ρ n u i hi]) ho) (ZjF (fun i hi => by simp only [hiV, Ztu ρ n u i hi]) hh) h
  cases s <;> exact fun x => key _
end
end
end Go.Eng
namespace Go.Eng
noncomputable section
section
variable {G : Type}
theorem ZIy (a b : U G) : (ap2 155 a b).tP = (a = b) := by
 show (@decide (a = b) (Classical.propDecidable _) = true) = _
 exact propext ⟨fun h => @of_decide_eq_true _ (Classical.propDecidable _) h, fun h => @decide_eq_true _ (Classical.propDecidable _) h⟩
theorem ZLN (a : U G) : ap1 2 a = .bool (!a.toBool) := rfl
theorem ZBM (a : U G) : ap1 3 a = .int (if a.toBool then 1 else 0) := rfl
theorem ZND (a : U G) : ap1 23 a = .bool (decide (IntKind.min .i64 <= a.tI) && decide (a.tI <= IntKind.max .i64)) := rfl
theorem ZeP (a : U G) : ap1 30 a = .int a.tN.length := rfl
theorem ZEp (a : U G) : ap1 31 a = .int a.tB.length := rfl
theorem Yf (a : U G) : ap1 32 a = .int a.tR.length := rfl
theorem ZMw (a : U G) : ap1 33 a = .int a.tM.length := rfl
theorem Ym (a : U G) : ap1 152 a = .ints [] := rfl
theorem ZGC (a : U G) : ap1 153 a = .bytes [] := rfl
theorem ZnF (a : U G) : ap1 154 a = .rows [] := rfl
theorem ZJf (a : U G) : ap1 155 a = .amap [] := rfl
theorem ZM5 (a : U G) : ap1 35 a = .int (Zs a.tB : Nat) := rfl
theorem ZNq (a : U G) : ap1 36 a = .bytes (YW a.tI.toNat) := rfl
theorem Zwb (a b : U G) : ap2 40 a b = .int (a.tI + b.tI) := rfl
theorem ZEn (a b : U G) : ap2 41 a b = .int (a.tI - b.tI) := rfl
theorem ZMT (a b : U G) : ap2 42 a b = .int (a.tI * b.tI) := rfl
theorem Zu9 (a b : U G) : ap2 43 a b = .int (a.tI.tdiv b.tI) := rfl
theorem ZNF (a b : U G) : ap2 44 a b = .int (a.tI.tmod b.tI) := rfl
theorem ZoU (a b : U G) : ap2 45 a b = .bool (a.tI == b.tI) := rfl
theorem Zkx (a b : U G) : ap2 48 a b = .bool (a.toBool == b.toBool) := rfl
theorem Zkk (a b : U G) : ap2 49 a b = .bool (a.toBool && b.toBool) := rfl
theorem ZKU (a b : U G) : ap2 50 a b = .bool (a.toBool || b.toBool) := rfl
theorem ZH6 (a b : U G) : ap2 110 a b = .int (a.tN.getD b.tI.toNat 0) := rfl
theorem ZEt (a b : U G) : ap2 111 a b = .int ((a.tB.getD b.tI.toNat 0).toNat : Nat) := rfl
theorem ZsQ (a b : U G) : ap2 113 a b = .ints (a.tN.take b.tI.toNat) := rfl
theorem ZHC (a b : U G) : ap2 114 a b = .bytes (a.tB.take b.tI.toNat) := rfl
theorem Zva (a b : U G) : ap2 115 a b = .rows (a.tR.take b.tI.toNat) := rfl
theorem ZGH (a b : U G) : ap2 116 a b = .ints (a.tN.drop b.tI.toNat) := rfl
theorem ZGM (a b : U G) : ap2 117 a b = .bytes (a.tB.drop b.tI.toNat) := rfl
theorem ZFF (a b : U G) : ap2 118 a b = .rows (a.tR.drop b.tI.toNat) := rfl
theorem ZgP (a b : U G) : ap2 119 a b = .ints (a.tN ++ b.tN) := rfl
theorem ZEw (a b : U G) : ap2 120 a b = .bytes (a.tB ++ b.tB) := rfl
theorem Ztl (a b : U G) : ap2 121 a b = .rows (a.tR ++ b.tR) := rfl
theorem Yo (a b : U G) : ap2 122 a b = .ints (a.tI :: b.tN) := rfl
theorem ZHs (a b : U G) : ap2 123 a b = .bytes (UInt8.ofNat a.tI.toNat :: b.tB) := rfl
theorem Yn (a b : U G) : ap2 124 a b = .rows (a.tN :: b.tR) := rfl
theorem ZJj (a b : U G) : ap2 126 a b = .bytes (List.replicate a.tI.toNat (UInt8.ofNat b.tI.toNat)) := rfl
theorem ZGK (a b : U G) : ap2 141 a b = .bool (Zx a.tM b.tI) := rfl
theorem ZIL (a b : U G) : ap2 143 a b = .amap (Y0 a.tM b.tI) := rfl
theorem ZE9 (a b : U G) : ap2 150 a b = .bool (a.tB == b.tB) := rfl
theorem ZEE (a b : U G) : ap2 153 a b = .bool (a.tN == b.tN) := rfl
theorem ZbK (a b c : U G) : ap3 112 a b c = .int ((a.tR.getD b.tI.toNat []).getD c.tI.toNat 0) := rfl
theorem ZGF (a b c : U G) : ap3 130 a b c = .ints (a.tN.set b.tI.toNat c.tI) := rfl
theorem ZHM (a b c : U G) : ap3 131 a b c = .bytes (a.tB.set b.tI.toNat (UInt8.ofNat c.tI.toNat)) := rfl
theorem ZFi (a b c : U G) : ap3 132 a b c = .rows (a.tR.set b.tI.toNat c.tN) := rfl
theorem ZFL (a b c : U G) : ap3 140 a b c = .int (YC a.tI b.tM c.tI) := rfl
theorem ZIt (a b c : U G) : ap3 142 a b c = .amap (Yw a.tM b.tI c.tI) := rfl
def imin (x y : Int) : Int := if y < x then y else x
def imax (x y : Int) : Int := if y > x then y else x
theorem ZIQ {G : Type} (a b : U G) : ap2 51 a b = .int (imin a.tI b.tI) := rfl
theorem ZHt {G : Type} (a b : U G) : ap2 52 a b = .int (imax a.tI b.tI) := rfl
def leB (x y : Int) : Bool := decide (x <= y)
def ltB (x y : Int) : Bool := decide (x < y)
theorem t47 {G : Type} (a b : U G) : (ap2 47 a b).toBool = leB a.tI b.tI := rfl
theorem t46 {G : Type} (a b : U G) : (ap2 46 a b).toBool = ltB a.tI b.tI := rfl
theorem Za {x y : Int} : leB x y = true ↔ x <= y := by unfold leB; simp
theorem Zmj {x y : Int} : ltB x y = true ↔ x < y := by unfold ltB; simp
theorem Zfk {p : Prop} {i : Decidable p} : (@decide p i = true) = p := propext ⟨fun h => of_decide_eq_true h, fun h => decide_eq_true h⟩
theorem p45 {G : Type} (a b : U G) : (ap2 45 a b).tP = (a.tI = b.tI) := by simp [ZoU]
theorem p153 {G : Type} (a b : U G) : (ap2 153 a b).tP = (a.tN = b.tN) := by simp [ZEE]
theorem p46 {G : Type} (a b : U G) : (ap2 46 a b).tP = (a.tI < b.tI) := Zfk
theorem p47 {G : Type} (a b : U G) : (ap2 47 a b).tP = (a.tI <= b.tI) := Zfk
theorem ZFc {G : Type} (a b : U G) : (ap1 2 (ap2 45 a b)).tP = ¬ (a.tI = b.tI) := by simp [ZLN, ZoU]
theorem p50 {G : Type} (a b : U G) : (ap2 50 a b).tP = (a.toBool = true \/ b.toBool = true) := by simp [ZKU]
theorem b46 {G : Type} (a b : U G) : ((ap2 46 a b).toBool = true) = (a.tI < b.tI) := p46 a b
theorem b47 {G : Type} (a b : U G) : ((ap2 47 a b).toBool = true) = (a.tI <= b.tI) := p47 a b
theorem p23 {G : Type} (a : U G) : (ap1 23 a).tP = (IntKind.min .i64 <= a.tI /\ a.tI <= IntKind.max .i64) := by
 rw [ZND, U.tPi, Bool.and_eq_true, Zfk, Zfk]
end
/-! ### Bits of words without sign, and the check sum -/
end
end Go.Eng
namespace Go.Eng
noncomputable section
open Go.RowKit (Below)
open Go.ChangeShapes Go.WideShapes
theorem Zh5 {H : Type} {enc : TypeId × Value -> H} {P : Program} {f : Func} {s : ChangeSpec} {apart Zbj handsOn again : Bool} {W W' : World} {args : Array Value} {v : Value} {ds gs : List (DataW H)} {before pa pv : List MemPlace}
  (hW : DataW.Whole enc P f.params.toList s.vars apart W args.toList ds gs before)
  (hres : ∀ (b : Nat) (sp : Nat -> Bool) (hd : Bool), DataW.TrodAll enc P W' b sp hd f.resultTypes.toList (v.resultList f.resultTypes.size) (s.fn H (ds ++ gs)).results [])
  (hargs : ∀ sp : Nat -> Bool, (∀ p ∈ before, sp p.block = true) -> DataW.TrodAll enc P W' 0 sp true f.params.toList args.toList (s.fn H (ds ++ gs)).args pa)
  (hvars : ∀ sp : Nat -> Bool, (∀ p ∈ before, sp p.block = true) -> DataW.TrodVars enc P W' sp s.vars (s.fn H (ds ++ gs)).vars pv)
  (hps : before = pa ++ pv) (hb : Below W.heap.size W W')
  (hok : ∀ (j : Nat) (t : TypeId) (r : Value), f.resultTypes[j]? = some t -> (v.resultList f.resultTypes.size)[j]? = some r -> Value.okWide P W' .any 0 t r) :
  s.post enc P f apart Zbj handsOn again W args v W' := by
 have hlt := fun p (hp : p ∈ before) => hW.lt p hp
 have hold : ∀ p ∈ before, (fun b => decide (b < W.heap.size)) p.block = true := fun p hp => by simpa using hlt p hp
 refine ⟨ds, gs, before, [], pa, pv, hW, hres _ _ _, hargs _ hold, hvars _ hold, World.keptBut_mono (fun p hp => ⟨hp, ?_⟩) (hb.frame (· ∈ before)), fun _ => ?_⟩
 ·rw [hps, ZOj] at hp; exact Or.inr hp
 ·obtain ⟨_, _, _, _, _, hz, hn⟩ := hW
  refine ⟨hok, _, _, ([] ++ pa) ++ pv, ⟨[] ++ pa, pv, trodAll_append (hargs _ (fun _ _ => rfl)) (hres _ _ _), hvars _ (fun _ _ => rfl), rfl, fun b off hp => ?_, fun ha => ?_⟩, fun p hp _ => ?_⟩
  ·have hp' : MemPlace.cell b off ∈ before := by rw [hps]; simpa using hp
   have h1 := hlt _ hp'
   rw [hb.frozen (p := ⟨b, off, none⟩) h1]
   exact hz b off hp'
  ·have := hn ha
   rw [hps] at this
   simpa using this
  ·rw [hps]; simpa using hp
theorem ZpF (w : World) : Sat w (Zc emp emp) w := by
 rw [emp_star]
 exact ⟨Hl.none, rfl, ⟨fun _ _ _ _ h => (by cases h), fun _ _ _ h => (by cases h), Below.refl _ _⟩⟩
end
end Go.Eng
namespace Go.Proofs.YtidlngnhjffepaaGreat
noncomputable section
open Go.Eng
def ai (n : Nat) : SX := .at .int n
def di (n : Nat) : SX := .at .int (1000000 + n)
def rA (n : Nat) : SX := .at .rows n
def iA (n : Nat) : SX := .at .ints n
def gA (n : Nat) : SX := .at .g n
def bA (n : Nat) : SX := .at .bytes n
def mA (n : Nat) : SX := .at .amap n
def qA (n : Nat) : SX := .at .bool n
def z0 : SX := .int 0
def ZjU : SX := .f1 152 (.int 0)
def Zdu : SX := .f1 154 (.int 0)
def tk (x n : SX) : SX := .f2 115 x n
def tkI (x n : SX) : SX := .f2 113 x n
def Zj (x : SX) : SX := .f1 32 x
def Z1 (x : SX) : SX := .f1 30 x
def ZDf (x : SX) : SX := .f1 31 x
def eqS (a b : SX) : SX := .f2 155 a b
def usI (k : Nat) (a b c : SX) : SX := .us .int k a b c (.int 0)
def usB (k : Nat) (a b c : SX) : SX := .us .bool k a b c (.int 0)
def usR (k : Nat) (a b c : SX) : SX := .us .rows k a b c (.int 0)
def usN (k : Nat) (a b c : SX) : SX := .us .ints k a b c (.int 0)
def usG (k : Nat) (a b c : SX) : SX := .us .g k a b c (.int 0)
def usY (k : Nat) (a b c : SX) : SX := .us .bytes k a b c (.int 0)
def add1 (a : SX) : SX := SX.mk2 40 a (.int 1)
def Zz (a b : SX) : SX := .f2 124 a b
def Zss (n : SX) : SX := .f2 122 n ZjU
def ZT (a b : SX) : SX := .f2 122 a (.f2 122 b ZjU)
def Zam (a b c : SX) : SX := .f2 122 a (ZT b c)
def Zdd (a b c d : SX) : SX := .f2 122 a (Zam b c d)
def Zdp (a b c d e : SX) : SX := .f2 122 a (Zdd b c d e)
def Zca (a b c d e f : SX) : SX := .f2 122 a (Zdp b c d e f)
def row3 (b l c : SX) : SX := Zam b l c
def nt (x i : SX) (k : Nat) : SX := .f3 112 x i (.int (k : Nat))
def slC (b n c : SX) (s : Nat) : SC := .slice b z0 z0 z0 n c s
def sl1 (b n c : SX) : SC := slC b n c 1
def slT : En := .rows [.slice 1]
def iE : En := .ints .i64
def iAr (b x c : SX) : Ch := .arr iE b x c
def bAr (b x c : SX) : Ch := .arr .bytes b x c
def slA (b y c : SX) : Ch := .arr slT b y c
def rdI (j : Nat) (b : Nat) : Ch := .rd j iE (ai b) (ai (b + 1)) (iA (b + 4)) (ai (b + 5))
def g0 (r : List Int) : Int := r.getD 0 0
def g1 (r : List Int) : Int := r.getD 1 0
def g2 (r : List Int) : Int := r.getD 2 0
def slV (b n c : Int) : Value := .slice (if b < 0 then none else some ⟨b.toNat, 0, none⟩) n.toNat c.toNat
def Zn (p : Prop) : Bool := @decide p (Classical.propDecidable p)
theorem Zl {p : Prop} : (Zn p = true) = p := propext ⟨fun h => @of_decide_eq_true p (Classical.propDecidable p) h, fun h => @decide_eq_true p (Classical.propDecidable p) h⟩
def sig0 : Sig Unit := { dg := (), ch := fun _ => true, usr := fun _ _ _ _ _ => .int 0, prd := fun _ _ _ _ => emp }
def bAD (b : Int) (x : List UInt8) (c : Int) : HProp := ZO sig0 .bytes (.int b) (.bytes x) (.int c)
def iAD (b : Int) (x : List Int) (c : Int) : HProp := ZO sig0 iE (.int b) (.ints x) (.int c)
def rAD (e : En) (b : Int) (x : List (List Int)) (c : Int) : HProp := ZO sig0 e (.int b) (.rows x) (.int c)
section
variable {G : Type}
theorem ZcI (S : Sig G) (ρ : Go.Eng.Env G) (b n c : SX) (s : Nat) : (slC b n c s).den S ρ = slV (b.den S ρ).tI (n.den S ρ).tI (c.den S ρ).tI := by
 simp [slC, SC.den, slV, z0, SX.den]
theorem Zt (S : Sig G) (u : U G) : U.co S .int u = .int u.tI := rfl
theorem YZ (S : Sig G) (u : U G) : U.co S .bool u = .bool u.toBool := rfl
theorem Z9 (S : Sig G) (u : U G) : U.co S .ints u = .ints u.tN := rfl
theorem ZC (S : Sig G) (u : U G) : U.co S .rows u = .rows u.tR := rfl
theorem Zo7 (S : Sig G) (u : U G) : U.co S .bytes u = .bytes u.tB := rfl
theorem Zku (S : Sig G) (u : U G) : U.co S .amap u = .amap u.tM := rfl
theorem ZL2 (S : Sig G) (x : G) : U.co S .g (.g x) = .g x := rfl
theorem i64lo : IntKind.min .i64 = -9223372036854775808 := rfl
theorem i64hi : IntKind.max .i64 = 9223372036854775807 := rfl
theorem ZKL (c d : Bool) : ((ap2 48 (.bool c) (.bool d)) : U G).tP = (c = d) := by
 apply propext
 simp only [ap2, U.tP, U.toBool, beq_iff_eq]
end
theorem ZaZ {α : Type} {R : List α} {d : α} {n j : Nat} (h : j < n) : (R.take n).getD j d = R.getD j d := by
 rw [ZNY, ZNY, List.getElem?_take_of_lt h]
theorem Yp {G : Type} (S : Sig G) {sp : Ctr} (H : ∀ (T : Sig G) (w0 : World) (ρ : Go.Eng.Env G) (h : Hl), T.usr = S.usr -> T.prd = S.prd -> T.dg = S.dg -> (∀ e ∈ sp.reqs, (e.den T ρ).tP) -> hpDen T ρ w0 sp.pre h →
  ∃ ρ', Ext sp.ss.length ρ ρ' /\ hpDen T ρ' w0 sp.post h /\ ∀ x ∈ sp.facts, (x.den T ρ').tP) : Zbm S sp := by
 intro ch w0 F ρ w hr hs
 obtain ⟨x, ⟨a, b, d, rfl, ha, hb⟩, hi⟩ := hs
 have e : ∀ (e : SX) ρ, e.den (S.wc ch) ρ = e.den S ρ := fun e ρ => SX.den_wc S ρ ch e
 obtain ⟨ρ', h1, h2, h3⟩ := H (S.wc ch) w0 ρ a rfl rfl rfl (fun q hq => by rw [e]; exact hr q hq) ha
 exact ⟨ρ', h1, ⟨_, ⟨a, b, d, rfl, h2, hb⟩, hi⟩, fun q hq => by rw [<- e]; exact h3 q hq⟩
theorem Zio {G : Type} {S : Sig G} {e : En} {b x c : U G} {h : Hl} (hd : ZO S e b x c h) : (e.vals x).length <= c.tI.toNat * e.stride /\ 0 <= c.tI := by
 obtain ⟨sp, h1, h2, _⟩ := hd; exact ⟨by omega, h2⟩
theorem ZDx {G : Type} (fs : List Go.Eng.Fd) (x : List (List Int)) : ((En.rows fs).vals (.rows x : U G)).length = x.length * fs.length := by
 simp only [En.vals, U.tRi]
 induction x with
 | nil => simp
 | cons r x ih => rw [List.flatMap_cons, ZN3, ih, ZU, ZOi, Nat.add_mul]; omega
theorem ZDU {fs : List Go.Eng.Fd} (hf : 0 < fs.length) {b c : Int} {x : List (List Int)} {h : Hl} (hd : rAD (.rows fs) b x c h) : (x.length : Int) <= c := by
 obtain ⟨h1, h2⟩ := Zio hd
 rw [ZDx] at h1
 have : x.length <= c.toNat := Nat.le_of_mul_le_mul_right h1 hf
 have h2 : 0 <= c := h2
 omega
theorem ZEf {b c : Int} {x : List Int} {h : Hl} (hd : iAD b x c h) : (x.length : Int) <= c := by
 obtain ⟨h1, h2⟩ := Zio hd
 have e1 : (iE.vals (.ints x : U Unit)).length = x.length := by simp [iE, En.vals]
 have e2 : iE.stride = 1 := rfl
 rw [e1, e2] at h1
 have h2 : 0 <= c := h2
 have h1 : x.length <= c.toNat * 1 := h1
 omega
theorem Zmf (fs : List Go.Eng.Fd) : rAD (.rows fs) (-1) [] 0 = emp := by
 funext h
 have e0 : (En.rows fs).vals (.rows [] : U Unit) = [] := rfl
 refine propext ⟨fun hx => ?_, fun hx => ⟨[], by rw [e0]; simp, ZN9 0, .inr rfl, by rw [e0]; show row _ 0 [] true h; rw [Zcg]; exact hx⟩⟩
 obtain ⟨sp, l1, _, _, l4⟩ := hx
 have : sp = [] := ZOd (by rw [e0] at l1; simpa using l1)
 subst this
 rw [e0] at l4
 have l4 : row _ 0 [] true h := l4
 rw [Zcg] at l4
 exact l4
theorem ZyS : iAD (-1) [] 0 = emp := by
 funext h
 refine propext ⟨fun hx => ?_, fun hx => ⟨[], rfl, ZN9 0, .inr rfl, by show row _ 0 [] true h; rw [Zcg]; exact hx⟩⟩
 obtain ⟨sp, l1, _, _, l4⟩ := hx
 have : sp = [] := ZOd (by have : (iE.vals (.ints [] : U Unit)).length = 0 := rfl; rw [this] at l1; simpa using l1)
 subst this
 have l4 : row _ 0 [] true h := l4
 rw [Zcg] at l4
 exact l4
theorem Zr3 {A B B' : HProp} {h : Hl} (hs : Zc A B h) (f : ∀ h, B h -> B' h) : Zc A B' h := Zv (fun _ x => x) f h hs
theorem ZdT {A B : HProp} {h : Hl} (hs : Zc A B h) : ∃ a b, A a /\ B b := let ⟨a, b, _, _, x, y⟩ := hs; ⟨a, b, x, y⟩
theorem Zjp {α : Type} {k : List α} {d : α} {i : Nat} (hi : i < k.length) : k = k.take i ++ ([k.getD i d] ++ k.drop (i + 1)) := by
 rw [List.singleton_append, ZNY, ZN1 hi, ZNT, <- List.drop_eq_getElem_cons hi, List.take_append_drop]
def ZoA : Ctr := ⟨[], [], [], [], [], .tup [], [iAr (.int (-1)) ZjU z0], []⟩
theorem Zb9 {G : Type} (S : Sig G) : Zbm S ZoA := by
 refine Yp S fun T w0 ρ h hu hp hd hr hpre => ⟨ρ, Ext.refl _ _, ?_, by intro x hx; exact nomatch hx⟩
 have e1 : hpDen T ρ w0 ZoA.pre = emp := rfl
 have e2 : hpDen T ρ w0 ZoA.post = Zc (iAD (-1) [] 0) emp := rfl
 rw [e1] at hpre
 rw [e2, Zf, ZyS]; exact hpre
/-! ### What the run is told, piece by piece -/
section
variable {G : Type} (S : Sig G) (P : Program)
def ZjK : List (Nat × List Ctr) -> Prop
 | [] => True
 | p :: l => (∀ sp ∈ p.2, sp.wf = true /\ Zy S P p.1 sp) /\ ZjK l
def ZpQ : List (Nat × List Ctr) -> Prop
 | [] => True
 | p :: l => (∀ sp ∈ p.2, sp.wf = true /\ Zmo S P p.1 sp) /\ ZpQ l
def AnnOk : Ann -> Prop
 | .ghost sp _ => sp.wf = true /\ Zbm S sp
 | .inv _ => True
 | .split _ => True
 | .iff _ => True
 | .cut _ _ _ _ => True
def Zys : List (Nat × Ann) -> Prop
 | [] => True
 | p :: l => AnnOk S p.2 /\ Zys l
def Zqf : List (Nat × List (Nat × Ann)) -> Prop
 | [] => True
 | p :: l => Zys S p.2 /\ Zqf l
variable {S} {P}
theorem ZjK.get {f : Nat} {sps : List Ctr} : ∀ {l : List (Nat × List Ctr)}, ZjK S P l -> ZbE l f = some sps -> ∀ sp ∈ sps, sp.wf = true /\ Zy S P f sp
 | [], _, h => by cases h
 | (i, a) :: l, h1, h => by
  unfold ZbE at h
  cases hb : Nat.beq i f
  ·rw [hb] at h; exact h1.2.get h
  ·rw [hb] at h; cases h; rw [<- ZNZ hb]; exact h1.1
theorem ZpQ.get {f : Nat} {sps : List Ctr} : ∀ {l : List (Nat × List Ctr)}, ZpQ S P l -> ZbE l f = some sps -> ∀ sp ∈ sps, sp.wf = true /\ Zmo S P f sp
 | [], _, h => by cases h
 | (i, a) :: l, h1, h => by
  unfold ZbE at h
  cases hb : Nat.beq i f
  ·rw [hb] at h; exact h1.2.get h
  ·rw [hb] at h; cases h; rw [<- ZNZ hb]; exact h1.1
theorem Zys.get {i : Nat} {sp : Ctr} {args : List Operand} : ∀ {l : List (Nat × Ann)}, Zys S l -> (i, Ann.ghost sp args) ∈ l -> sp.wf = true /\ Zbm S sp
 | [], _, h => by cases h
 | p :: l, h1, h => by
  rcases List.mem_cons.1 h with rfl | h
  ·exact h1.1
  ·exact h1.2.get h
theorem Zqf.get {f : Nat} {al : List (Nat × Ann)} : ∀ {l : List (Nat × List (Nat × Ann))}, Zqf S l -> ZbE l f = some al -> Zys S al
 | [], _, h => by cases h
 | (i, a) :: l, h1, h => by
  unfold ZbE at h
  cases hb : Nat.beq i f
  ·rw [hb] at h; exact h1.2.get h
  ·rw [hb] at h; cases h; exact h1.1
theorem ZQ {C : Cx} (h1 : ZjK S P C.specs) (h2 : Zqf S C.anns) (h3 : ZpQ S P C.exts) : Zsr S P C :=
 ⟨fun f sps h => h1.get h, fun f l h i sp args hm => (h2.get h).get hm, fun f sps h => h3.get h⟩
theorem Zg {f : Nat} {sp : Ctr} (hw : sp.wf = true) (h : Zy S P f sp) : ∀ q ∈ [sp], q.wf = true /\ Zy S P f q := by
 intro q hq; rw [ZNR] at hq; subst hq; exact ⟨hw, h⟩
end
open Go.Eng
abbrev z : SX := .int 0
abbrev k (n : Int) : SX := .int n
abbrev e (a b : SX) : SX := .f2 45 a b
abbrev t (a b : SX) : SX := .f2 46 a b
abbrev l (a b : SX) : SX := .f2 47 a b
abbrev i (e : SX) (k : VC) : VC := .imp e k
abbrev n (e : SX) (k : VC) : VC := .need e k
abbrev u (n : Nat) (s : Srt) (k : VC) : VC := .all n s k
abbrev k0 : SX := .int 1099511627776
abbrev k1 : SX := .int 140737488355328
abbrev k2 : SX := .int 4294967296
abbrev k3 : SX := .int 4294967400
abbrev k4 : SX := .int 1073741824
abbrev a (n : Nat) : SX := .at .int n
abbrev v (k : Nat) (x : SX) : SX := .us .int k x z z z
abbrev d (k : Nat) (x y : SX) : SX := .us .int k x y z z
abbrev x (k : Nat) (x y w : SX) : SX := .us .int k x y w z
abbrev q (n : Nat) : SX := .at .bool n
abbrev p (k : Nat) (x : SX) : SX := .us .bool k x z z z
abbrev c (k : Nat) (x y : SX) : SX := .us .bool k x y z z
abbrev y (k : Nat) (x y w : SX) : SX := .us .bool k x y w z
abbrev g (n : Nat) : SX := .at .g n
abbrev w (k : Nat) (x : SX) : SX := .us .g k x z z z
abbrev f (k : Nat) (x y : SX) : SX := .us .g k x y z z
abbrev h (k : Nat) (x y w : SX) : SX := .us .g k x y w z
abbrev b (n : Nat) : SX := .at .bytes n
abbrev j (k : Nat) (x : SX) : SX := .us .bytes k x z z z
abbrev wB (k : Nat) (x y : SX) : SX := .us .bytes k x y z z
abbrev hB0 (k : Nat) (x y w : SX) : SX := .us .bytes k x y w z
abbrev s (n : Nat) : SX := .at .ints n
abbrev o (k : Nat) (x : SX) : SX := .us .ints k x z z z
abbrev wN (k : Nat) (x y : SX) : SX := .us .ints k x y z z
abbrev hN (k : Nat) (x y w : SX) : SX := .us .ints k x y w z
abbrev r (n : Nat) : SX := .at .rows n
abbrev vR (k : Nat) (x : SX) : SX := .us .rows k x z z z
abbrev wR (k : Nat) (x y : SX) : SX := .us .rows k x y z z
abbrev hR0 (k : Nat) (x y w : SX) : SX := .us .rows k x y w z
abbrev m (n : Nat) : SX := .at .amap n
abbrev vM (k : Nat) (x : SX) : SX := .us .amap k x z z z
abbrev wM0 (k : Nat) (x y : SX) : SX := .us .amap k x y z z
abbrev hM (k : Nat) (x y w : SX) : SX := .us .amap k x y w z
abbrev sB := (And.intro @U.bool.injEq (And.intro @U.bytes.injEq (And.intro @U.int.injEq (And.intro @U.ints.injEq (And.intro @U.rows.injEq (And.intro @U.tQi (And.intro @U.tBi (And.intro @U.tIi (And.intro @U.tNi (And.intro @U.tMi (And.intro @U.tPi (And.intro @U.tRi (And.intro @Ym (And.intro @ZGC (And.intro @ZnF (And.intro @ZJf (And.intro @ZLN (And.intro @ZeP (And.intro @ZEp (And.intro @Yf (And.intro @ZMw (And.intro @ZM5 (And.intro @ZNq (And.intro @ZH6 (And.intro @ZEt (And.intro @ZsQ (And.intro @ZHC (And.intro @Zva (And.intro @ZGM (And.intro @ZEw (And.intro @Ztl (And.intro @Yo (And.intro @ZHs (And.intro @Yn (And.intro @ZJj (And.intro @ZGK (And.intro @ZIL (And.intro @ZE9 (And.intro @Zwb (And.intro @ZEn (And.intro @ZMT (And.intro @Zu9 (And.intro @ZoU (And.intro @ZIQ (And.intro @ZHt (And.intro @ZbK (And.intro @ZHM (And.intro @ZFi (And.intro @ZFL (And.intro @ZIt (And.intro @b46 (And.intro @b47 (And.intro @YZ (And.intro @Zo7 (And.intro @ZL2 (And.intro @Zt (And.intro @Z9 (And.intro @Zku (And.intro @ZC (And.intro @i64hi (And.intro @i64lo (And.intro @Za (And.intro @Zmj (And.intro @p153 (And.intro @ZIy (And.intro @p23 (And.intro @ZFc (And.intro @p45 (And.intro @p46 (And.intro @p47 (And.intro @p50 (And.intro @Zl (And.intro @t46 @t47)))))))))))))))))))))))))))))))))))))))))))))))))))))))))))))))))))))))))
abbrev sC := (And.intro @ZNF (And.intro @Zkx @Zkk))
end
end Go.Proofs.YtidlngnhjffepaaGreat
namespace Go.Proofs.YtidlngnhjffepaaGreat
noncomputable section
open Go.Eng
abbrev Ent := List Int
def xk (r : Ent) : Int := r.getD 0 0
def xw (r : Ent) : Int := r.getD 1 0
def ZV (r : Ent) : List UInt8 := YW (r.getD 2 0).toNat
def ZaB (r : Ent) : List UInt8 := YW (r.getD 3 0).toNat
def ZbW (r : Ent) : Bool := !(r.getD 4 0 == 0)
def xt (r : Ent) : Int := r.getD 5 0
def xa (x : List Ent) (i : Nat) : Ent := x.getD i []
def b01 (c : Bool) : Int := if c = true then 1 else 0
theorem ZD {G : Type} (a : U G) : ap1 3 a = .int (b01 a.toBool) := rfl
theorem Zei (c : Bool) : (!(b01 c == 0)) = c := by cases c <;> rfl
/-! ### The reference, over the entries ahead of a place -/
def Yd (x : List Ent) (k w : Int) : Nat -> Int
 | 0 => -1
 | n + 1 => if 0 <= Yd x k w n then Yd x k w n else if xk (xa x n) = k /\ xw (xa x n) = w then n else -1
def Zbo (x : List Ent) (w : Int) : Nat -> Bool × Int
 | 0 => (false, -1)
 | n + 1 =>
  let s := Zbo x w n
  let r := xa x n
  if xk r = 1 /\ xw r = w then (true, s.2)
  else if (xk r = 5 \/ xk r = 6) /\ xw r = w then (false, s.2)
  else if xk r = 7 /\ s.1 = true then (false, (n : Int)) else s
def Zhb (x : List Ent) (f a : Int) : Bool := Zn (0 <= f /\ ∀ i : Nat, f < i -> (i : Int) < a -> xk (xa x i) ≠ 1 /\ xk (xa x i) ≠ 2 /\ xk (xa x i) ≠ 7)
def ZJs (x : List Ent) (f a : Int) : Prop := ∀ i : Nat, f < i -> (i : Int) < a -> xk (xa x i) ≠ 1 /\ xk (xa x i) ≠ 2 /\ xk (xa x i) ≠ 7
def Zl8 (x : List Ent) (n : Nat) : Bool :=
 let r := xa x n
 let o := Zbo x (xw r) n
 if xk r = 1 then decide (0 <= Yd x 1 (xw r) n)
 else if xk r = 2 then decide (0 < xw r) && !o.1
 else if xk r = 3 \/ xk r = 4 \/ xk r = 6 then !o.1
 else if xk r = 5 then (!o.1 && !Zhb x o.2 n) || decide (0 <= Yd x 5 (xw r) n)
 else false
def ZwO (x : List Ent) : Nat -> Int
 | 0 => 0
 | n + 1 => if xk (xa x n) = 5 then xt (xa x n) else ZwO x n
def Zmd (x : List Ent) (n : Nat) : Bool := decide (xk (xa x n) = 5) && !decide (xt (xa x n) = ZwO x n + 1)
def ZcG (x : List Ent) : Nat -> Int × Int
 | 0 => (-1, 0)
 | n + 1 => if 0 <= (ZcG x n).1 then ZcG x n else if Zl8 x n then (n, 1) else if Zmd x n then (n, 2) else (-1, 0)
def ZbI (r : Ent) : Bool :=
 let keyed := decide (xk r = 2) || decide (xk r = 3) || decide (xk r = 4)
 if xk r = 1 \/ xk r = 6 then decide (0 < xw r) && (ZV r == []) && (ZaB r == []) && !ZbW r && decide (xt r = 0)
 else if xk r = 2 then decide (0 <= xw r) && !(ZV r == []) && (ZbW r || (ZaB r == [])) && decide (xt r = 0)
 else if xk r = 3 then decide (0 < xw r) && !(ZV r == []) && ZbW r && decide (xt r = 0)
 else if xk r = 4 then decide (0 < xw r) && !(ZV r == []) && (ZaB r == []) && !ZbW r && decide (xt r = 0)
 else if xk r = 5 then decide (0 < xw r) && (ZV r == []) && (ZaB r == []) && !ZbW r && decide (1 <= xt r) && decide (xt r <= 1099511627776)
 else if xk r = 7 then decide (xw r = 0) && (ZV r == []) && (ZaB r == []) && !ZbW r && decide (xt r = 0)
 else false
def Zi8 (x : List Ent) (n : Nat) : Bool := Zn (∀ i < n, ZbI (xa x i) = true)
def YA (x : List Ent) (w : Int) (k : List UInt8) : Nat -> Int
 | 0 => -1
 | n + 1 => if (xk (xa x n) = 3 \/ xk (xa x n) = 4) /\ xw (xa x n) = w /\ ZV (xa x n) = k then n else YA x w k n
def ZcY (x : List Ent) (ks : List Int) (k : List UInt8) : Nat -> List UInt8 × Bool
 | 0 => ([], false)
 | n + 1 => let j := YA x (ks.getD n 0) k x.length
  if 0 <= j then (ZaB (xa x j.toNat), decide (xk (xa x j.toNat) = 3)) else ZcY x ks k n
def ZJ (x : List Ent) : Nat -> List Int
 | 0 => []
 | n + 1 => if xk (xa x n) = 5 then ZJ x n ++ [xw (xa x n)] else ZJ x n
def Zg8 (x : List Ent) (a : Nat) (ks : List Int) : Bool × Int :=
 let r := xa x a
 let j := YA x (xw r) (ZV r) a
 if 0 <= j /\ 0 < xw r then ((ZbW r == decide (xk (xa x j.toNat) = 3)) && (ZaB r == ZaB (xa x j.toNat)), 3)
 else let v := ZcY x ks (ZV r) ks.length; ((ZbW r == v.2) && (ZaB r == v.1), 4)
def ZjR (x : List Ent) (n : Nat) : Nat :=
 if 0 < xw (xa x n) then (let c := Yd x 5 (xw (xa x n)) x.length; if 0 <= c then c.toNat else n) else n
def Zfl (x : List Ent) : Nat -> Int × Int
 | 0 => (-1, 0)
 | n + 1 => if 0 <= (Zfl x n).1 then Zfl x n else if xk (xa x n) = 2 then
   (let t := Zg8 x n (ZJ x (ZjR x n)); if t.1 then (-1, 0) else ((n : Int), t.2)) else (-1, 0)
def ZKO (x : List Ent) (j : Int) : List UInt8 := if 0 <= j then ZaB (xa x j.toNat) else []
def ZLw (x : List Ent) (j : Int) : Int := if 0 <= j then xk (xa x j.toNat) else 0
def Zb5 (x : List Ent) : Int := if 400 < x.length then 2 else if Zi8 x x.length then 0 else 280
def Zkn (x : List Ent) : Int × Int × Int :=
 if Zb5 x ≠ 0 then (0, 0, Zb5 x) else if 0 <= (ZcG x x.length).1 then ((ZcG x x.length).1, (ZcG x x.length).2, 0) else ((Zfl x x.length).1, (Zfl x x.length).2, 0)
/-! ### What the words speak of -/
structure Tx where
 who : Int
 beg : Int
 com : Int
 opn : Bool
 ch : List (Int × Int)
 rds : List Ent
 bad : List Int
def tx0 : Tx := ⟨0, 0, 0, false, [], [], []⟩
inductive GG where
 | tx (l : List Tx)
def gg0 : GG := .tx []
def ZK : U GG -> List Tx
 | .g (.tx l) => l
 | _ => []
theorem ZI (l : List Tx) : ZK (.g (.tx l)) = l := rfl
theorem Ye (x : List Ent) (k w : Int) (n : Nat) : Yd x k w (n + 1) = if 0 <= Yd x k w n then Yd x k w n else if xk (xa x n) = k /\ xw (xa x n) = w then (n : Int) else -1 := rfl
theorem ZcL (x : List Ent) (w : Int) (n : Nat) : Zbo x w (n + 1) = (if xk (xa x n) = 1 /\ xw (xa x n) = w then (true, (Zbo x w n).2)
  else if (xk (xa x n) = 5 \/ xk (xa x n) = 6) /\ xw (xa x n) = w then (false, (Zbo x w n).2)
  else if xk (xa x n) = 7 /\ (Zbo x w n).1 = true then (false, (n : Int)) else Zbo x w n) := rfl
theorem Zfp {x : List Ent} {k w : Int} {n : Nat} (h : 0 <= Yd x k w n) : ∀ {m : Nat}, n <= m -> Yd x k w m = Yd x k w n
 | 0, hm => by rw [Nat.le_zero.1 hm]
 | m + 1, hm => by
  rcases ZNS m n with hlt | hge
  ·rw [show m + 1 = n by omega]
  ·have := Zfp h hge
   rw [Ye, if_pos (by rw [this]; exact h), this]
theorem Zb6 (x : List Ent) (k w : Int) : ∀ n : Nat, -1 <= Yd x k w n /\ Yd x k w n < n /\ (0 <= Yd x k w n -> xk (xa x (Yd x k w n).toNat) = k /\ xw (xa x (Yd x k w n).toNat) = w)
 | 0 => ⟨ZN9 _, by show (-1 : Int) < 0; omega, fun h => absurd h (by show ¬ (0 : Int) <= -1; omega)⟩
 | n + 1 => by
  have ih := Zb6 x k w n
  rw [Ye]
  split
  ·exact ⟨ih.1, by omega, ih.2.2⟩
  ·split
   ·rename_i h
    exact ⟨by omega, by omega, fun _ => by rw [ZN5]; exact h⟩
   ·exact ⟨ZN9 _, by omega, fun h => absurd h (by omega)⟩
theorem ZhM (x : List Ent) (w : Int) : ∀ n : Nat, -1 <= (Zbo x w n).2 /\ (Zbo x w n).2 < n
 | 0 => ⟨ZN9 _, by show (-1 : Int) < 0; omega⟩
 | n + 1 => by
  have ih := ZhM x w n
  rw [ZcL]
  split
  ·exact ⟨ih.1, by have := ih.2; show (Zbo x w n).2 < _; omega⟩
  ·split
   ·exact ⟨ih.1, by have := ih.2; show (Zbo x w n).2 < _; omega⟩
   ·split
    ·exact ⟨by show (-1 : Int) <= n; omega, by show (n : Int) < _; omega⟩
    ·exact ⟨ih.1, by have := ih.2; omega⟩
theorem Zr {p : Prop} (h : ¬ p) : Zn p = false := by
 cases e : Zn p
 ·rfl
 ·exact absurd ((Zl (p := p)).mp e) h
theorem Zu {p : Prop} (h : p) : Zn p = true := (Zl (p := p)).mpr h
theorem ZgS {x : List Ent} {f a : Int} : Zhb x f a = (decide (0 <= f) && Zn (ZJs x f a)) := by
 unfold Zhb
 by_cases h1 : 0 <= f
 ·by_cases h2 : ZJs x f a
  ·rw [Zu ⟨h1, h2⟩, Zu h2]; simp [h1]
  ·rw [Zr (fun h => h2 h.2), Zr h2]; simp
 ·rw [Zr (fun h => h1 h.1)]; simp [h1]
theorem ZbA (x : List Ent) (w : Int) (k : List UInt8) (n : Nat) : YA x w k (n + 1) = if (xk (xa x n) = 3 \/ xk (xa x n) = 4) /\ xw (xa x n) = w /\ ZV (xa x n) = k then (n : Int) else YA x w k n := rfl
theorem ZbZ (x : List Ent) (n : Nat) : ZcG x (n + 1) = if 0 <= (ZcG x n).1 then ZcG x n else if Zl8 x n then ((n : Int), 1) else if Zmd x n then ((n : Int), 2) else (-1, 0) := rfl
theorem ZiT {x : List Ent} {n : Nat} (h : 0 <= (ZcG x n).1) : ∀ {m : Nat}, n <= m -> ZcG x m = ZcG x n
 | 0, hm => by rw [Nat.le_zero.1 hm]
 | m + 1, hm => by
  rcases ZNS m n with hlt | hge
  ·rw [show m + 1 = n by omega]
  ·have := ZiT h hge
   rw [ZbZ, if_pos (by rw [this]; exact h), this]
theorem Zp0 (x : List Ent) (n : Nat) : Zfl x (n + 1) = if 0 <= (Zfl x n).1 then Zfl x n else if xk (xa x n) = 2 then (if (Zg8 x n (ZJ x (ZjR x n))).1 then (-1, 0) else ((n : Int), (Zg8 x n (ZJ x (ZjR x n))).2)) else (-1, 0) := rfl
theorem ZH3 {r : Ent} (h : ZbI r = true) (hk : xk r = 5) : 1 <= xt r /\ xt r <= 1099511627776 := by
 unfold ZbI at h
 simp [hk] at h
 omega
theorem ZEc {x : List Ent} : ∀ {n : Nat}, (∀ i < n, ZbI (xa x i) = true) -> 0 <= ZwO x n /\ ZwO x n <= 1099511627776
 | 0, _ => ⟨ZN9 _, by show (0 : Int) <= 1099511627776; omega⟩
 | n + 1, h => by
  unfold ZwO
  split
  ·rename_i hk
   have := ZH3 (h n (by omega)) hk
   omega
  ·exact ZEc fun i hi => h i (by omega)
theorem ZNb {x : List Ent} : ∀ {n : Nat}, ¬ 0 <= (ZcG x n).1 -> ZcG x n = (-1, 0)
 | 0, _ => rfl
 | n + 1, h => by
  rw [ZbZ] at h ⊢
  split
  ·rename_i q; rw [if_pos q] at h; exact absurd q h
  ·rename_i q; rw [if_neg q] at h
   split
   ·rename_i r; rw [if_pos r] at h; exact absurd (show (0 : Int) <= n by omega) h
   ·rename_i r; rw [if_neg r] at h
    split
    ·rename_i t; rw [if_pos t] at h; exact absurd (show (0 : Int) <= n by omega) h
    ·rfl
theorem may_nr' (r : Ent) : ZbI [r.getD 0 0, r.getD 1 0, (Zs (YW (r.getD 2 0).toNat) : Nat), (Zs (YW (r.getD 3 0).toNat) : Nat), b01 (!r.getD 4 0 == 0), r.getD 5 0] = ZbI r := by
 unfold ZbI xk xw ZV ZaB ZbW xt
 simp only [List.getD_cons_zero, List.getD_cons_succ, ZN5, Zo, Zei]
theorem Zgd (x : List Ent) (n : Nat) : Zl8 x n = if xk (xa x n) = 1 then decide (0 <= Yd x 1 (xw (xa x n)) n)
 else if xk (xa x n) = 2 then decide (0 < xw (xa x n)) && !(Zbo x (xw (xa x n)) n).1
 else if xk (xa x n) = 3 \/ xk (xa x n) = 4 \/ xk (xa x n) = 6 then !(Zbo x (xw (xa x n)) n).1
 else if xk (xa x n) = 5 then (!(Zbo x (xw (xa x n)) n).1 && !Zhb x (Zbo x (xw (xa x n)) n).2 n) || decide (0 <= Yd x 5 (xw (xa x n)) n)
 else false := rfl
theorem ZcV (x : List Ent) (ks : List Int) (k : List UInt8) (n : Nat) : ZcY x ks k (n + 1) = if 0 <= YA x (ks.getD n 0) k x.length then (ZaB (xa x (YA x (ks.getD n 0) k x.length).toNat), decide (xk (xa x (YA x (ks.getD n 0) k x.length).toNat) = 3)) else ZcY x ks k n := rfl
theorem ZbC (x : List Ent) (n : Nat) : ZJ x (n + 1) = if xk (xa x n) = 5 then ZJ x n ++ [xw (xa x n)] else ZJ x n := rfl
theorem Zwn (x : List Ent) : ∀ n : Nat, (ZJ x n).length <= n
 | 0 => ZNO _
 | n + 1 => by
  have := Zwn x n
  rw [ZbC]
  split
  ·rw [ZN3, ZNM]; omega
  ·omega
theorem Zzq (x : List Ent) (a : Nat) (ks : List Int) : Zg8 x a ks = if 0 <= YA x (xw (xa x a)) (ZV (xa x a)) a /\ 0 < xw (xa x a) then
   ((ZbW (xa x a) == decide (xk (xa x (YA x (xw (xa x a)) (ZV (xa x a)) a).toNat) = 3)) && (ZaB (xa x a) == ZaB (xa x (YA x (xw (xa x a)) (ZV (xa x a)) a).toNat)), 3)
  else ((ZbW (xa x a) == (ZcY x ks (ZV (xa x a)) ks.length).2) && (ZaB (xa x a) == (ZcY x ks (ZV (xa x a)) ks.length).1), 4) := rfl
theorem Zhw (x : List Ent) (n : Nat) : ZjR x n = if 0 < xw (xa x n) then (if 0 <= Yd x 5 (xw (xa x n)) x.length then (Yd x 5 (xw (xa x n)) x.length).toNat else n) else n := rfl
theorem ZKa {x : List Ent} : ∀ {n : Nat}, ¬ 0 <= (Zfl x n).1 -> Zfl x n = (-1, 0)
 | 0, _ => rfl
 | n + 1, h => by
  rw [Zp0] at h ⊢
  split
  ·rename_i q; rw [if_pos q] at h; exact absurd q h
  ·rename_i q; rw [if_neg q] at h
   split
   ·rename_i r; rw [if_pos r] at h
    split
    ·rfl
    ·rename_i t; rw [if_neg t] at h; exact absurd (show (0 : Int) <= n by omega) h
   ·rfl
structure RfSig (S : Sig GG) : Prop where
 u500 : ∀ a b c d, S.usr 500 a b c d = .int (Yd a.tR b.tI c.tI d.tI.toNat)
 u501 : ∀ a b c d, S.usr 501 a b c d = .bool (Zbo a.tR b.tI c.tI.toNat).1
 u502 : ∀ a b c d, S.usr 502 a b c d = .int (Zbo a.tR b.tI c.tI.toNat).2
 u503 : ∀ a b c d, S.usr 503 a b c d = .bool (Zhb a.tR b.tI c.tI)
 u504 : ∀ a b c d, S.usr 504 a b c d = .bool (Zn (ZJs a.tR b.tI c.tI))
 u505 : ∀ a b c d, S.usr 505 a b c d = .bool (Zl8 a.tR b.tI.toNat)
 u506 : ∀ a b c d, S.usr 506 a b c d = .int (ZwO a.tR b.tI.toNat)
 u507 : ∀ a b c d, S.usr 507 a b c d = .bool (Zmd a.tR b.tI.toNat)
 u508 : ∀ a b c d, S.usr 508 a b c d = .int (ZcG a.tR b.tI.toNat).1
 u509 : ∀ a b c d, S.usr 509 a b c d = .int (ZcG a.tR b.tI.toNat).2
 u510 : ∀ a b c d, S.usr 510 a b c d = .bool (ZbI a.tN)
 u511 : ∀ a b c d, S.usr 511 a b c d = .bool (Zi8 a.tR b.tI.toNat)
 u512 : ∀ a b c d, S.usr 512 a b c d = .int (YA a.tR b.tI c.tB d.tI.toNat)
 u513 : ∀ a b c d, S.usr 513 a b c d = .bytes (ZcY a.tR b.tN c.tB d.tI.toNat).1
 u514 : ∀ a b c d, S.usr 514 a b c d = .bool (ZcY a.tR b.tN c.tB d.tI.toNat).2
 u515 : ∀ a b c d, S.usr 515 a b c d = .ints (ZJ a.tR b.tI.toNat)
 u516 : ∀ a b c d, S.usr 516 a b c d = .bool (Zg8 a.tR b.tI.toNat c.tN).1
 u517 : ∀ a b c d, S.usr 517 a b c d = .int (Zg8 a.tR b.tI.toNat c.tN).2
 u518 : ∀ a b c d, S.usr 518 a b c d = .int (Zfl a.tR b.tI.toNat).1
 u519 : ∀ a b c d, S.usr 519 a b c d = .int (Zfl a.tR b.tI.toNat).2
 u520 : ∀ a b c d, S.usr 520 a b c d = .int (Zkn a.tR).1
 u521 : ∀ a b c d, S.usr 521 a b c d = .int (Zkn a.tR).2.1
 u522 : ∀ a b c d, S.usr 522 a b c d = .int (Zkn a.tR).2.2
 u524 : ∀ a b c d, S.usr 524 a b c d = .bytes (ZKO a.tR b.tI)
 u525 : ∀ a b c d, S.usr 525 a b c d = .int (ZLw a.tR b.tI)
 u523 : ∀ a b c d, S.usr 523 a b c d = .int (Zb5 a.tR)
theorem ZS (a b : U GG) : (ap2 48 a b).tP = (a.toBool = b.toBool) := by
 apply propext
 simp only [ap2, U.tP, U.toBool, beq_iff_eq]
/-! ### Short names -/
def hF : List Go.Eng.Fd := [.int .i64, .int .i64, .str, .str, .bool, .int .i64]
def hE : En := .rows hF
def hS (b : Nat) : SC := .slice (ai b) (ai (b + 1)) z0 z0 (ai (b + 2)) (ai (b + 3)) 6
def hC (j b : Nat) : Ch := .rd j hE (ai b) (ai (b + 1)) (rA (b + 4)) (ai (b + 5))
def hQ (b : Nat) : List SX := [eLe z0 (ai (b + 2)), .f2 45 (ai (b + 2)) (Zj (rA (b + 4))), eLe (ai (b + 2)) (ai (b + 3)), eLe (ai (b + 2)) (.int 1099511627776)]
def hA : List Srt := [.int, .int, .int, .int, .rows, .int]
def ZpC : Ctr := ⟨hA ++ [.int, .int, .int], [.one (hS 0), .one (.int .i64 (ai 6)), .one (.int .i64 (ai 7)), .one (.int .i64 (ai 8))], [hC 0 0], hQ 0 ++ [eLe z0 (ai 8), eLe (ai 8) (ai 2)], [],
 .one (.int .i64 (.us .int 500 (rA 4) (ai 6) (ai 7) (ai 8))), [hC 0 0], []⟩
def firI : Inv := ⟨[.int], [(9, .one (.int .i64 (di 0)))], [], [eLe z0 (di 0), eLe (di 0) (ai 8), .f2 45 (.us .int 500 (rA 4) (ai 6) (ai 7) (di 0)) (.int (-1))], .f2 41 (ai 8) (di 0)⟩
def ZKk : Cx := { specs := [], anns := [(48, [(2, .inv firI)])] }
def Zvd : Ctr := ⟨hA ++ [.int, .int], [.one (hS 0), .one (.int .i64 (ai 6)), .one (.int .i64 (ai 7))], [hC 0 0], hQ 0 ++ [eLe z0 (ai 7), eLe (ai 7) (ai 2)], [],
 .tup [(false, [.bool (usB 501 (rA 4) (ai 6) (ai 7))]), (false, [.int .i64 (usI 502 (rA 4) (ai 6) (ai 7))])], [hC 0 0], []⟩
def opnI : Inv := ⟨[.int], [(8, .one (.bool (usB 501 (rA 4) (ai 6) (di 0)))), (9, .one (.int .i64 (usI 502 (rA 4) (ai 6) (di 0)))), (10, .one (.int .i64 (di 0)))], [], [eLe z0 (di 0), eLe (di 0) (ai 7)], .f2 41 (ai 7) (di 0)⟩
def ZMV : Cx := { specs := [], anns := [(78, [(4, .inv opnI)])] }
def ZxQ : Ctr := ⟨hA ++ [.int, .int], [.one (hS 0), .one (.int .i64 (ai 6)), .one (.int .i64 (ai 7))], [hC 0 0], hQ 0 ++ [eLe (.int (-1)) (ai 6), eLt (ai 6) (ai 7), eLe (ai 7) (ai 2)], [.bool],
 .one (.bool (qA 8)), [hC 0 0], [.f2 48 (qA 8) (usB 503 (rA 4) (ai 6) (ai 7))]⟩
def latI : Inv := ⟨[.int], [(7, .one (.int .i64 (di 0)))], [], [eLt (ai 6) (di 0), eLe (di 0) (ai 7), usB 504 (rA 4) (ai 6) (di 0)], .f2 41 (ai 7) (di 0)⟩
def ZMU : Cx := { specs := [], anns := [(79, [(2, .inv latI)])] }
def Zt9 : Ctr := ⟨hA ++ [.int], [.one (hS 0), .one (.int .i64 (ai 6))], [hC 0 0], hQ 0 ++ [eLe z0 (ai 6), eLt (ai 6) (ai 2)], [.bool], .one (.bool (qA 7)), [hC 0 0], [.f2 48 (qA 7) (usB 505 (rA 4) (ai 6) z0)]⟩
def ZNe : Cx := { specs := [(78, [Zvd]), (48, [ZpC]), (79, [ZxQ])], anns := [] }
def Zy0 : Ctr := ⟨hA ++ [.int], [.one (hS 0), .one (.int .i64 (ai 6))], [hC 0 0], hQ 0 ++ [eLe z0 (ai 6), eLt (ai 6) (ai 2), usB 511 (rA 4) (ai 2) z0], [.bool], .one (.bool (qA 7)), [hC 0 0], [.f2 48 (qA 7) (usB 507 (rA 4) (ai 6) z0)]⟩
def wroI : Inv := ⟨[.int], [(5, .one (.int .i64 (usI 506 (rA 4) (di 0) z0))), (6, .one (.int .i64 (di 0)))], [], [eLe z0 (di 0), eLe (di 0) (ai 6)], .f2 41 (ai 6) (di 0)⟩
def ZNg : Cx := { specs := [], anns := [(60, [(5, .inv wroI)])] }
def ZuJ : Ctr := ⟨hA, [.one (hS 0)], [hC 0 0], hQ 0 ++ [usB 511 (rA 4) (ai 2) z0], [], .tup [(false, [.int .i64 (usI 508 (rA 4) (ai 2) z0)]), (false, [.int .i64 (usI 509 (rA 4) (ai 2) z0)])], [hC 0 0], []⟩
def turI : Inv := ⟨[.int], [(4, .one (.int .i64 (di 0)))], [], [eLe z0 (di 0), eLe (di 0) (ai 2), .f2 45 (usI 508 (rA 4) (di 0) z0) (.int (-1))], .f2 41 (ai 2) (di 0)⟩
def ZLy : Cx := { specs := [(59, [Zt9]), (60, [Zy0])], anns := [(29, [(2, .inv turI)])] }
def entX : SX := Zca (ai 0) (ai 1) (.f1 35 (bA 2)) (.f1 35 (bA 3)) (.f1 3 (qA 4)) (ai 5)
def Zqb : Ctr := ⟨[.int, .int, .bytes, .bytes, .bool, .int], [.agg [.int .i64 (ai 0), .int .i64 (ai 1), .str (bA 2), .str (bA 3), .bool (qA 4), .int .i64 (ai 5)]], [], [], [.bool], .one (.bool (qA 6)), [], [.f2 48 (qA 6) (usB 510 entX z0 z0)]⟩
def ZNh : Cx := { specs := [], anns := [] }
def Zv5 : Ctr := ⟨hA, [.one (hS 0)], [hC 0 0], hQ 0, [], .one (.int .i64 (usI 523 (rA 4) z0 z0)), [hC 0 0], []⟩
def chkI : Inv := ⟨[.int], [(3, .one (.int .i64 (di 0)))], [], [eLe z0 (di 0), eLe (di 0) (ai 2), usB 511 (rA 4) (di 0) z0], .f2 41 (ai 2) (di 0)⟩
def ZLq : Cx := { specs := [(58, [Zqb])], anns := [(28, [(4, .inv chkI)])] }
def ZIO : SX := e (.f3 112 (r 4) (a 9) z) (a 6)
def ZHK : SX := e (.f3 112 (r 4) (a 9) (k 1)) (a 7)
def ZFh : SX := .us .int 500 (r 4) (a 6) (a 7) (a 8)
def Zr2 : SX := .f2 40 (a 9) (k 1)
def ZFQ : SX := .f1 23 Zr2
def ZFM : SX := .f2 41 (a 8) Zr2
def ZJd : SX := l z ZFM
def ZJc : SX := t ZFM (.f2 41 (a 8) (a 9))
def ZIF : SX := l z Zr2
def ZIW : SX := l Zr2 (a 8)
def ZsV : SX := e (.us .int 500 (r 4) (a 6) (a 7) Zr2) (k (-1))
def ZJ0 : VC := i (l z (a 2)) (i (e (a 2) (.f1 32 (r 4))) (i (l (a 2) (a 3)) (i (l (a 2) k0) (i (l z (a 8)) (i (l (a 8) (a 2)) (n (e (x 500 (r 4) (a 6) (a 7)) (k (-1))) (u 9 .int (i (l z (a 9)) (i (l (a 9) (a 8)) (i (e (.us .int 500 (r 4) (a 6) (a 7) (a 9)) (k (-1))) (.and (i (t (a 9) (a 8)) (n (t (a 9) (a 2)) (n (t (a 9) (.f1 32 (r 4))) (.and (i ZIO (.and (i ZHK (n (e ZFh (a 9)) .tt)) (i (.f1 2 ZHK) (n ZFQ (n ZJd (n ZJc (n ZIF (n ZIW (n ZsV .tt))))))))) (i (.f1 2 ZIO) (n ZFQ (n ZJd (n ZJc (n ZIF (n ZIW (n ZsV .tt))))))))))) (i (l (a 8) (a 9)) (n (e ZFh (k (-1))) .tt)))))))))))))
theorem ZLO : Yq Tryz.prog ZKk 12 48 ZpC = ZJ0 := by kernel_rfl
def ZvM : SX := .f3 112 (r 4) (a 8) z
def ZET : SX := e ZvM (k 1)
def Zv6 : SX := e (.f3 112 (r 4) (a 8) (k 1)) (a 6)
def ZnE : SX := .f2 40 (a 8) (k 1)
def Zhl : SX := .f1 23 ZnE
def ZE3 : SX := .f2 41 (a 7) ZnE
def Zhh : SX := l z ZE3
def Zho : SX := t ZE3 (.f2 41 (a 7) (a 8))
def Zhn : SX := l z ZnE
def Zhj : SX := l ZnE (a 7)
def Zs7 : SX := x 502 (r 4) (a 6) ZnE
def Zvn : SX := x 502 (r 4) (a 6) (a 8)
def ZdE : SX := e Zs7 Zvn
def ZoF : SX := y 501 (r 4) (a 6) ZnE
def Zp9 : SX := .f1 2 Zv6
def Ztv : SX := e ZvM (k 5)
def Zv3 : SX := .f1 2 Ztv
def Zy4 : SX := e ZvM (k 6)
def ZAx : SX := .f1 2 Zy4
def Zwz : SX := e ZvM (k 7)
def ZkX : SX := .f1 2 Zwz
def Zlo : SX := y 501 (r 4) (a 6) (a 8)
def ZhU : SX := .f2 155 ZoF Zlo
def Zpg : SX := .f2 155 ZoF (.bool false)
def ZNu : VC := i (l z (a 2)) (i (e (a 2) (.f1 32 (r 4))) (i (l (a 2) (a 3)) (i (l (a 2) k0) (i (l z (a 7)) (i (l (a 7) (a 2)) (n (e (d 502 (r 4) (a 6)) (k (-1))) (n (.f2 155 (c 501 (r 4) (a 6)) (.bool false)) (u 8 .int (i (l z (a 8)) (i (l (a 8) (a 7)) (.and (i (t (a 8) (a 7)) (n (t (a 8) (a 2)) (n (t (a 8) (.f1 32 (r 4))) (.and (i ZET (.and (i Zv6 (n Zhl (n Zhh (n Zho (n Zhn (n Zhj (n ZdE (n (.f2 155 ZoF (.bool true)) .tt)))))))) (i Zp9 (.and (i Zv3 (.and .tt (i ZAx (.and .tt (i ZkX (n Zhl (n Zhh (n Zho (n Zhn (n Zhj (n ZdE (n ZhU .tt)))))))))))) .tt)))) (i (.f1 2 ZET) (.and (i Zv3 (.and (i Zy4 (.and (i Zv6 (n Zhl (n Zhh (n Zho (n Zhn (n Zhj (n ZdE (n Zpg .tt)))))))) (i Zp9 (.and .tt (i ZkX (n Zhl (n Zhh (n Zho (n Zhn (n Zhj (n ZdE (n ZhU .tt)))))))))))) (i ZAx (.and (i Zwz (.and (i Zlo (n Zhl (n Zhh (n Zho (n Zhn (n Zhj (n (e Zs7 (a 8)) (n Zpg .tt)))))))) (i (.f1 2 Zlo) (n Zhl (n Zhh (n Zho (n Zhn (n Zhj (n ZdE (n ZhU .tt)))))))))) (i ZkX (n Zhl (n Zhh (n Zho (n Zhn (n Zhj (n ZdE (n ZhU .tt)))))))))))) (i Ztv (.and (i Zv6 (n Zhl (n Zhh (n Zho (n Zhn (n Zhj (n ZdE (n Zpg .tt)))))))) (i Zp9 (.and .tt (i ZkX (n Zhl (n Zhh (n Zho (n Zhn (n Zhj (n ZdE (n ZhU .tt)))))))))))))))))) (i (l (a 7) (a 8)) (n (e (x 502 (r 4) (a 6) (a 7)) Zvn) (n (.f2 155 (y 501 (r 4) (a 6) (a 7)) Zlo) .tt))))))))))))))
theorem ZKG : Yq Tryz.prog ZMV 12 78 Zvd = ZNu := by kernel_rfl
def ZuN : SX := .f2 40 (a 6) (k 1)
def ZBz : SX := .f3 112 (r 4) (a 8) z
def ZIV : SX := e ZBz (k 1)
def ZIA : SX := e ZBz (k 2)
def ZJm : SX := e ZBz (k 7)
def ZIe : SX := y 503 (r 4) (a 6) (a 7)
def ZDt : SX := .f2 48 (.bool false) ZIe
def ZrB : SX := .f2 40 (a 8) (k 1)
def ZE8 : SX := .f2 41 (a 7) ZrB
def ZLF : VC := i (l z (a 2)) (i (e (a 2) (.f1 32 (r 4))) (i (l (a 2) (a 3)) (i (l (a 2) k0) (i (l (k (-1)) (a 6)) (i (t (a 6) (a 7)) (i (l (a 7) (a 2)) (n (.f1 23 ZuN) (n (t (a 6) ZuN) (n (l ZuN (a 7)) (n (y 504 (r 4) (a 6) ZuN) (u 8 .int (i (t (a 6) (a 8)) (i (l (a 8) (a 7)) (i (y 504 (r 4) (a 6) (a 8)) (.and (i (t (a 8) (a 7)) (n (l z (a 8)) (n (t (a 8) (a 2)) (n (t (a 8) (.f1 32 (r 4))) (.and (i (.f1 2 ZIV) (.and (i (.f1 2 ZIA) (.and (i ZJm (n ZDt .tt)) (i (.f1 2 ZJm) (n (.f1 23 ZrB) (n (l z ZE8) (n (t ZE8 (.f2 41 (a 7) (a 8))) (n (t (a 6) ZrB) (n (l ZrB (a 7)) (n (y 504 (r 4) (a 6) ZrB) .tt))))))))) (i ZIA (n ZDt .tt)))) (i ZIV (n ZDt .tt))))))) (i (l (a 7) (a 8)) (n (.f2 48 (l z (a 6)) ZIe) .tt)))))))))))))))))
theorem ZJI : Yq Tryz.prog ZMU 12 79 ZxQ = ZLF := by kernel_rfl
def ZoC : SX := .f3 112 (r 4) (a 6) z
def ZEQ : SX := e ZoC (k 1)
def Zn2 : SX := .f3 112 (r 4) (a 6) (k 1)
def ZrJ : SX := c 505 (r 4) (a 6)
def ZIn : SX := e ZoC (k 2)
def ZCR : SX := .f1 2 (y 501 (r 4) Zn2 (a 6))
def ZsT : SX := .f2 48 ZCR ZrJ
def ZGt : SX := .f2 48 (.bool false) ZrJ
def ZDj : SX := e ZoC (k 3)
def ZDB : SX := e ZoC (k 4)
def ZwL : SX := e ZoC (k 6)
def ZAU : SX := e ZoC (k 5)
def Zpf : SX := x 502 (r 4) Zn2 (a 6)
def Zy1 : SX := .f2 48 (l z (.us .int 500 (r 4) (k 5) Zn2 (a 6))) ZrJ
def ZKE : VC := i (l z (a 2)) (i (e (a 2) (.f1 32 (r 4))) (i (l (a 2) (a 3)) (i (l (a 2) k0) (i (l z (a 6)) (i (t (a 6) (a 2)) (n (t (a 6) (.f1 32 (r 4))) (u 7 .int (i (l z (a 7)) (n (l (a 6) (a 2)) (.and (i ZEQ (n (.f2 48 (l z (.us .int 500 (r 4) (k 1) Zn2 (a 6))) ZrJ) .tt)) (i (.f1 2 ZEQ) (.and (i ZIn (.and (i (t z Zn2) (n ZsT .tt)) (i (l Zn2 z) (n ZGt .tt)))) (i (.f1 2 ZIn) (.and (i ZDj (.and (i ZDj (n ZsT .tt)) .tt)) (i (.f1 2 ZDj) (.and (i ZDB (.and (i ZDB (n ZsT .tt)) .tt)) (i (.f1 2 ZDB) (.and (i ZwL (n ZsT .tt)) (i (.f1 2 ZwL) (.and (i ZAU (n (l (k (-1)) Zpf) (n (t Zpf (a 6)) (u 8 .bool (i (.f2 48 (q 8) (y 503 (r 4) Zpf (a 6))) (.and (i ZCR (.and (i (.f1 2 (.f1 2 (q 8))) (n Zy1 .tt)) (i (.f1 2 (q 8)) (n (.f2 48 (.bool true) ZrJ) .tt)))) (i (.f1 2 ZCR) (n Zy1 .tt)))))))) (i (.f1 2 ZAU) (n ZGt .tt))))))))))))))))))))))
theorem ZMR : Yq Tryz.prog ZNe 12 59 Zt9 = ZKE := by kernel_rfl
def ZIk : SX := e (.f3 112 (r 4) (a 6) z) (k 5)
def ZH5 : SX := c 507 (r 4) (a 6)
def ZHp : SX := e (.f3 112 (r 4) (a 7) z) (k 5)
def ZrL : SX := .f2 40 (a 7) (k 1)
def ZG8 : SX := .f1 23 ZrL
def ZGI : SX := .f2 41 (a 6) ZrL
def ZHZ : SX := l z ZGI
def ZFJ : SX := t ZGI (.f2 41 (a 6) (a 7))
def ZJn : SX := l z ZrL
def ZFp : SX := l ZrL (a 6)
def Zzi : SX := d 506 (r 4) ZrL
def Zxr : SX := d 506 (r 4) (a 7)
def ZwS : SX := .f2 40 Zxr (k 1)
def ZMX : VC := i (l z (a 2)) (i (e (a 2) (.f1 32 (r 4))) (i (l (a 2) (a 3)) (i (l (a 2) k0) (i (l z (a 6)) (i (t (a 6) (a 2)) (i (c 511 (r 4) (a 2)) (n (t (a 6) (.f1 32 (r 4))) (.and (i (.f1 2 ZIk) (n (.f2 48 (.bool false) ZH5) .tt)) (i ZIk (n (e (v 506 (r 4)) z) (u 7 .int (i (l z (a 7)) (i (l (a 7) (a 6)) (.and (i (t (a 7) (a 6)) (n (t (a 7) (a 2)) (n (t (a 7) (.f1 32 (r 4))) (.and (i ZHp (n ZG8 (n ZHZ (n ZFJ (n ZJn (n ZFp (n (e Zzi (.f3 112 (r 4) (a 7) (k 5))) .tt))))))) (i (.f1 2 ZHp) (n ZG8 (n ZHZ (n ZFJ (n ZJn (n ZFp (n (e Zzi Zxr) .tt))))))))))) (i (l (a 6) (a 7)) (n (.f1 23 ZwS) (n (.f2 48 (.f1 2 (e (.f3 112 (r 4) (a 6) (k 5)) ZwS)) ZH5) .tt)))))))))))))))))
theorem ZNa : Yq Tryz.prog ZNg 12 60 Zy0 = ZMX := by kernel_rfl
def ZC9 : SX := d 509 (r 4) (a 2)
def ZJp : SX := d 508 (r 4) (a 2)
def ZHA : SX := e ZJp (a 6)
def ZrW : SX := .f2 40 (a 6) (k 1)
def ZH7 : SX := .f2 41 (a 2) ZrW
def ZLc : VC := i (l z (a 2)) (i (e (a 2) (.f1 32 (r 4))) (i (l (a 2) (a 3)) (i (l (a 2) k0) (i (c 511 (r 4) (a 2)) (n (e (v 508 (r 4)) (k (-1))) (u 6 .int (i (l z (a 6)) (i (l (a 6) (a 2)) (i (e (d 508 (r 4) (a 6)) (k (-1))) (.and (i (t (a 6) (a 2)) (u 7 .bool (i (.f2 48 (q 7) (c 505 (r 4) (a 6))) (.and (i (q 7) (n (e ZC9 (k 1)) (n ZHA .tt))) (i (.f1 2 (q 7)) (u 8 .bool (i (.f2 48 (q 8) (c 507 (r 4) (a 6))) (.and (i (q 8) (n (e ZC9 (k 2)) (n ZHA .tt))) (i (.f1 2 (q 8)) (n (.f1 23 ZrW) (n (l z ZH7) (n (t ZH7 (.f2 41 (a 2) (a 6))) (n (l z ZrW) (n (l ZrW (a 2)) (n (e (d 508 (r 4) ZrW) (k (-1))) .tt))))))))))))))) (i (l (a 2) (a 6)) (n (e ZC9 z) (n (e ZJp (k (-1))) .tt)))))))))))))
theorem ZNE : Yq Tryz.prog ZLy 12 29 ZuJ = ZLc := by kernel_rfl
def ZBn : SX := e (a 0) (k 1)
def ZmJ : SX := e (a 0) (k 2)
def Zd7 : SX := .f1 2 ZmJ
def ZBC : SX := e (a 0) (k 3)
def Zod : SX := .f1 2 ZBC
def ZB3 : SX := e (a 0) (k 4)
def Zsh : SX := .f1 2 ZB3
def ZjD : SX := t (a 1) z
def ZCB : SX := p 510 (.f2 122 (a 0) (.f2 122 (a 1) (.f2 122 (.f1 35 (b 2)) (.f2 122 (.f1 35 (b 3)) (.f2 122 (.f1 3 (q 4)) (.f2 122 (a 5) (.f1 152 z)))))))
def ZaD : SX := .f2 48 (.bool false) ZCB
def ZdK : SX := l z (a 1)
def ZeS : SX := .f2 150 (b 2) (.byt [])
def Zrg : SX := .f2 150 (b 3) (.byt [])
def ZwU : SX := .f2 48 (q 4) (.bool false)
def ZpK : SX := e (a 5) z
def ZuU : SX := .f2 49 Zrg (.f2 49 ZwU ZpK)
def ZkU : SX := .f2 49 ZeS ZuU
def ZpO : SX := e (a 0) (k 7)
def ZgD : SX := .f1 2 ZpO
def Zir : SX := .f2 48 (l (k 1) (a 1)) ZCB
def Zyi : SX := .f1 2 ZkU
def ZA1 : SX := e (a 0) (k 6)
def Zkm : SX := .f1 2 ZeS
def Zj1 : SX := .f2 150 (b 2) (b 2)
def ZtT : SX := .f2 150 (b 3) (b 3)
def Zt8 : SX := .f2 49 (.f2 48 (q 4) (q 4)) ZpK
def Zxn : SX := .f2 49 Zj1 (.f2 49 ZtT Zt8)
def ZoE : SX := .f2 48 (.bool true) ZCB
def ZxI : SX := .f2 49 Zj1 (.f2 49 Zrg Zt8)
def Zuj : SX := .f2 49 Zj1 (.f2 49 ZtT (.f2 49 (.f2 48 (q 4) (.bool true)) ZpK))
def Zxa : SX := .f2 49 Zj1 ZuU
def Zsx : SX := e (a 0) (k 5)
def Zz9 : SX := .f2 49 ZeS (.f2 49 Zrg ZwU)
def Zzx : SX := .f2 49 (e (a 1) z) ZkU
def ZLU : VC := u 6 .int (i (l z (a 6)) (u 7 .int (i (l z (a 7)) (.and (i ZBn (.and (i ZBn (.and (i Zd7 (.and (i Zod (.and .tt (i Zsh (.and (i ZjD (n ZaD .tt)) (i ZdK (.and (i Zd7 (.and (i ZkU (.and (i ZgD (n Zir .tt)) .tt)) (i Zyi (n ZaD .tt)))) .tt)))))) .tt)) .tt)) .tt)) (i (.f1 2 ZBn) (.and (i ZA1 (.and (i Zd7 (.and (i Zod (.and .tt (i Zsh (.and (i ZjD (n ZaD .tt)) (i ZdK (.and (i Zd7 (.and (i ZkU (.and (i ZgD (n Zir .tt)) .tt)) (i Zyi (n ZaD .tt)))) .tt)))))) .tt)) .tt)) (i (.f1 2 ZA1) (.and (i ZmJ (.and (i (q 4) (.and .tt (i ZmJ (.and (i Zkm (.and (i ZjD (n ZaD .tt)) (i ZdK (.and .tt (i ZmJ (.and (i Zxn (n ZoE .tt)) (i (.f1 2 Zxn) (n ZaD .tt)))))))) (i ZeS (n ZaD .tt)))))) (i (.f1 2 (q 4)) (.and .tt (i ZmJ (.and (i Zkm (.and (i ZjD (n ZaD .tt)) (i ZdK (.and .tt (i ZmJ (.and (i ZxI (n ZoE .tt)) (i (.f1 2 ZxI) (n ZaD .tt)))))))) (i ZeS (n ZaD .tt)))))))) (i Zd7 (.and (i ZBC (.and (i Zd7 (.and .tt (i ZBC (.and (i Zkm (.and (i ZjD (n ZaD .tt)) (i ZdK (.and (i Zd7 (.and (i Zuj (.and (i ZgD (n Zir .tt)) .tt)) (i (.f1 2 Zuj) (n ZaD .tt)))) .tt)))) (i ZeS (n ZaD .tt)))))) .tt)) (i Zod (.and (i ZB3 (.and (i Zd7 (.and (i Zod (.and (i ZB3 (.and (i Zkm (.and (i ZjD (n ZaD .tt)) (i ZdK (.and (i Zd7 (.and (i Zxa (.and (i ZgD (n Zir .tt)) .tt)) (i (.f1 2 Zxa) (n ZaD .tt)))) .tt)))) (i ZeS (n ZaD .tt)))) .tt)) .tt)) .tt)) (i Zsh (.and (i Zsx (.and (i (l (k 1) (a 5)) (.and (i (t k0 (a 5)) (n ZaD .tt)) (i (l (a 5) k0) (.and (i Zd7 (.and (i Zod (.and .tt (i Zsh (.and (i ZjD (n ZaD .tt)) (i ZdK (.and (i Zd7 (.and (i Zz9 (.and (i ZgD (n Zir .tt)) .tt)) (i (.f1 2 Zz9) (n ZaD .tt)))) .tt)))))) .tt)) .tt)))) (i (t (a 5) (k 1)) (n ZaD .tt)))) (i (.f1 2 Zsx) (.and (i ZpO (.and (i Zd7 (.and (i Zod (.and .tt (i Zsh (.and (i ZjD (n ZaD .tt)) (i ZdK (.and (i Zd7 (.and (i Zzx (.and .tt (i ZpO (n ZoE .tt)))) (i (.f1 2 Zzx) (n ZaD .tt)))) .tt)))))) .tt)) .tt)) (i ZgD (n ZaD .tt))))))))))))))))))
theorem ZJU : Yq Tryz.prog ZNh 12 58 Zqb = ZLU := by kernel_rfl
def ZCN : SX := v 523 (r 4)
def Zsm : SX := .f2 40 (a 6) (k 1)
def ZGL : SX := .f2 41 (a 2) Zsm
def ZLf : VC := i (l z (a 2)) (i (e (a 2) (.f1 32 (r 4))) (i (l (a 2) (a 3)) (i (l (a 2) k0) (.and (i (t (k 400) (a 2)) (n (e ZCN (k 2)) .tt)) (i (l (a 2) (k 400)) (n (p 511 (r 4)) (u 6 .int (i (l z (a 6)) (i (l (a 6) (a 2)) (i (c 511 (r 4) (a 6)) (.and (i (t (a 6) (a 2)) (n (t (a 6) (.f1 32 (r 4))) (u 7 .bool (i (.f2 48 (q 7) (p 510 (.f2 122 (.f3 112 (r 4) (a 6) z) (.f2 122 (.f3 112 (r 4) (a 6) (k 1)) (.f2 122 (.f1 35 (.f1 36 (.f3 112 (r 4) (a 6) (k 2)))) (.f2 122 (.f1 35 (.f1 36 (.f3 112 (r 4) (a 6) (k 3)))) (.f2 122 (.f1 3 (.f1 2 (e (.f3 112 (r 4) (a 6) (k 4)) z))) (.f2 122 (.f3 112 (r 4) (a 6) (k 5)) (.f1 152 z))))))))) (.and (i (.f1 2 (q 7)) (n (e ZCN (k 280)) .tt)) (i (.f1 2 (.f1 2 (q 7))) (n (.f1 23 Zsm) (n (l z ZGL) (n (t ZGL (.f2 41 (a 2) (a 6))) (n (l z Zsm) (n (l Zsm (a 2)) (n (c 511 (r 4) Zsm) .tt)))))))))))) (i (l (a 2) (a 6)) (n (e ZCN z) .tt)))))))))))))
theorem ZMH : Yq Tryz.prog ZLq 12 28 Zv5 = ZLf := by kernel_rfl
theorem ZEd (S : Sig GG) (hS : RfSig S) : Zy S Tryz.prog 48 ZpC := by
 refine Ze S (C := ZKk) (fuel := 12) (ZQ trivial ⟨⟨trivial, trivial⟩, trivial⟩ trivial) fun ρ => ?_
 rw [ZLO]
 simp only [ZJ0, ZIO, ZHK, ZFh, Zr2, ZFQ, ZFM, ZJd, ZJc, ZIF, ZIW, ZsV, hS.u500, VC.den, SX.den, Env.upd, ZS, ZD, beq_iff_eq, ZNX, beq_eq_false_iff_ne, ne_eq, ZNW, ZNV, Int.reduceToNat, Nat.reduceEqDiff, reduceIte, sB, sC]
 generalize (ρ 4).tR = X
 generalize (ρ 2).tI = l
 generalize (ρ 8).tI = e
 intro h1 h2 h3 h4 h5 h6
 refine ⟨rfl, fun x hx0 hx1 hx2 => ?_⟩
 obtain ⟨n, rfl⟩ := ZNQ hx0
 obtain ⟨m, rfl⟩ := ZNQ h5
 have e1 : ((n : Int) + 1).toNat = n + 1 := by omega
 simp only [e1, ZN5] at hx2 ⊢
 have hs := Ye X (ρ 6).tI (ρ 7).tI n
 rw [hx2, if_neg (by omega)] at hs
 refine ⟨fun hlt => ⟨by omega, by omega, fun hk => ⟨fun hw => ⟨?_, trivial⟩, fun hw => ⟨by omega, by omega, by omega, by omega, by omega, ?_, trivial⟩⟩, fun hk => ⟨by omega, by omega, by omega, by omega, by omega, ?_, trivial⟩⟩, fun hge => ⟨?_, trivial⟩⟩
 ·rw [if_pos ⟨hk, hw⟩] at hs
  rw [Zfp (n := n + 1) (by rw [hs]; omega) (by omega), hs]
 ·rw [hs, if_neg (fun h => hw h.2)]
 ·rw [hs, if_neg (fun h => hk h.1)]
 ·rw [show m = n by omega]; exact hx2
theorem ZJV (S : Sig GG) (hS : RfSig S) : Zy S Tryz.prog 78 Zvd := by
 refine Ze S (C := ZMV) (fuel := 12) (ZQ trivial ⟨⟨trivial, trivial⟩, trivial⟩ trivial) fun ρ => ?_
 rw [ZKG]
 simp only [ZNu, ZvM, ZET, Zv6, ZnE, Zhl, ZE3, Zhh, Zho, Zhn, Zhj, Zs7, Zvn, ZdE, ZoF, Zp9, Ztv, Zv3, Zy4, ZAx, Zwz, ZkX, Zlo, ZhU, Zpg, hS.u501, hS.u502, VC.den, SX.den, Env.upd, ZS, ZD, beq_iff_eq, ZNX, beq_eq_false_iff_ne, ne_eq, ZNW, ZNV, Int.reduceToNat, Nat.reduceEqDiff, reduceIte, sB, sC]
 generalize (ρ 4).tR = X
 generalize (ρ 2).tI = l
 generalize (ρ 7).tI = e
 intro h1 h2 h3 h4 h5 h6
 refine ⟨rfl, rfl, fun x hx0 hx1 => ?_⟩
 obtain ⟨n, rfl⟩ := ZNQ hx0
 have e1 : ((n : Int) + 1).toNat = n + 1 := by omega
 simp only [e1, ZN5]
 have hs := ZcL X (ρ 6).tI n
 have f1 : xk (xa X n) = (X.getD n []).getD 0 0 := rfl
 have f2 : xw (xa X n) = (X.getD n []).getD 1 0 := rfl
 rw [f1, f2] at hs
 generalize (X.getD n []).getD 0 0 = k at *
 generalize (X.getD n []).getD 1 0 = w at *
 generalize (ρ 6).tI = v at *
 rw [hs]
 refine ⟨fun hlt => ⟨by omega, by omega, ?_⟩, fun hge => ?_⟩
 ·repeat' (first | exact trivial | omega | apply And.intro | intro _)
  all_goals simp_all
  all_goals omega
 ·rw [show e = (n : Int) by omega, ZN5]
  repeat' (first | exact trivial | rfl | apply And.intro)
theorem ZLv (S : Sig GG) (hS : RfSig S) : Zy S Tryz.prog 79 ZxQ := by
 refine Ze S (C := ZMU) (fuel := 12) (ZQ trivial ⟨⟨trivial, trivial⟩, trivial⟩ trivial) fun ρ => ?_
 rw [ZJI]
 simp only [ZLF, ZuN, ZBz, ZIV, ZIA, ZJm, ZIe, ZDt, ZrB, ZE8, hS.u503, hS.u504, VC.den, SX.den, Env.upd, ZS, ZD, beq_iff_eq, ZNX, beq_eq_false_iff_ne, ne_eq, ZNW, ZNV, Int.reduceToNat, Nat.reduceEqDiff, reduceIte, sB, sC]
 generalize (ρ 4).tR = X
 generalize (ρ 2).tI = l
 generalize (ρ 6).tI = f
 generalize (ρ 7).tI = e
 intro h1 h2 h3 h4 h5 h6 h7
 rw [ZgS]
 refine ⟨by omega, by omega, by omega, fun i hi1 hi2 => by omega, fun x hx0 hx1 hx2 => ?_⟩
 obtain ⟨n, rfl⟩ := ZNQ (show 0 <= x by omega)
 simp only [ZN5]
 have no : ∀ k, (X.getD n []).getD 0 0 = k -> (n : Int) < e -> (k = 1 \/ k = 2 \/ k = 7) -> false = (decide (0 <= f) && Zn (ZJs X f e)) := by
  intro k hk hn hq
  rw [Zr, Bool.and_false]
  intro hp
  have := hp n hx0 hn
  have hk : xk (xa X n) = k := hk
  rw [hk] at this
  omega
 refine ⟨fun hlt => ⟨by omega, by omega, by omega, fun q1 => ⟨fun q2 => ⟨fun q7 => ⟨no _ q7 hlt (by omega), trivial⟩, fun q7 => ⟨by omega, by omega, by omega, by omega, by omega, fun i hi1 hi2 => ?_, trivial⟩⟩, fun q2 => ⟨no _ q2 hlt (by omega), trivial⟩⟩, fun q1 => ⟨no _ q1 hlt (by omega), trivial⟩⟩, fun hge => ⟨?_, trivial⟩⟩
 ·rcases ZNS i n with h | h
  ·exact hx2 i hi1 (by omega)
  ·rw [show i = n by omega]; exact ⟨q1, q2, q7⟩
 ·have hp : ZJs X f e := fun i hi1 hi2 => hx2 i hi1 (by omega)
  rw [Zu hp, Bool.and_true]; rfl
theorem ZLs (S : Sig GG) (hS : RfSig S) : Zy S Tryz.prog 59 Zt9 := by
 refine Ze S (C := ZNe) (fuel := 12) (ZQ ⟨Zg (by decide) (ZJV S hS), Zg (by decide) (ZEd S hS), Zg (by decide) (ZLv S hS), trivial⟩ trivial trivial) fun ρ => ?_
 rw [ZMR]
 simp only [ZKE, ZoC, ZEQ, Zn2, ZrJ, ZIn, ZCR, ZsT, ZGt, ZDj, ZDB, ZwL, ZAU, Zpf, Zy1, hS.u500, hS.u501, hS.u502, hS.u503, hS.u505, VC.den, SX.den, Env.upd, ZS, ZD, beq_iff_eq, ZNX, beq_eq_false_iff_ne, ne_eq, ZNW, ZNV, Int.reduceToNat, Nat.reduceEqDiff, reduceIte, sB, sC]
 generalize (ρ 4).tR = X
 generalize (ρ 2).tI = l
 generalize (ρ 6).tI = e
 intro h1 h2 h3 h4 h5 h6
 obtain ⟨n, rfl⟩ := ZNQ h5
 simp only [ZN5]
 refine ⟨by omega, fun x hx => ⟨by omega, ?_⟩⟩
 have hl := ZhM X (xw (xa X n)) n
 have hs := Zgd X n
 unfold xk xw xa at hs hl
 generalize (X.getD n []).getD 0 0 = k at *
 generalize (X.getD n []).getD 1 0 = w at *
 generalize Zl8 X n = o at *
 generalize Yd X 1 w n = f1 at *
 generalize Yd X 5 w n = f5 at *
 generalize Zbo X w n = q at *
 obtain ⟨q1, q2⟩ := q
 simp only at hs hl ⊢
 generalize Zhb X q2 n = t at *
 unfold leB
 rw [hs]
 clear hs
 repeat' (first | exact trivial | apply And.intro | intro _)
 all_goals simp_all
 all_goals omega
theorem ZL0 (S : Sig GG) (hS : RfSig S) : Zy S Tryz.prog 60 Zy0 := by
 refine Ze S (C := ZNg) (fuel := 12) (ZQ trivial ⟨⟨trivial, trivial⟩, trivial⟩ trivial) fun ρ => ?_
 rw [ZNa]
 simp only [ZMX, ZIk, ZH5, ZHp, ZrL, ZG8, ZGI, ZHZ, ZFJ, ZJn, ZFp, Zzi, Zxr, ZwS, hS.u506, hS.u507, hS.u511, VC.den, SX.den, Env.upd, ZS, ZD, beq_iff_eq, ZNX, beq_eq_false_iff_ne, ne_eq, ZNW, ZNV, Int.reduceToNat, Nat.reduceEqDiff, reduceIte, sB, sC]
 generalize (ρ 4).tR = X
 generalize (ρ 2).tI = l
 generalize (ρ 6).tI = e
 intro h1 h2 h3 h4 h5 h6 hc
 obtain ⟨m, rfl⟩ := ZNQ h5
 have hc := (Zl (p := ∀ i < l.toNat, ZbI (xa X i) = true)).mp hc
 refine ⟨by omega, fun hk => ⟨?_, trivial⟩, fun hk => ⟨rfl, fun x hx0 hx1 => ?_⟩⟩
 ·unfold Zmd
  rw [ZN5, decide_eq_false (show ¬ xk (xa X m) = 5 from hk)]; rfl
 ·obtain ⟨n, rfl⟩ := ZNQ hx0
  have e1 : ((n : Int) + 1).toNat = n + 1 := by omega
  have hb := ZEc (x := X) (n := n) fun i hi => hc i (by omega)
  simp only [e1, ZN5]
  refine ⟨fun hlt => ⟨by omega, by omega, fun q => ⟨by omega, by omega, by omega, by omega, by omega, ?_, trivial⟩, fun q => ⟨by omega, by omega, by omega, by omega, by omega, ?_, trivial⟩⟩, fun hge => ⟨by omega, ?_, trivial⟩⟩
  ·exact if_pos q
  ·exact if_neg q
  ·rw [show n = m by omega]
   unfold Zmd
   rw [decide_eq_true (show xk (xa X m) = 5 from hk), Bool.true_and]; rfl
theorem ZMZ (S : Sig GG) (hS : RfSig S) : Zy S Tryz.prog 29 ZuJ := by
 refine Ze S (C := ZLy) (fuel := 12) (ZQ ⟨Zg (by decide) (ZLs S hS), Zg (by decide) (ZL0 S hS), trivial⟩ ⟨⟨trivial, trivial⟩, trivial⟩ trivial) fun ρ => ?_
 rw [ZNE]
 simp only [ZLc, ZC9, ZJp, ZHA, ZrW, ZH7, hS.u505, hS.u507, hS.u508, hS.u509, hS.u511, VC.den, SX.den, Env.upd, ZS, ZD, beq_iff_eq, ZNX, beq_eq_false_iff_ne, ne_eq, ZNW, ZNV, Int.reduceToNat, Nat.reduceEqDiff, reduceIte, sB, sC]
 generalize (ρ 4).tR = X
 generalize (ρ 2).tI = l
 intro h1 h2 h3 h4 hc
 refine ⟨rfl, fun x hx0 hx1 hx2 => ?_⟩
 obtain ⟨n, rfl⟩ := ZNQ hx0
 have e1 : ((n : Int) + 1).toNat = n + 1 := by omega
 simp only [e1, ZN5] at hx2 ⊢
 have hs := ZbZ X n
 rw [if_neg (by rw [hx2]; omega)] at hs
 refine ⟨fun hlt o ho => ⟨fun q => ?_, fun q w hw => ⟨fun r => ?_, fun r => ⟨by omega, by omega, by omega, by omega, by omega, ?_, trivial⟩⟩⟩, fun hge => ?_⟩
 ·rw [<- ho, q, if_pos rfl] at hs
  have := ZiT (x := X) (n := n + 1) (by rw [hs]; show (0 : Int) <= n; omega) (m := l.toNat) (by omega)
  rw [this, hs]; exact ⟨rfl, rfl, trivial⟩
 ·rw [<- ho, q, if_neg (by simp), <- hw, r, if_pos rfl] at hs
  have := ZiT (x := X) (n := n + 1) (by rw [hs]; show (0 : Int) <= n; omega) (m := l.toNat) (by omega)
  rw [this, hs]; exact ⟨rfl, rfl, trivial⟩
 ·rw [<- ho, q, if_neg (by simp), <- hw, r, if_neg (by simp)] at hs
  rw [hs]
 ·have hz := ZNb (x := X) (n := n) (by rw [hx2]; omega)
  rw [show l.toNat = n by omega, hz]; exact ⟨rfl, rfl, trivial⟩
theorem ZLr (S : Sig GG) (hS : RfSig S) : Zy S Tryz.prog 58 Zqb := by
 refine Ze S (C := ZNh) (fuel := 12) (ZQ trivial trivial trivial) fun ρ => ?_
 rw [ZJU]
 simp only [ZLU, ZBn, ZmJ, Zd7, ZBC, Zod, ZB3, Zsh, ZjD, ZCB, ZaD, ZdK, ZeS, Zrg, ZwU, ZpK, ZuU, ZkU, ZpO, ZgD, Zir, Zyi, ZA1, Zkm, Zj1, ZtT, Zt8, Zxn, ZoE, ZxI, Zuj, Zxa, Zsx, Zz9, Zzx, hS.u510, VC.den, SX.den, Env.upd, ZS, ZD, beq_iff_eq, ZNX, beq_eq_false_iff_ne, ne_eq, ZNW, ZNV, Int.reduceToNat, Nat.reduceEqDiff, reduceIte, sB, sC]
 generalize (ρ 0).tI = k
 generalize (ρ 1).tI = w
 generalize (ρ 2).tB = a
 generalize (ρ 3).tB = b
 generalize (ρ 4).toBool = c
 generalize (ρ 5).tI = d
 unfold ZbI xk xw ZV ZaB ZbW xt leB
 simp only [List.getD_cons_zero, List.getD_cons_succ, ZN5, Zo, Zei]
 intro _ _ _ _
 repeat' (first | exact trivial | apply And.intro | intro _)
 all_goals (try simp_all)
 all_goals (try omega)
 all_goals (first | (cases c <;> simp_all <;> omega) | (cases a <;> simp_all <;> omega))
theorem chk_ok (S : Sig GG) (hS : RfSig S) : Zy S Tryz.prog 28 Zv5 := by
 refine Ze S (C := ZLq) (fuel := 12) (ZQ ⟨Zg (by decide) (ZLr S hS), trivial⟩ ⟨⟨trivial, trivial⟩, trivial⟩ trivial) fun ρ => ?_
 rw [ZMH]
 simp only [ZLf, ZCN, Zsm, ZGL, hS.u510, hS.u511, hS.u523, VC.den, SX.den, Env.upd, ZS, ZD, beq_iff_eq, ZNX, beq_eq_false_iff_ne, ne_eq, ZNW, ZNV, Int.reduceToNat, Nat.reduceEqDiff, reduceIte, sB, sC]
 generalize (ρ 4).tR = X
 generalize (ρ 2).tI = l
 intro h1 h2 h3 h4
 refine ⟨fun h => ⟨?_, trivial⟩, fun hl => ⟨Zu fun i hi => absurd hi (Nat.not_lt_zero _), fun x hx0 hx1 hx2 => ?_⟩⟩
 ·unfold Zb5; rw [if_pos (by omega)]
 obtain ⟨n, rfl⟩ := ZNQ hx0
 have e1 : ((n : Int) + 1).toNat = n + 1 := by omega
 simp only [e1, ZN5] at hx2 ⊢
 have hx2 := (Zl (p := ∀ i < n, ZbI (xa X i) = true)).mp hx2
 rw [may_nr']
 refine ⟨fun hlt => ⟨by omega, fun y hy => ⟨fun q => ⟨?_, trivial⟩, fun q => ⟨by omega, by omega, by omega, by omega, by omega, Zu fun i hi => ?_, trivial⟩⟩⟩, fun hge => ⟨?_, trivial⟩⟩
 ·unfold Zb5
  have hf : Zi8 X X.length = false := Zr fun h => by
   have := h n (by omega)
   have hy : y = ZbI (xa X n) := hy
   rw [<- hy, q] at this; cases this
  rw [if_neg (by omega), hf]; rfl
 ·rcases ZNS i n with h | h
  ·exact hx2 i h
  ·rw [show i = n by omega]
   have hy : y = ZbI (xa X n) := hy
   rw [<- hy, q]
 ·unfold Zb5
  have hf : Zi8 X X.length = true := Zu fun i hi => hx2 i (by omega)
  rw [if_neg (by omega), hf]; rfl
def lasW : SX := .us .int 512 (rA 4) (ai 6) (bA 7) (ai 8)
def Zq4 : Ctr := ⟨hA ++ [.int, .bytes, .int], [.one (hS 0), .one (.int .i64 (ai 6)), .one (.str (bA 7)), .one (.int .i64 (ai 8))], [hC 0 0], hQ 0 ++ [eLe z0 (ai 8), eLe (ai 8) (ai 2)], [.int, .int, .bytes, .bytes, .bool, .int, .bool],
 .tup [(true, [.int .i64 (ai 9), .int .i64 (ai 10), .str (bA 11), .str (bA 12), .bool (qA 13), .int .i64 (ai 14)]), (false, [.bool (qA 15)])], [hC 0 0],
 [.f2 48 (qA 15) (eLe z0 lasW), .f2 45 (ai 9) (usI 525 (rA 4) lasW z0), eqS (bA 12) (usY 524 (rA 4) lasW z0)]⟩
def lasI : Inv := ⟨[.int, .int, .int, .bytes, .bytes, .bool, .int, .int], [(10, .one (.int .i64 (di 0))), (8, .one (.ptr (di 1) 0))], [.cel (di 1) 0 [.int .i64 (di 2), .int .i64 (di 7), .str (bA 1000003), .str (bA 1000004), .bool (qA 1000005), .int .i64 (di 6)]],
 [eLe (.int (-1)) (di 0), eLt (di 0) (ai 8), .f2 45 lasW (.us .int 512 (rA 4) (ai 6) (bA 7) (SX.mk2 40 (di 0) (.int 1)))], .f2 40 (di 0) (.int 1)⟩
def ZMi : Cx := { specs := [], anns := [(61, [(2, .inv lasI)])] }
def kS (b : Nat) : SC := .slice (ai b) (ai (b + 1)) z0 z0 (ai (b + 2)) (ai (b + 3)) 1
def kQ (b : Nat) : List SX := [eLe z0 (ai (b + 2)), .f2 45 (ai (b + 2)) (Z1 (iA (b + 4))), eLe (ai (b + 2)) (ai (b + 3)), eLe (ai (b + 2)) (.int 1099511627776)]
def kA : List Srt := [.int, .int, .int, .int, .ints, .int]
def ZAS : Ctr := ⟨hA ++ kA ++ [.bytes], [.one (hS 0), .one (kS 6), .one (.str (bA 12))], [hC 0 0, rdI 1 6], hQ 0 ++ kQ 6, [],
 .tup [(false, [.str (.us .bytes 513 (rA 4) (iA 10) (bA 12) (ai 8))]), (false, [.bool (.us .bool 514 (rA 4) (iA 10) (bA 12) (ai 8))])], [hC 0 0, rdI 1 6], []⟩
def leaI : Inv := ⟨[.int], [(8, .one (.int .i64 (di 0)))], [], [eLe (.int (-1)) (di 0), eLt (di 0) (ai 8), eqS (.us .bytes 513 (rA 4) (iA 10) (bA 12) (ai 8)) (.us .bytes 513 (rA 4) (iA 10) (bA 12) (SX.mk2 40 (di 0) (.int 1))),
 .f2 48 (.us .bool 514 (rA 4) (iA 10) (bA 12) (ai 8)) (.us .bool 514 (rA 4) (iA 10) (bA 12) (SX.mk2 40 (di 0) (.int 1)))], .f2 40 (di 0) (.int 1)⟩
def ZJG : Cx := { specs := [(61, [Zq4])], anns := [(32, [(2, .inv leaI)])] }
def ZtP : Ctr := ⟨hA ++ [.int], [.one (hS 0), .one (.int .i64 (ai 6))], [hC 0 0], hQ 0 ++ [eLe z0 (ai 6), eLe (ai 6) (ai 2)], [.int, .int], .one (sl1 (ai 7) (Z1 (usN 515 (rA 4) (ai 6) z0)) (ai 8)), [hC 0 0, iAr (ai 7) (usN 515 (rA 4) (ai 6) z0) (ai 8)],
 [eLe (Z1 (usN 515 (rA 4) (ai 6) z0)) (ai 8), .f2 50 (eLe z0 (ai 7)) (.f2 45 (Z1 (usN 515 (rA 4) (ai 6) z0)) z0)]⟩
def kepW : SX := usN 515 (rA 4) (di 0) z0
def kepI : Inv := ⟨[.int, .int, .int], [(6, .one (.int .i64 (di 0))), (5, .one (sl1 (di 1) (Z1 kepW) (di 2)))], [iAr (di 1) kepW (di 2)], [eLe z0 (di 0), eLe (di 0) (ai 6), eLe (Z1 kepW) (di 2), .f2 50 (eLe z0 (di 1)) (.f2 45 (Z1 kepW) z0)], .f2 41 (ai 6) (di 0)⟩
def ZKT : Cx := { specs := [], anns := [(30, [(0, .ghost ZoA []), (3, .inv kepI)])] }
def Zs6 : Ctr := ⟨hA ++ [.int] ++ kA, [.one (hS 0), .one (.int .i64 (ai 6)), .one (kS 7)], [hC 0 0, rdI 1 7], hQ 0 ++ [eLe z0 (ai 6), eLt (ai 6) (ai 2)] ++ kQ 7, [.bool, .int], .tup [(false, [.bool (qA 13)]), (false, [.int .i64 (ai 14)])], [hC 0 0, rdI 1 7],
 [.f2 48 (qA 13) (usB 516 (rA 4) (ai 6) (iA 11)), .f2 45 (ai 14) (usI 517 (rA 4) (ai 6) (iA 11))]⟩
def ZMI : Cx := { specs := [(61, [Zq4]), (32, [ZAS])], anns := [] }
def ZCA : SX := .f2 40 (a 8) (k (-1))
def ZkO : SX := .us .int 512 (r 4) (a 6) (b 7) (a 8)
def ZGV : SX := .f2 40 (a 10) (k 1)
def ZBF : SX := .f3 112 (r 4) (a 10) z
def ZIU : SX := e ZBF (k 3)
def ZGE : SX := e ZBF (k 4)
def ZB4 : SX := e (.f3 112 (r 4) (a 10) (k 1)) (a 6)
def ZBK : SX := .f2 150 (.f1 36 (.f3 112 (r 4) (a 10) (k 2))) (b 7)
def ZGD : SX := l z ZkO
def ZI3 : SX := .f2 48 (.bool true) ZGD
def ZzX : SX := d 525 (r 4) ZkO
def Zwo : SX := e ZBF ZzX
def Zyc : SX := wB 524 (r 4) ZkO
def Zxx : SX := .f2 155 (.f1 36 (.f3 112 (r 4) (a 10) (k 3))) Zyc
def ZwF : SX := .f1 2 ZBK
def Zqe : SX := .f2 40 (a 10) (k (-1))
def Zin : SX := .f1 23 Zqe
def Zh1 : SX := t (a 10) ZGV
def ZhK : SX := l (k (-1)) Zqe
def Zig : SX := t Zqe (a 8)
def Zip : SX := e ZkO (.us .int 512 (r 4) (a 6) (b 7) (a 10))
def ZuL : SX := .f1 2 ZB4
def ZLl : VC := i (l z (a 2)) (i (e (a 2) (.f1 32 (r 4))) (i (l (a 2) (a 3)) (i (l (a 2) k0) (i (l z (a 8)) (i (l (a 8) (a 2)) (u 9 .int (i (l z (a 9)) (n (.f1 23 ZCA) (n (l (k (-1)) ZCA) (n (t ZCA (a 8)) (n (e ZkO ZkO) (u 10 .int (u 11 .int (u 12 .int (u 13 .bytes (u 14 .bytes (u 15 .bool (u 16 .int (u 17 .int (i (l (k (-1)) (a 10)) (i (t (a 10) (a 8)) (i (e ZkO (.us .int 512 (r 4) (a 6) (b 7) ZGV)) (.and (i (l z (a 10)) (n (t (a 10) (a 2)) (n (t (a 10) (.f1 32 (r 4))) (.and (i (.f1 2 ZIU) (.and (i ZGE (.and (i ZB4 (.and (i ZBK (n ZI3 (n Zwo (n Zxx .tt)))) (i ZwF (n Zin (n Zh1 (n ZhK (n Zig (n Zip .tt)))))))) (i ZuL (n Zin (n Zh1 (n ZhK (n Zig (n Zip .tt)))))))) (i (.f1 2 ZGE) (n Zin (n Zh1 (n ZhK (n Zig (n Zip .tt)))))))) (i ZIU (.and (i ZB4 (.and (i ZBK (n ZI3 (n Zwo (n Zxx .tt)))) (i ZwF (n Zin (n Zh1 (n ZhK (n Zig (n Zip .tt)))))))) (i ZuL (n Zin (n Zh1 (n ZhK (n Zig (n Zip .tt)))))))))))) (i (t (a 10) z) (n (.f2 48 (.bool false) ZGD) (n (e z ZzX) (n (.f2 155 (.byt []) Zyc) .tt)))))))))))))))))))))))))))
theorem ZLL : Yq Tryz.prog ZMi 12 61 Zq4 = ZLl := by kernel_rfl
def ZBP : SX := .f2 40 (a 8) (k (-1))
def Zn7 : SX := .us .bytes 513 (r 4) (s 10) (b 12) (a 8)
def Zn8 : SX := .us .bool 514 (r 4) (s 10) (b 12) (a 8)
def ZBI : SX := .f2 40 (a 13) (k 1)
def ZCk : SX := .us .int 512 (r 4) (.f2 110 (s 10) (a 13)) (b 12) (a 2)
def ZB9 : SX := .f2 40 (a 13) (k (-1))
def ZMm : VC := i (l z (a 2)) (i (e (a 2) (.f1 32 (r 4))) (i (l (a 2) (a 3)) (i (l (a 2) k0) (i (l z (a 8)) (i (e (a 8) (.f1 30 (s 10))) (i (l (a 8) (a 9)) (i (l (a 8) k0) (n (.f1 23 ZBP) (n (l (k (-1)) ZBP) (n (t ZBP (a 8)) (n (.f2 155 Zn7 Zn7) (n (.f2 48 Zn8 Zn8) (u 13 .int (i (l (k (-1)) (a 13)) (i (t (a 13) (a 8)) (i (.f2 155 Zn7 (.us .bytes 513 (r 4) (s 10) (b 12) ZBI)) (i (.f2 48 Zn8 (.us .bool 514 (r 4) (s 10) (b 12) ZBI)) (.and (i (l z (a 13)) (n (t (a 13) (.f1 30 (s 10))) (n (l (a 2) (a 2)) (u 14 .int (u 15 .int (u 16 .bytes (u 17 .bytes (u 18 .bool (u 19 .int (u 20 .bool (i (.f2 48 (q 20) (l z ZCk)) (i (e (a 14) (d 525 (r 4) ZCk)) (i (.f2 155 (b 17) (wB 524 (r 4) ZCk)) (u 21 .int (i (l z (a 21)) (.and (i (q 20) (n (.f2 155 Zn8 (e (a 14) (k 3))) (n (.f2 155 Zn7 (b 17)) .tt))) (i (.f1 2 (q 20)) (n (.f1 23 ZB9) (n (t (a 13) ZBI) (n (l (k (-1)) ZB9) (n (t ZB9 (a 8)) (n (.f2 155 Zn7 (.us .bytes 513 (r 4) (s 10) (b 12) (a 13))) (n (.f2 48 Zn8 (.us .bool 514 (r 4) (s 10) (b 12) (a 13))) .tt))))))))))))))))))))))) (i (t (a 13) z) (n (.f2 155 Zn8 (.bool false)) (n (.f2 155 Zn7 (.byt [])) .tt)))))))))))))))))))))
theorem ZKo : Yq Tryz.prog ZJG 12 32 ZAS = ZMm := by kernel_rfl
def ZIj : SX := o 515 (r 4)
def ZFk : SX := .f1 30 ZIj
def ZGb : SX := e ZFk z
def ZAJ : SX := wN 515 (r 4) (a 7)
def Zkr : SX := .f1 30 ZAJ
def ZCE : SX := l z (a 8)
def ZEN : SX := e (.f3 112 (r 4) (a 7) z) (k 5)
def ZAf : SX := .f2 40 Zkr (k 1)
def ZIR : SX := l z (a 11)
def Zr0 : SX := .f2 40 (a 7) (k 1)
def ZsP : SX := .f1 23 Zr0
def ZwK : SX := .f2 41 (a 6) Zr0
def Zws : SX := l z ZwK
def Zxe : SX := t ZwK (.f2 41 (a 6) (a 7))
def ZtX : SX := l z Zr0
def ZsJ : SX := l Zr0 (a 6)
def ZpS : SX := wN 515 (r 4) Zr0
def Zh2 : SX := .f1 30 ZpS
def Zt6 : SX := e Zh2 z
def Zv2 : SX := wN 515 (r 4) (a 6)
def ZpB : SX := .f1 30 Zv2
def ZLn : VC := i (l z (a 2)) (i (e (a 2) (.f1 32 (r 4))) (i (l (a 2) (a 3)) (i (l (a 2) k0) (i (l z (a 6)) (i (l (a 6) (a 2)) (n (l ZFk z) (n (.f2 50 (.bool false) ZGb) (n (.f2 155 ZIj (.f1 152 z)) (n ZGb (u 7 .int (u 8 .int (u 9 .int (i (l z (a 7)) (i (l (a 7) (a 6)) (i (l Zkr (a 9)) (i (.f2 50 ZCE (e Zkr z)) (.and (i (t (a 7) (a 6)) (n (t (a 7) (a 2)) (n (t (a 7) (.f1 32 (r 4))) (.and (i ZEN (u 10 .int (i (l z (a 10)) (n (l Zkr Zkr) (n (l (.f2 42 ZAf (k 8)) k1) (u 11 .int (u 12 .int (i (l ZAf (a 12)) (i (.f2 50 ZIR (e ZAf z)) (n ZsP (n Zws (n Zxe (n ZtX (n ZsJ (n (l Zh2 (a 12)) (n (.f2 50 ZIR Zt6) (n (.f2 155 ZpS (.f2 119 ZAJ (.f2 122 (.f3 112 (r 4) (a 7) (k 1)) (.f1 152 z)))) (n (e Zh2 ZAf) .tt)))))))))))))))))) (i (.f1 2 ZEN) (n ZsP (n Zws (n Zxe (n ZtX (n ZsJ (n (l Zh2 (a 9)) (n (.f2 50 ZCE Zt6) (n (.f2 155 ZpS ZAJ) (n (e Zh2 Zkr) .tt)))))))))))))) (i (l (a 6) (a 7)) (n (l ZpB (a 9)) (n (.f2 50 ZCE (e ZpB z)) (n (.f2 155 Zv2 ZAJ) (n (e ZpB Zkr) .tt))))))))))))))))))))))
theorem ZMh : Yq Tryz.prog ZKT 12 30 ZtP = ZLn := by kernel_rfl
def ZBN : SX := .f3 112 (r 4) (a 6) (k 1)
def ZB7 : SX := .f1 36 (.f3 112 (r 4) (a 6) (k 2))
def ZDF : SX := .us .int 512 (r 4) ZBN ZB7 (a 6)
def ZIh : SX := .f1 2 (e (.f3 112 (r 4) (a 6) (k 4)) z)
def ZFV : SX := .f2 48 ZIh (e (a 14) (k 3))
def ZGr : SX := .f1 36 (.f3 112 (r 4) (a 6) (k 3))
def ZDh : SX := y 516 (r 4) (a 6) (s 11)
def ZGx : SX := x 517 (r 4) (a 6) (s 11)
def ZFO : SX := e (k 3) ZGx
def ZDD : SX := .f2 48 (.bool false) ZDh
def Zpu : SX := .f2 48 ZIh (.us .bool 514 (r 4) (s 11) ZB7 (a 9))
def ZxN : SX := .f2 48 (.f2 150 ZGr (.us .bytes 513 (r 4) (s 11) ZB7 (a 9))) ZDh
def ZkL : SX := e (k 4) ZGx
def Zx5 : SX := .f1 2 Zpu
def ZMe : VC := i (l z (a 2)) (i (e (a 2) (.f1 32 (r 4))) (i (l (a 2) (a 3)) (i (l (a 2) k0) (i (l z (a 6)) (i (t (a 6) (a 2)) (i (l z (a 9)) (i (e (a 9) (.f1 30 (s 11))) (i (l (a 9) (a 10)) (i (l (a 9) k0) (n (t (a 6) (.f1 32 (r 4))) (u 13 .int (i (l z (a 13)) (n (l (a 6) (a 2)) (u 14 .int (u 15 .int (u 16 .bytes (u 17 .bytes (u 18 .bool (u 19 .int (u 20 .bool (i (.f2 48 (q 20) (l z ZDF)) (i (e (a 14) (d 525 (r 4) ZDF)) (i (.f2 155 (b 17) (wB 524 (r 4) ZDF)) (u 21 .int (i (l z (a 21)) (.and (i (q 20) (.and (i (t z ZBN) (.and (i ZFV (n (.f2 48 (.f2 150 ZGr (b 17)) ZDh) (n ZFO .tt))) (i (.f1 2 ZFV) (n ZDD (n ZFO .tt))))) (i (l ZBN z) (.and (i Zpu (n ZxN (n ZkL .tt))) (i Zx5 (n ZDD (n ZkL .tt))))))) (i (.f1 2 (q 20)) (.and (i Zpu (n ZxN (n ZkL .tt))) (i Zx5 (n ZDD (n ZkL .tt)))))))))))))))))))))))))))))))
theorem ZKV : Yq Tryz.prog ZMI 12 49 Zs6 = ZMe := by kernel_rfl
theorem ZD2 (S : Sig GG) (hS : RfSig S) : Zy S Tryz.prog 61 Zq4 := by
 refine Ze S (C := ZMi) (fuel := 12) (ZQ trivial ⟨⟨trivial, trivial⟩, trivial⟩ trivial) fun ρ => ?_
 rw [ZLL]
 simp only [ZLl, ZCA, ZkO, ZGV, ZBF, ZIU, ZGE, ZB4, ZBK, ZGD, ZI3, ZzX, Zwo, Zyc, Zxx, ZwF, Zqe, Zin, Zh1, ZhK, Zig, Zip, ZuL, hS.u512, hS.u524, hS.u525, VC.den, SX.den, Env.upd, ZS, ZBM, Zkx, Zkk, beq_iff_eq, ZNX, beq_eq_false_iff_ne, ne_eq, ZNW, ZNV, Int.reduceToNat, Nat.reduceEqDiff, reduceIte, sB]
 generalize (ρ 4).tR = X
 generalize (ρ 2).tI = l
 generalize (ρ 8).tI = e
 generalize (ρ 7).tB = key
 generalize (ρ 6).tI = v
 intro h1 h2 h3 h4 h5 h6 _ _
 refine ⟨by omega, by omega, by omega, trivial, fun i a1 a2 a3 a4 a5 a6 a7 hi1 hi2 hi3 => ⟨fun hi => ?_, fun hi => ?_⟩⟩
 ·obtain ⟨n, rfl⟩ := ZNQ hi
  have e1 : ((n : Int) + 1).toNat = n + 1 := by omega
  simp only [e1, ZN5] at hi3 ⊢
  rw [hi3, ZbA]
  unfold ZKO ZLw xk xw ZV ZaB xa
  generalize YA X v key n = p at *
  generalize hk : (X.getD n []).getD 0 0 = k at *
  generalize (X.getD n []).getD 1 0 = w at *
  generalize YW ((X.getD n []).getD 2 0).toNat = q at *
  generalize hv : YW ((X.getD n []).getD 3 0).toNat = z at *
  clear hi3
  refine ⟨by omega, by omega, ?_⟩
  have found : (k = 3 \/ k = 4) /\ w = v /\ q = key -> true = leB 0 (if (k = 3 \/ k = 4) /\ w = v /\ q = key then (n : Int) else p) ∧
    (k = if 0 <= (if (k = 3 \/ k = 4) /\ w = v /\ q = key then (n : Int) else p) then (X.getD (if (k = 3 \/ k = 4) /\ w = v /\ q = key then (n : Int) else p).toNat []).getD 0 0 else 0) ∧
    (z = if 0 <= (if (k = 3 \/ k = 4) /\ w = v /\ q = key then (n : Int) else p) then YW ((X.getD (if (k = 3 \/ k = 4) /\ w = v /\ q = key then (n : Int) else p).toNat []).getD 3 0).toNat else []) /\ True := by
   intro hc
   rw [if_pos hc, if_pos (by omega), if_pos (by omega), ZN5, hk, hv]
   exact ⟨by unfold leB; simp, rfl, rfl, trivial⟩
  have nf : ¬ ((k = 3 \/ k = 4) /\ w = v /\ q = key) -> (if (k = 3 \/ k = 4) /\ w = v /\ q = key then (n : Int) else p) = p := fun hc => if_neg hc
  repeat' (first | exact trivial | apply And.intro | intro _)
  all_goals first
   | omega
   | exact (found ⟨by omega, by assumption, by assumption⟩).1
   | exact (found ⟨by omega, by assumption, by assumption⟩).2.1
   | exact (found ⟨by omega, by assumption, by assumption⟩).2.2.1
   | exact nf (fun ⟨c1, c2, c3⟩ => by first | contradiction | omega)
 ·have : (i + 1).toNat = 0 := by omega
  rw [hi3, this]
  exact ⟨rfl, rfl, rfl, trivial⟩
theorem ZLW (S : Sig GG) (hS : RfSig S) : Zy S Tryz.prog 32 ZAS := by
 refine Ze S (C := ZJG) (fuel := 12) (ZQ ⟨Zg (by decide) (ZD2 S hS), trivial⟩ ⟨⟨trivial, trivial⟩, trivial⟩ trivial) fun ρ => ?_
 rw [ZKo]
 simp only [ZMm, ZBP, Zn7, Zn8, ZBI, ZCk, ZB9, hS.u512, hS.u513, hS.u514, hS.u524, hS.u525, VC.den, SX.den, Env.upd, ZS, ZBM, Zkx, Zkk, beq_iff_eq, ZNX, beq_eq_false_iff_ne, ne_eq, ZNW, ZNV, Int.reduceToNat, Nat.reduceEqDiff, reduceIte, sB]
 generalize (ρ 4).tR = X
 generalize (ρ 10).tN = K
 generalize (ρ 2).tI = l
 generalize (ρ 8).tI = m
 generalize (ρ 12).tB = key
 intro h1 h2 h3 h4 h5 h6 h7 h8
 refine ⟨by omega, by omega, by omega, trivial, trivial, fun i hi1 hi2 hi3 hi4 => ⟨fun hi => ⟨by omega, by omega, fun a1 a2 a3 a4 a5 a6 a7 ha7 ha1 ha4 _ _ => ?_⟩, fun hi => ?_⟩⟩
 ·obtain ⟨n, rfl⟩ := ZNQ hi
  have e1 : ((n : Int) + 1).toNat = n + 1 := by omega
  simp only [e1, ZN5] at hi3 hi4 ha7 ha1 ha4 ⊢
  rw [hi3, hi4, ZcV]
  rw [show l.toNat = X.length by omega] at ha7 ha1 ha4
  unfold ZKO at ha4
  unfold ZLw at ha1
  generalize YA X (K.getD n 0) key X.length = j at *
  refine ⟨fun q => ?_, fun q => ?_⟩
  ·have hj : 0 <= j := Za.1 (ha7 ▸ q)
   rw [if_pos hj] at ha1 ha4 ⊢
   rw [ha1, ha4]
   exact ⟨by simp only; rw [Bool.eq_iff_iff]; simp, rfl, trivial⟩
  ·have hj : ¬ 0 <= j := fun h => by rw [q, Za.2 h] at ha7; cases ha7
   rw [if_neg hj]
   exact ⟨by omega, by omega, by omega, by omega, rfl, rfl, trivial⟩
 ·have : (i + 1).toNat = 0 := by omega
  rw [hi3, hi4, this]
  exact ⟨rfl, rfl, trivial⟩
theorem ZLV (S : Sig GG) (hS : RfSig S) : Zy S Tryz.prog 30 ZtP := by
 refine Ze S (C := ZKT) (fuel := 12) (ZQ trivial ⟨⟨⟨by decide, Zb9 S⟩, trivial, trivial⟩, trivial⟩ trivial) fun ρ => ?_
 rw [ZMh]
 simp only [ZLn, ZIj, ZFk, ZGb, ZAJ, Zkr, ZCE, ZEN, ZAf, ZIR, Zr0, ZsP, ZwK, Zws, Zxe, ZtX, ZsJ, ZpS, Zh2, Zt6, Zv2, ZpB, hS.u515, VC.den, SX.den, Env.upd, ZS, ZBM, Zkx, Zkk, beq_iff_eq, ZNX, beq_eq_false_iff_ne, ne_eq, ZNW, ZNV, Int.reduceToNat, Nat.reduceEqDiff, reduceIte, sB]
 generalize (ρ 4).tR = X
 generalize (ρ 2).tI = l
 generalize (ρ 6).tI = m
 intro h1 h2 h3 h4 h5 h6
 refine ⟨by show ((0 : Nat) : Int) <= 0; omega, .inr rfl, rfl, rfl, fun x b c hx0 hx1 hx2 hx3 => ?_⟩
 obtain ⟨n, rfl⟩ := ZNQ hx0
 have e1 : ((n : Int) + 1).toNat = n + 1 := by omega
 have hl := Zwn X n
 simp only [e1, ZN5] at hx2 hx3 ⊢
 refine ⟨fun hlt => ⟨by omega, by omega, fun hk _ _ => ⟨by omega, by omega, fun b' c' hc' hb' => ?_⟩, fun hk => ?_⟩, fun hge => ?_⟩
 ·have hs : ZJ X (n + 1) = ZJ X n ++ [xw (xa X n)] := if_pos hk
  rw [hs, ZN3, ZNM]
  exact ⟨by omega, by omega, by omega, by omega, by omega, by omega, by omega, rfl, by omega, trivial⟩
 ·have hs : ZJ X (n + 1) = ZJ X n := if_neg hk
  rw [hs]
  exact ⟨by omega, by omega, by omega, by omega, by omega, hx2, hx3, rfl, rfl, trivial⟩
 ·rw [show m.toNat = n by omega]
  exact ⟨hx2, hx3, rfl, rfl, trivial⟩
theorem ZJQ (S : Sig GG) (hS : RfSig S) : Zy S Tryz.prog 49 Zs6 := by
 refine Ze S (C := ZMI) (fuel := 12) (ZQ ⟨Zg (by decide) (ZD2 S hS), Zg (by decide) (ZLW S hS), trivial⟩ trivial trivial) fun ρ => ?_
 rw [ZKV]
 simp only [ZMe, ZBN, ZB7, ZDF, ZIh, ZFV, ZGr, ZDh, ZGx, ZFO, ZDD, Zpu, ZxN, ZkL, Zx5, hS.u512, hS.u513, hS.u514, hS.u516, hS.u517, hS.u524, hS.u525, VC.den, SX.den, Env.upd, ZS, ZBM, Zkx, Zkk, beq_iff_eq, ZNX, beq_eq_false_iff_ne, ne_eq, ZNW, ZNV, Int.reduceToNat, Nat.reduceEqDiff, reduceIte, sB]
 generalize (ρ 4).tR = X
 generalize (ρ 11).tN = K
 generalize (ρ 2).tI = l
 generalize (ρ 9).tI = m
 generalize (ρ 6).tI = a
 intro h1 h2 h3 h4 h5 h6 h7 h8 h9 h10
 obtain ⟨n, rfl⟩ := ZNQ h5
 simp only [ZN5]
 rw [show m.toNat = K.length by omega, Zzq]
 unfold ZV xw ZbW xa
 refine ⟨by omega, fun _ _ => ⟨by omega, fun a1 a2 a3 a4 a5 a6 a7 ha7 ha1 ha4 => ?_⟩⟩
 generalize YA X ((X.getD n []).getD 1 0) (YW ((X.getD n []).getD 2 0).toNat) n = j at *
 have f3 : ZaB (X.getD n []) = YW ((X.getD n []).getD 3 0).toNat := rfl
 rw [f3]
 generalize (X.getD n []).getD 1 0 = w at *
 generalize (!(X.getD n []).getD 4 0 == 0) = hv at *
 generalize YW ((X.getD n []).getD 3 0).toNat = z at *
 generalize ZcY X K (YW ((X.getD n []).getD 2 0).toNat) K.length = u at *
 unfold ZKO at ha4
 unfold ZLw at ha1
 unfold xa at ha1 ha4
 generalize X.getD j.toNat [] = r at *
 have hd : ∀ q : Int, (q == 3) = decide (q = 3) := fun q => by rw [Bool.eq_iff_iff]; simp
 intro _ _
 refine ⟨fun q => ?_, fun q => ?_⟩
 ·have hj : 0 <= j := Za.1 (ha7 ▸ q)
  rw [if_pos hj] at ha1 ha4
  rw [ha1, ha4, hd]
  refine ⟨fun hw => ?_, fun hw => ?_⟩
  ·rw [if_pos ⟨hj, hw⟩]
   refine ⟨fun c => ?_, fun c => ?_⟩
   ·rw [c]; simp
   ·refine ⟨?_, rfl, trivial⟩; simp [c]
  ·rw [if_neg (fun h => by omega)]
   refine ⟨fun c => ?_, fun c => ?_⟩
   ·rw [c]; simp
   ·refine ⟨?_, rfl, trivial⟩; simp [c]
 ·have hj : ¬ 0 <= j := fun h => by rw [q, Za.2 h] at ha7; cases ha7
  rw [if_neg (fun h => hj h.1)]
  refine ⟨fun c => ?_, fun c => ?_⟩
  ·rw [c]; simp
  ·refine ⟨?_, rfl, trivial⟩; simp [c]
def kc (r : Ent) : Int := (Zs (ZV r) : Nat)
def nr (r : Ent) : Ent := [xk r, xw r, (Zs (ZV r) : Nat), (Zs (ZaB r) : Nat), b01 (ZbW r), xt r]
def ZZ (m : List (Int × Int)) (r : Ent) : Bool :=
 (ZbW r == (Zx m (kc r) && decide ((YC 0 m (kc r)).tmod 2 = 0))) && (!ZbW r || ZaB r == YW ((YC 0 m (kc r)).tdiv 2).toNat)
def vw (c : Int) : List UInt8 × Bool := (YW (c.tdiv 2).toNat, decide (c.tmod 2 = 0))
def ZvE (m1 m2 m3 : List (Int × Int)) : Prop := ∀ k, Zx m3 k = (Zx m1 k || Zx m2 k) /\ vw (YC 0 m3 k) = if Zx m2 k = true then vw (YC 0 m2 k) else vw (YC 0 m1 k)
def layM (m1 m2 left m3 : List (Int × Int)) : Prop := (left.map (·.1)).Nodup /\ (∀ k, Zx left k = true -> Zx m2 k = true) ∧
 ∀ k, Zx m3 k = (Zx m1 k || (Zx m2 k && !Zx left k)) /\ vw (YC 0 m3 k) = if Zx m2 k = true /\ Zx left k = false then vw (YC 0 m2 k) else vw (YC 0 m1 k)
def ZjM : Ent := [-7, 0, 0, 0, 0, 0]
def revN (x : List Ent) (n : Nat) : List Ent := ((x.drop (x.length - n)).map nr).reverse
def eqE (r s : Ent) : Prop := nr r = nr s
structure JbSig (S : Sig GG) : Prop where
 rf : RfSig S
 u530 : ∀ a b c d, S.usr 530 a b c d = .bool (ZZ a.tM b.tN)
 u531 : ∀ a b c d, S.usr 531 a b c d = .bool (Zn (ZvE a.tM b.tM c.tM))
 u532 : ∀ a b c d, S.usr 532 a b c d = .bool (Zn (layM a.tM b.tM c.tM d.tM))
 u533 : ∀ a b c d, S.usr 533 a b c d = .rows (revN a.tR b.tI.toNat)
 u534 : ∀ a b c d, S.usr 534 a b c d = .rows ((a.tR.take c.tI.toNat).map nr ++ b.tR.drop c.tI.toNat)
 u536 : ∀ a b c d, S.usr 536 a b c d = .bool (Zn ((a.tM.map (·.1)).Nodup))
 u535 : ∀ a b c d, S.usr 535 a b c d = .bool (Zn (∀ i : Nat, b.tI <= (i : Int) -> (i : Int) < c.tI -> eqE (xa a.tR i) (xa d.tR i)))
theorem JbSig.of {S T : Sig GG} (h : JbSig S) (hu : T.usr = S.usr) : JbSig T := by
 constructor
 ·have := h.rf
  constructor
  all_goals (rw [hu]; first | exact this.u500 | exact this.u501 | exact this.u502 | exact this.u503 | exact this.u504 | exact this.u505 | exact this.u506 | exact this.u507 | exact this.u508 | exact this.u509 | exact this.u510 | exact this.u511 | exact this.u512 | exact this.u513 | exact this.u514 | exact this.u515 | exact this.u516 | exact this.u517 | exact this.u518 | exact this.u519 | exact this.u520 | exact this.u521 | exact this.u522 | exact this.u523 | exact this.u524 | exact this.u525)
 all_goals (rw [hu]; first | exact h.u530 | exact h.u531 | exact h.u532 | exact h.u533 | exact h.u534 | exact h.u535 | exact h.u536)
theorem ZE4 (r : Ent) : xk (nr r) = xk r := rfl
theorem ZJi (r : Ent) : xw (nr r) = xw r := rfl
theorem ZGs (r : Ent) : xt (nr r) = xt r := rfl
theorem Zjv (r : Ent) : ZV (nr r) = ZV r := by
 show YW (Int.toNat (Zs (ZV r) : Nat)) = _
 rw [ZN5, Zo]
theorem Zgv (r : Ent) : ZaB (nr r) = ZaB r := by
 show YW (Int.toNat (Zs (ZaB r) : Nat)) = _
 rw [ZN5, Zo]
theorem Zgc (r : Ent) : ZbW (nr r) = ZbW r := by
 exact Zei _
theorem nr_nr (r : Ent) : nr (nr r) = nr r := by
 unfold nr
 rw [show [xk r, xw r, (Zs (ZV r) : Nat), (Zs (ZaB r) : Nat), b01 (ZbW r), xt r] = nr r from rfl, ZE4, ZJi, ZGs, Zjv, Zgv, Zgc]
 rfl
theorem Zsj {r s : Ent} (h : eqE r s) : xk r = xk s /\ xw r = xw s /\ ZV r = ZV s /\ ZaB r = ZaB s /\ ZbW r = ZbW s /\ xt r = xt s := by
 have h1 := congrArg xk h
 have h2 := congrArg xw h
 have h3 := congrArg ZV h
 have h4 := congrArg ZaB h
 have h5 := congrArg ZbW h
 have h6 := congrArg xt h
 rw [ZE4, ZE4] at h1
 rw [ZJi, ZJi] at h2
 rw [Zjv, Zjv] at h3
 rw [Zgv, Zgv] at h4
 rw [Zgc, Zgc] at h5
 rw [ZGs, ZGs] at h6
 exact ⟨h1, h2, h3, h4, h5, h6⟩
theorem Zp8 {r s : Ent} (h : eqE r s) : true = (r.getD 0 0 == s.getD 0 0 && (r.getD 1 0 == s.getD 1 0 && (YW (r.getD 2 0).toNat == YW (s.getD 2 0).toNat && (YW (r.getD 3 0).toNat == YW (s.getD 3 0).toNat && ((!r.getD 4 0 == 0) == (!s.getD 4 0 == 0) && r.getD 5 0 == s.getD 5 0))))) := by
 obtain ⟨h1, h2, h3, h4, h5, h6⟩ := Zsj h
 have h1 : r.getD 0 0 = s.getD 0 0 := h1
 have h2 : r.getD 1 0 = s.getD 1 0 := h2
 have h3 : YW (r.getD 2 0).toNat = YW (s.getD 2 0).toNat := h3
 have h4 : YW (r.getD 3 0).toNat = YW (s.getD 3 0).toNat := h4
 have h5 : (!r.getD 4 0 == 0) = (!s.getD 4 0 == 0) := h5
 have h6 : r.getD 5 0 = s.getD 5 0 := h6
 rw [h1, h2, h3, h4, h5, h6]
 simp
theorem ZAb {x : List Ent} {i j : Nat} {r : Ent} (h : i ≠ j) : xa (x.set i r) j = xa x j := by
 unfold xa
 rw [ZNY, ZNY, List.getElem?_set_ne h]
theorem Zpp (m : List (Int × Int)) (k v q : Int) : Zx (Yw m k v) q = (decide (k = q) || Zx m q) := by
 induction m with
 | nil => simp [Yw, Zx]
 | cons p m ih =>
  obtain ⟨a, b⟩ := p
  unfold Yw
  by_cases h : a = k
  ·subst h; simp only [if_true, Zx]; by_cases hq : a = q <;> simp [hq]
  ·rw [if_neg h]
   simp only [Zx]
   by_cases hq : a = q
   ·simp [hq]
   ·rw [if_neg hq, if_neg hq, ih]
theorem Zqo (d : Int) (m : List (Int × Int)) (k v q : Int) : YC d (Yw m k v) q = if k = q then v else YC d m q := by
 induction m with
 | nil => simp [Yw, YC]
 | cons p m ih =>
  obtain ⟨a, b⟩ := p
  unfold Yw
  by_cases h : a = k
  ·subst h; simp only [if_true, YC]; by_cases hq : a = q <;> simp [hq]
  ·rw [if_neg h]
   simp only [YC]
   by_cases hq : a = q
   ·have : ¬ k = q := fun e => h (by rw [hq, e])
    simp [hq, this]
   ·rw [if_neg hq, if_neg hq, ih]
theorem Zbv {m : List (Int × Int)} (hn : (m.map (·.1)).Nodup) (k : Int) : ((Y0 m k).map (·.1)).Nodup := by
 induction m with
 | nil => exact hn
 | cons p m ih =>
  obtain ⟨a, b⟩ := p
  simp only [ZN7, List.nodup_cons] at hn
  unfold Y0
  split
  ·exact hn.2
  ·simp only [ZN7, List.nodup_cons]
   refine ⟨fun h => hn.1 ?_, ih hn.2⟩
   obtain ⟨q, hq, he⟩ := List.mem_map.1 h
   exact List.mem_map.2 ⟨q, Zjy hq, he⟩
theorem Zda {m : List (Int × Int)} {k : Int} (h : Zx m k = true) : (Y0 m k).length < m.length := by
 induction m with
 | nil => cases h
 | cons p m ih =>
  obtain ⟨a, b⟩ := p
  unfold Y0
  simp only [Zx] at h
  split
  ·simp
  ·rename_i hne; rw [if_neg hne] at h
   have := ih h
   simp only [ZOi]; omega
theorem ZKH (t : List UInt8) (b : Bool) : vw ((Zs t : Nat) * 2 + b01 b) = (t, !b) := by
 unfold vw b01
 cases b
 ·have h1 : (((Zs t : Nat) : Int) * 2 + if false = true then 1 else 0).tdiv 2 = (Zs t : Nat) := by
   rw [Int.tdiv_eq_ediv_of_nonneg (by split <;> omega)]; split <;> omega
  have h2 : (((Zs t : Nat) : Int) * 2 + if false = true then 1 else 0).tmod 2 = 0 := by
   rw [Int.tmod_eq_emod_of_nonneg (by split <;> omega)]; simp
  rw [h1, h2, ZN5, Zo]; rfl
 ·have h1 : (((Zs t : Nat) : Int) * 2 + if true = true then 1 else 0).tdiv 2 = (Zs t : Nat) := by
   rw [Int.tdiv_eq_ediv_of_nonneg (by split <;> omega)]; split <;> omega
  have h2 : (((Zs t : Nat) : Int) * 2 + if true = true then 1 else 0).tmod 2 = 1 := by
   rw [Int.tmod_eq_emod_of_nonneg (by split <;> omega)]; simp
  rw [h1, h2, ZN5, Zo]; rfl
theorem Zaz {m : List (Int × Int)} (hn : (m.map (·.1)).Nodup) (k q : Int) : Zx (Y0 m k) q = (!decide (k = q) && Zx m q) := by
 induction m with
 | nil => simp [Y0, Zx]
 | cons p m ih =>
  obtain ⟨a, b⟩ := p
  simp only [ZN7, List.nodup_cons] at hn
  have no : Zx m a = false := by
   cases h : Zx m a
   ·rfl
   ·exfalso; apply hn.1
    clear ih hn
    induction m with
    | nil => cases h
    | cons p m ih2 =>
     obtain ⟨c, e⟩ := p
     simp only [Zx] at h
     split at h
     ·rename_i hc; simp [hc]
     ·simp [ih2 h]
  unfold Y0
  by_cases h : a = k
  ·subst h
   rw [if_pos rfl]
   simp only [Zx]
   by_cases hq : a = q
   ·subst hq; simp [no]
   ·simp [hq]
  ·rw [if_neg h]
   simp only [Zx]
   by_cases hq : a = q
   ·have : ¬ k = q := fun e => h (by rw [hq, e])
    simp [hq, this]
   ·rw [if_neg hq, if_neg hq, ih hn.2]
def scC (b m : SX) : Ch := .map .str .sb b m
def ndmC : Ctr := ⟨[.int, .amap], [.one (.map (ai 0))], [scC (ai 0) (mA 1)], [], [], .tup [], [scC (ai 0) (mA 1)], [usB 536 (mA 1) z0 z0]⟩
theorem ZKm (S : Sig GG) (hS : JbSig S) : Zbm S ndmC := by
 refine Yp S fun T w0 ρ h hu hp hd hr hpre => ⟨ρ, Ext.refl _ _, hpre, ?_⟩
 have hT := hS.of hu
 intro x hx
 simp only [ndmC, ZNR] at hx
 subst hx
 have e1 : hpDen T ρ w0 ndmC.pre = Zc ((scC (ai 0) (mA 1)).den T ρ w0) emp := rfl
 rw [e1, Zf] at hpre
 obtain ⟨_, es, clock, ⟨_, hn, _⟩, _⟩ := hpre
 simp only [usB, SX.den, hT.u536, YZ, U.tPi, U.tQi, Zl]
 exact hn
def ZxF : Ctr := Zqb
def ZLj : Cx := { specs := [], anns := [] }
def ZtF : Ctr := ⟨hA, [.one (hS 0), .one (.fn 51)], [hC 0 0], [eLe z0 (ai 2), eLe (ai 2) (Zj (rA 4)), eLe (ai 2) (ai 3), eLe (ai 2) (.int 1099511627776)], [.bool], .one (.bool (qA 6)), [hC 0 0], [.f2 48 (qA 6) (.f1 2 (usB 511 (rA 4) (ai 2) z0))]⟩
def cfnI : Inv := ⟨[.int], [(8, .one (.int .i64 (di 0)))], [], [eLe z0 (di 0), eLe (di 0) (ai 2), usB 511 (rA 4) (di 0) z0], .f2 41 (ai 2) (di 0)⟩
def ZJ4 : Cx := { specs := [(52, [ZxF])], anns := [(75, [(2, .inv cfnI)])] }
def entY : SX := Zca (ai 2) (ai 3) (.f1 35 (bA 4)) (.f1 35 (bA 5)) (.f1 3 (qA 6)) (ai 7)
def Zie : Ctr := ⟨[.int, .amap, .int, .int, .bytes, .bytes, .bool, .int], [.one (.map (ai 0)), .agg [.int .i64 (ai 2), .int .i64 (ai 3), .str (bA 4), .str (bA 5), .bool (qA 6), .int .i64 (ai 7)]], [scC (ai 0) (mA 1)], [eLe z0 (ai 0)], [.bool],
 .one (.bool (qA 8)), [scC (ai 0) (mA 1)], [.f2 48 (qA 8) (usB 530 (mA 1) entY z0)]⟩
def ZJO : Cx := { specs := [], anns := [] }
def ZlI : Ctr := ⟨[.int, .amap, .int, .amap], [.one (.map (ai 0)), .one (.map (ai 2))], [scC (ai 0) (mA 1), scC (ai 2) (mA 3)], [eLe z0 (ai 0), eLe z0 (ai 2)], [.amap], .tup [], [scC (ai 0) (mA 4), scC (ai 2) (mA 3)], [usB 531 (mA 1) (mA 3) (mA 4)]⟩
def layI : Inv := ⟨[.amap, .ints, .amap], [], [.itr .str .sb (ai 2) (mA 3) (ai 4) (mA 1000000) (iA 1000001), scC (ai 0) (mA 1000002)], [.us .bool 532 (mA 1) (mA 3) (mA 1000000) (mA 1000002)], .f1 33 (mA 1000000)⟩
def ZKj : Cx := { specs := [], anns := [(56, [(0, .ghost ndmC [.tmp 1]), (1, .inv layI)])] }
def mkX : SX := Zca (.int (-7)) z0 z0 z0 z0 z0
def mksX : SX := Zz mkX (Zz mkX (Zz mkX Zdu))
def ZAv : Ctr := ⟨hA, [.one (hS 0)], [hC 0 0], hQ 0, [.int, .int], .one (slC (ai 6) (ai 2) (ai 7) 6), [hC 0 0, .arr hE (ai 6) (.f2 121 (rA 4) mksX) (ai 7)], [eLe (SX.mk2 40 (ai 2) (.int 3)) (ai 7), eLe z0 (ai 6)]⟩
def ZLg : Cx := { specs := [], anns := [] }
def Ztt : Ctr := ⟨[.int, .rows, .int, .int, .int] ++ hA, [.one (slC (ai 0) (ai 2) (ai 3) 6), .one (hS 5)], [.arr hE (ai 0) (rA 1) (ai 4), hC 0 5], [eLe z0 (ai 2), .f2 45 (Zj (rA 1)) (SX.mk2 40 (ai 2) (.int 3)), eLe (SX.mk2 40 (ai 2) (.int 3)) (ai 3), .f2 45 (ai 2) (ai 7), .us .bool 535 (rA 1) z0 (ai 2) (rA 9), .us .bool 535 (rA 1) (ai 2) (SX.mk2 40 (ai 2) (.int 3)) (.f2 121 (rA 9) mksX)] ++ hQ 5, [.bool], .one (.bool (qA 11)), [hC 0 5], [qA 11]⟩
def aslI : Inv := ⟨[.int, .rows], [(7, .one (.int .i64 (di 0))), (6, .one (.bool (.bool true)))], [.arr hE (ai 0) (rA 1000001) (ai 4)], [eLe z0 (di 0), eLe (di 0) (SX.mk2 40 (ai 2) (.int 3)), .f2 45 (Zj (rA 1000001)) (Zj (rA 1)), .us .bool 535 (rA 1000001) (di 0) (SX.mk2 40 (ai 2) (.int 3)) (rA 1)], .f2 41 (SX.mk2 40 (ai 2) (.int 3)) (di 0)⟩
def ZJ6 : Cx := { specs := [], anns := [(11, [(6, .inv aslI)])] }
def ZGf : SX := e (a 0) (k 2)
def ZzT : SX := .f2 150 (b 2) (b 2)
def ZFe : SX := .f2 150 (b 3) (b 3)
def ZDo : SX := e (a 5) z
def ZFs : SX := .f2 49 (.f2 48 (q 4) (q 4)) ZDo
def ZFG : SX := .f2 49 ZzT (.f2 49 ZFe ZFs)
def ZH2 : SX := l z (a 1)
def ZBq : SX := .f2 150 (b 2) (.byt [])
def ZrK : SX := p 510 (.f2 122 (a 0) (.f2 122 (a 1) (.f2 122 (.f1 35 (b 2)) (.f2 122 (.f1 35 (b 3)) (.f2 122 (.f1 3 (q 4)) (.f2 122 (a 5) (.f1 152 z)))))))
def ZyH : SX := .f2 48 (.f1 2 ZBq) ZrK
def ZxU : SX := t (a 1) z
def ZaJ : SX := .f2 48 (.bool false) ZrK
def Zo9 : SX := .f2 150 (b 3) (.byt [])
def Zyt : SX := .f2 49 ZzT (.f2 49 Zo9 ZFs)
def Zyr : SX := e (a 0) (k 3)
def ZzQ : SX := .f2 49 ZzT (.f2 49 ZFe (.f2 49 (.f2 48 (q 4) (.bool true)) ZDo))
def Zj8 : SX := t z (a 1)
def Zq3 : SX := l (a 1) z
def ZtU : SX := e (a 0) (k 4)
def ZtE : SX := .f2 48 (q 4) (.bool false)
def ZwB : SX := .f2 49 Zo9 (.f2 49 ZtE ZDo)
def ZxE : SX := .f2 49 ZzT ZwB
def ZsR : SX := e (a 0) (k 5)
def Zx8 : SX := .f2 49 ZBq (.f2 49 Zo9 ZtE)
def Zqw : SX := e (a 0) (k 1)
def Zk9 : SX := .f2 49 ZBq ZwB
def Zx6 : SX := .f2 48 Zj8 ZrK
def Zw1 : SX := .f1 2 Zk9
def Zx2 : SX := e (a 0) (k 6)
def Zpc : SX := e (a 0) (k 7)
def ZNf : VC := u 6 .int (i (l z (a 6)) (u 7 .int (i (l z (a 7)) (.and (i ZGf (.and (i (q 4) (.and (i ZFG (.and (i ZH2 (n ZyH .tt)) (i ZxU (n ZaJ .tt)))) (i (.f1 2 ZFG) (n ZaJ .tt)))) (i (.f1 2 (q 4)) (.and (i Zyt (.and (i ZH2 (n ZyH .tt)) (i ZxU (n ZaJ .tt)))) (i (.f1 2 Zyt) (n ZaJ .tt)))))) (i (.f1 2 ZGf) (.and (i Zyr (.and (i ZzQ (.and (i Zj8 (n ZyH .tt)) (i Zq3 (n ZaJ .tt)))) (i (.f1 2 ZzQ) (n ZaJ .tt)))) (i (.f1 2 Zyr) (.and (i ZtU (.and (i ZxE (.and (i Zj8 (n ZyH .tt)) (i Zq3 (n ZaJ .tt)))) (i (.f1 2 ZxE) (n ZaJ .tt)))) (i (.f1 2 ZtU) (.and (i ZsR (.and (i Zx8 (.and (i Zj8 (.and (i (l (k 1) (a 5)) (n (.f2 48 (l (a 5) k0) ZrK) .tt)) (i (t (a 5) (k 1)) (n ZaJ .tt)))) (i Zq3 (n ZaJ .tt)))) (i (.f1 2 Zx8) (n ZaJ .tt)))) (i (.f1 2 ZsR) (.and (i Zqw (.and (i Zqw (.and (i Zk9 (n Zx6 .tt)) (i Zw1 (n ZaJ .tt)))) .tt)) (i (.f1 2 Zqw) (.and (i Zx2 (.and (i Zk9 (n Zx6 .tt)) (i Zw1 (n ZaJ .tt)))) (i (.f1 2 Zx2) (.and (i Zpc (n (.f2 48 (.f2 49 Zpc (.f2 49 (e (a 1) z) Zk9)) ZrK) .tt)) (i (.f1 2 Zpc) (n ZaJ .tt))))))))))))))))))
theorem ZMy : Yq Tryz.prog ZLj 12 52 ZxF = ZNf := by kernel_rfl
def ZHu : SX := l z (a 6)
def ZHy : SX := .f1 2 (c 511 (r 4) (a 2))
def Zr8 : SX := .f2 40 (a 6) (k 1)
def ZFd : SX := .f2 41 (a 2) Zr8
def ZKs : VC := i (l z (a 2)) (i (l (a 2) (.f1 32 (r 4))) (i (l (a 2) (a 3)) (i (l (a 2) k0) (n (p 511 (r 4)) (u 6 .int (i ZHu (i (l (a 6) (a 2)) (i (c 511 (r 4) (a 6)) (.and (i (t (a 6) (a 2)) (n (t (a 6) (.f1 32 (r 4))) (u 7 .int (i (l z (a 7)) (u 8 .bool (i (.f2 48 (q 8) (p 510 (.f2 122 (.f3 112 (r 4) (a 6) z) (.f2 122 (.f3 112 (r 4) (a 6) (k 1)) (.f2 122 (.f1 35 (.f1 36 (.f3 112 (r 4) (a 6) (k 2)))) (.f2 122 (.f1 35 (.f1 36 (.f3 112 (r 4) (a 6) (k 3)))) (.f2 122 (.f1 3 (.f1 2 (e (.f3 112 (r 4) (a 6) (k 4)) z))) (.f2 122 (.f3 112 (r 4) (a 6) (k 5)) (.f1 152 z))))))))) (.and (i (.f1 2 (q 8)) (n (.f2 48 ZHu ZHy) .tt)) (i (.f1 2 (.f1 2 (q 8))) (n (.f1 23 Zr8) (n (l z ZFd) (n (t ZFd (.f2 41 (a 2) (a 6))) (n (l z Zr8) (n (l Zr8 (a 2)) (n (c 511 (r 4) Zr8) .tt)))))))))))))) (i (l (a 2) (a 6)) (n (.f2 48 (.bool false) ZHy) .tt)))))))))))
theorem ZL6 : Yq Tryz.prog ZJ4 12 50 ZtF = ZKs := by kernel_rfl
def ZIl : SX := .f2 141 (m 1) (.f1 35 (b 4))
def ZFS : SX := .f3 140 z (m 1) (.f1 35 (b 4))
def ZI1 : SX := .f2 48 (q 6) (e (.f2 44 ZFS (k 2)) z)
def ZFm : SX := .f1 2 (.f1 2 (q 6))
def ZCm : SX := c 530 (m 1) (.f2 122 (a 2) (.f2 122 (a 3) (.f2 122 (.f1 35 (b 4)) (.f2 122 (.f1 35 (b 5)) (.f2 122 (.f1 3 (q 6)) (.f2 122 (a 7) (.f1 152 z)))))))
def ZIT : SX := .f2 48 (.f2 150 (b 5) (.f1 36 (.f2 43 ZFS (k 2)))) ZCm
def ZJg : SX := .f2 48 (.bool true) ZCm
def ZG4 : SX := .f2 48 (.bool false) ZCm
def ZGA : SX := .f2 48 (q 6) (.bool false)
def ZNj : VC := i (l z (a 0)) (u 8 .int (i (l z (a 8)) (u 9 .int (i (l z (a 9)) (.and (i ZIl (.and (i ZI1 (.and (i ZFm (n ZIT .tt)) (i (.f1 2 (q 6)) (n ZJg .tt)))) (i (.f1 2 ZI1) (n ZG4 .tt)))) (i (.f1 2 ZIl) (.and (i ZGA (.and (i ZFm (n ZIT .tt)) (i (.f1 2 (q 6)) (n ZJg .tt)))) (i (.f1 2 ZGA) (n ZG4 .tt)))))))))
theorem ZKx : Yq Tryz.prog ZJO 12 47 Zie = ZNj := by kernel_rfl
def ZG5 : SX := .f2 143 (m 5) (.f1 35 (b 8))
def ZEH : SX := .f3 140 z (m 3) (.f1 35 (b 8))
def ZNp : VC := i (l z (a 0)) (i (l z (a 2)) (i (p 536 (m 3)) (u 4 .int (i (l z (a 4)) (n (.us .bool 532 (m 1) (m 3) (m 3) (m 1)) (u 5 .amap (u 6 .ints (u 7 .amap (i (.us .bool 532 (m 1) (m 3) (m 5) (m 7)) (.and (i (e (.f1 33 (m 5)) z) (n (y 531 (m 1) (m 3) (m 7)) .tt)) (u 8 .bytes (i (.f2 141 (m 5) (.f1 35 (b 8))) (u 9 .int (i (l z (a 9)) (n (t (.f1 33 ZG5) (.f1 33 (m 5))) (n (.us .bool 532 (m 1) (m 3) ZG5 (.f3 142 (m 7) (.f1 35 (b 8)) (.f2 40 (.f2 42 (.f1 35 (.f1 36 (.f2 43 ZEH (k 2)))) (k 2)) (.f1 3 (.f1 2 (e (.f2 44 ZEH (k 2)) z)))))) .tt))))))))))))))))
theorem ZL4 : Yq Tryz.prog ZKj 12 26 ZlI = ZNp := by kernel_rfl
def ZIX : SX := .f2 115 (r 4) (a 2)
def ZmR : SX := .f2 40 (a 2) (k 1)
def ZGj : SX := .f2 115 ZIX (a 2)
def Zmr : SX := .f2 40 (a 2) (k 2)
def ZI5 : SX := .f2 122 z (.f2 122 z (.f1 152 z))
def ZBu : SX := .f2 124 (.f2 122 (k (-7)) (.f2 122 z (.f2 122 (.f1 35 (.byt [])) (.f2 122 (.f1 35 (.byt [])) ZI5)))) (.f1 154 z)
def ZFA : SX := .f2 115 (.f2 121 ZGj ZBu) ZmR
def Zun : SX := .f2 40 (a 2) (k 3)
def ZEU : SX := l z (a 15)
def ZDp : SX := .f2 122 (k (-7)) (.f2 122 z (.f2 122 z (.f2 122 z ZI5)))
def ZM8 : VC := i (l z (a 2)) (i (e (a 2) (.f1 32 (r 4))) (i (l (a 2) (a 3)) (i (l (a 2) k0) (n (l (.f2 42 (a 2) (k 64)) k1) (n (l (a 2) (.f1 32 (r 4))) (u 6 .int (u 7 .int (i (l (a 2) (a 7)) (i (.f2 50 (l z (a 6)) (e (a 2) z)) (u 8 .int (i (l z (a 8)) (n (l (a 2) (.f1 32 ZIX)) (n (l (.f2 42 ZmR (k 64)) k1) (u 9 .int (u 10 .int (i (l ZmR (a 10)) (i (.f2 50 (l z (a 9)) (e ZmR z)) (u 11 .int (i (l z (a 11)) (n (l z ZmR) (n (l ZmR (.f2 40 (.f1 32 ZGj) (k 1))) (n (l (.f2 42 Zmr (k 64)) k1) (u 12 .int (u 13 .int (i (l Zmr (a 13)) (i (.f2 50 (l z (a 12)) (e Zmr z)) (u 14 .int (i (l z (a 14)) (n (l z Zmr) (n (l Zmr (.f2 40 (.f1 32 ZFA) (k 1))) (n (l (.f2 42 Zun (k 64)) k1) (u 15 .int (u 16 .int (i (l Zun (a 16)) (i (.f2 50 ZEU (e Zun z)) (n (l z Zun) (n (l z (a 16)) (n (l (a 2) (a 16)) (n ZEU (n (.f2 155 (.f2 121 (r 4) (.f2 124 ZDp (.f2 124 ZDp (.f2 124 ZDp (.f1 154 z))))) (.f2 121 (.f2 115 (.f2 121 ZFA ZBu) Zmr) ZBu)) .tt))))))))))))))))))))))))))))))))))))))))
theorem ZL3 : Yq Tryz.prog ZLg 12 7 ZAv = ZM8 := by kernel_rfl
def Zfb : SX := .f2 40 (a 2) (k 3)
def ZG9 : SX := e (a 2) (a 7)
def ZJh : SX := .f2 122 z (.f2 122 z (.f1 152 z))
def ZCg : SX := .f2 122 (k (-7)) (.f2 122 z (.f2 122 z (.f2 122 z ZJh)))
def ZrF : SX := .f2 40 (a 7) (k 3)
def ZIq : SX := t (a 11) (.f1 32 (r 12))
def Zrw : SX := .f2 40 (a 11) (k 1)
def ZGw : SX := .f1 23 Zrw
def ZF6 : SX := .f2 41 Zfb Zrw
def ZEu : SX := l z ZF6
def Zww : SX := t ZF6 (.f2 41 Zfb (a 11))
def Zzy : SX := l z Zrw
def Zwj : SX := l Zrw Zfb
def ZAE : SX := .us .bool 535 (.f3 132 (r 12) (a 11) (.f2 122 (k (-8)) (.f2 122 z (.f2 122 (.f1 35 (.byt [])) (.f2 122 (.f1 35 (.byt [])) ZJh))))) Zrw Zfb (r 1)
def Zz0 : SX := .f3 112 (r 12) (a 11) z
def Zw6 : SX := .f3 112 (r 12) (a 11) (k 1)
def ZAy : SX := .f1 36 (.f3 112 (r 12) (a 11) (k 2))
def ZuI : SX := .f1 36 (.f3 112 (r 12) (a 11) (k 3))
def ZwG : SX := .f1 2 (e (.f3 112 (r 12) (a 11) (k 4)) z)
def Zwu : SX := .f3 112 (r 12) (a 11) (k 5)
def ZMG : VC := i (l z (a 2)) (i (e (.f1 32 (r 1)) Zfb) (i (l Zfb (a 3)) (i ZG9 (i (.us .bool 535 (r 1) z (a 2) (r 9)) (i (.us .bool 535 (r 1) (a 2) Zfb (.f2 121 (r 9) (.f2 124 ZCg (.f2 124 ZCg (.f2 124 ZCg (.f1 154 z)))))) (i (l z (a 7)) (i (e (a 7) (.f1 32 (r 9))) (i (l (a 7) (a 8)) (i (l (a 7) k0) (.and .tt (i ZG9 (n (.f1 23 ZrF) (n (l z (a 3)) (n (l z ZrF) (n (l ZrF (a 3)) (n (l z Zfb) (n (e (.f1 32 (r 1)) (.f1 32 (r 1))) (n (.us .bool 535 (r 1) z Zfb (r 1)) (u 11 .int (u 12 .rows (i (l z (a 11)) (i (l (a 11) Zfb) (i (e (.f1 32 (r 12)) (.f1 32 (r 1))) (i (.us .bool 535 (r 12) (a 11) Zfb (r 1)) (.and (i (t (a 11) ZrF) (u 13 .int (i (l z (a 13)) (.and (i (t (a 11) (a 7)) (n (t (a 11) (.f1 32 (r 9))) (n ZIq (n ZGw (n ZEu (n Zww (n Zzy (n Zwj (n ZAE (n (.f2 155 (.bool true) (.f2 49 (e Zz0 (.f3 112 (r 9) (a 11) z)) (.f2 49 (e Zw6 (.f3 112 (r 9) (a 11) (k 1))) (.f2 49 (.f2 150 ZAy (.f1 36 (.f3 112 (r 9) (a 11) (k 2)))) (.f2 49 (.f2 150 ZuI (.f1 36 (.f3 112 (r 9) (a 11) (k 3)))) (.f2 49 (.f2 48 ZwG (.f1 2 (e (.f3 112 (r 9) (a 11) (k 4)) z))) (e Zwu (.f3 112 (r 9) (a 11) (k 5))))))))) .tt)))))))))) (i (l (a 7) (a 11)) (n ZIq (n ZGw (n ZEu (n Zww (n Zzy (n Zwj (n ZAE (n (.f2 155 (.bool true) (.f2 49 (e Zz0 (k (-7))) (.f2 49 (e Zw6 z) (.f2 49 (.f2 150 ZAy (.byt [])) (.f2 49 (.f2 150 ZuI (.byt [])) (.f2 49 (.f2 48 ZwG (.bool false)) (e Zwu z))))))) .tt))))))))))))) (i (l ZrF (a 11)) .tt))))))))))))))))))))))))))
theorem ZK9 : Yq Tryz.prog ZJ6 12 11 Ztt = ZMG := by kernel_rfl
theorem ZLi (S : Sig GG) (hS : JbSig S) : Zy S Tryz.prog 52 ZxF := by
 refine Ze S (C := ZLj) (fuel := 12) (ZQ trivial trivial trivial) fun ρ => ?_
 rw [ZMy]
 simp only [ZNf, ZGf, ZzT, ZFe, ZDo, ZFs, ZFG, ZH2, ZBq, ZrK, ZyH, ZxU, ZaJ, Zo9, Zyt, Zyr, ZzQ, Zj8, Zq3, ZtU, ZtE, ZwB, ZxE, ZsR, Zx8, Zqw, Zk9, Zx6, Zw1, Zx2, Zpc, hS.rf.u510, VC.den, SX.den, Env.upd, ZS, ZD, beq_iff_eq, ZNX, beq_eq_false_iff_ne, ne_eq, ZNW, ZNV, Int.reduceToNat, Nat.reduceEqDiff, reduceIte, sB, sC]
 generalize (ρ 0).tI = k
 generalize (ρ 1).tI = w
 generalize (ρ 2).tB = a
 generalize (ρ 3).tB = b
 generalize (ρ 4).toBool = c
 generalize (ρ 5).tI = d
 unfold ZbI xk xw ZV ZaB ZbW xt leB ltB
 simp only [List.getD_cons_zero, List.getD_cons_succ, ZN5, Zo, Zei]
 have hw : ∀ x y : Int, (x == y) = decide (x = y) := fun x y => by rw [Bool.eq_iff_iff]; simp
 have ha : ∀ x : List UInt8, (x == x) = true := fun x => by simp
 have hc : (c == c) = true := by simp
 simp only [hw, ha, hc, Bool.true_and]
 generalize (a == []) = A
 generalize (b == []) = B
 intro _ _ _ _
 repeat' (first | exact trivial | apply And.intro | intro _)
 all_goals (try simp_all)
 all_goals (first | omega | (cases A <;> cases B <;> cases c <;> simp_all))
theorem ZKF (S : Sig GG) (hS : JbSig S) : Zy S Tryz.prog 50 ZtF := by
 refine Ze S (C := ZJ4) (fuel := 12) (ZQ ⟨Zg (by decide) (ZLi S hS), trivial⟩ ⟨⟨trivial, trivial⟩, trivial⟩ trivial) fun ρ => ?_
 rw [ZL6]
 simp only [ZKs, ZHu, ZHy, Zr8, ZFd, hS.rf.u510, hS.rf.u511, VC.den, SX.den, Env.upd, ZS, ZD, beq_iff_eq, ZNX, beq_eq_false_iff_ne, ne_eq, ZNW, ZNV, Int.reduceToNat, Nat.reduceEqDiff, reduceIte, sB, sC]
 generalize (ρ 4).tR = X
 generalize (ρ 2).tI = l
 intro h1 h2 h3 h4
 refine ⟨Zu fun i hi => absurd hi (Nat.not_lt_zero _), fun x hx0 hx1 hx2 => ?_⟩
 obtain ⟨n, rfl⟩ := ZNQ hx0
 have e1 : ((n : Int) + 1).toNat = n + 1 := by omega
 simp only [e1, ZN5] at hx2 ⊢
 have hx2 := (Zl (p := ∀ i < n, ZbI (xa X i) = true)).mp hx2
 rw [may_nr']
 refine ⟨fun hlt => ⟨by omega, fun _ _ y hy => ⟨fun q => ⟨?_, trivial⟩, fun q => ⟨by omega, by omega, by omega, by omega, by omega, Zu fun i hi => ?_, trivial⟩⟩⟩, fun hge => ⟨?_, trivial⟩⟩
 ·have hf : Zi8 X l.toNat = false := Zr fun h => by
   have := h n (by omega)
   have hy : y = ZbI (xa X n) := hy
   rw [<- hy, q] at this; cases this
  rw [hf, Za.2 (by omega)]; rfl
 ·rcases ZNS i n with h | h
  ·exact hx2 i h
  ·rw [show i = n by omega]
   have hy : y = ZbI (xa X n) := hy
   rw [<- hy, q]
 ·have hf : Zi8 X l.toNat = true := Zu fun i hi => hx2 i (by omega)
  rw [hf]; rfl
theorem Zpo (S : Sig GG) (hS : JbSig S) : Zy S Tryz.prog 47 Zie := by
 refine Ze S (C := ZJO) (fuel := 12) (ZQ trivial trivial trivial) fun ρ => ?_
 rw [ZKx]
 simp only [ZNj, ZIl, ZFS, ZI1, ZFm, ZCm, ZIT, ZJg, ZG4, ZGA, hS.u530, VC.den, SX.den, Env.upd, ZS, ZD, beq_iff_eq, ZNX, beq_eq_false_iff_ne, ne_eq, ZNW, ZNV, Int.reduceToNat, Nat.reduceEqDiff, reduceIte, sB, sC]
 generalize (ρ 1).tM = M
 generalize (ρ 2).tI = k
 generalize (ρ 3).tI = w
 generalize (ρ 4).tB = a
 generalize (ρ 5).tB = b
 generalize (ρ 6).toBool = c
 generalize (ρ 7).tI = d
 unfold ZZ kc ZV ZaB ZbW
 simp only [List.getD_cons_zero, List.getD_cons_succ, ZN5, Zo, Zei]
 generalize Zx M (Zs a : Nat) = h
 generalize YC 0 M (Zs a : Nat) = g
 have hd : (g.tmod 2 == 0) = decide (g.tmod 2 = 0) := by rw [Bool.eq_iff_iff]; simp
 rw [hd]
 generalize decide (g.tmod 2 = 0) = e
 generalize (b == YW (g.tdiv 2).toNat) = f
 intro _ _ _ _ _
 cases h <;> cases c <;> cases e <;> cases f <;> simp
theorem Zxp (S : Sig GG) (hS : JbSig S) : Zy S Tryz.prog 26 ZlI := by
 refine Ze S (C := ZKj) (fuel := 12) (ZQ trivial ⟨⟨⟨by decide, ZKm S hS⟩, trivial, trivial⟩, trivial⟩ trivial) fun ρ => ?_
 rw [ZL4]
 simp only [ZNp, ZG5, ZEH, hS.u531, hS.u532, hS.u536, VC.den, SX.den, Env.upd, ZS, ZD, beq_iff_eq, ZNX, beq_eq_false_iff_ne, ne_eq, ZNW, ZNV, Int.reduceToNat, Nat.reduceEqDiff, reduceIte, sB, sC]
 generalize (ρ 1).tM = M
 generalize (ρ 3).tM = N
 intro h1 h2 h3 _ _
 refine ⟨⟨h3, fun k hk => hk, fun k => ⟨?_, ?_⟩⟩, fun L _ R hL => ⟨fun hz => ⟨?_, trivial⟩, fun t ht _ _ => ⟨by have := Zda ht; omega, ?_, trivial⟩⟩⟩
 ·cases Zx N k <;> simp
 ·rw [if_neg (by rintro ⟨a, b⟩; rw [a] at b; cases b)]
 ·have hz : L = [] := ZOd (by omega)
  subst hz
  obtain ⟨_, _, hl⟩ := hL
  intro k
  obtain ⟨a, b⟩ := hl k
  have hm : Zx [] k = false := rfl
  rw [hm] at a b
  refine ⟨by rw [a]; simp, ?_⟩
  rw [b]
  by_cases q : Zx N k = true
  ·rw [if_pos ⟨q, rfl⟩, if_pos q]
  ·rw [if_neg (fun h => q h.1), if_neg q]
 ·obtain ⟨l1, l2, l3⟩ := hL
  refine ⟨Zbv l1 _, fun k hk => ?_, fun k => ?_⟩
  ·rw [Zaz l1] at hk
   exact l2 k (by simp at hk; exact hk.2)
  ·obtain ⟨a, b⟩ := l3 k
   have hN := l2 _ ht
   rw [Zpp, Zqo, Zaz l1, a]
   by_cases hk : ((Zs t : Nat) : Int) = k
   ·subst hk
    refine ⟨by rw [hN]; simp, ?_⟩
    rw [if_pos rfl, if_pos ⟨hN, by simp⟩, ZKH]
    unfold vw
    have hd : ((YC 0 N ((Zs t : Nat) : Int)).tmod 2 == 0) = decide ((YC 0 N ((Zs t : Nat) : Int)).tmod 2 = 0) := by rw [Bool.eq_iff_iff]; simp
    rw [ZNW, hd]
   ·rw [if_neg hk, b]
    simp [hk]
theorem ZJE (S : Sig GG) (hS : JbSig S) : Zy S Tryz.prog 7 ZAv := by
 refine Ze S (C := ZLg) (fuel := 12) (ZQ trivial trivial trivial) fun ρ => ?_
 rw [ZL3]
 simp only [ZM8, ZIX, ZmR, ZGj, Zmr, ZI5, ZBu, ZFA, Zun, ZEU, ZDp, VC.den, SX.den, Env.upd, ZS, ZD, beq_iff_eq, ZNX, beq_eq_false_iff_ne, ne_eq, ZNW, ZNV, Int.reduceToNat, Nat.reduceEqDiff, reduceIte, sB, sC]
 generalize (ρ 4).tR = X
 generalize (ρ 2).tI = l
 intro h1 h2 h3 h4
 have m0 : ([-7, 0, ((Zs [] : Nat) : Int), ((Zs [] : Nat) : Int), 0, 0] : List Int) = ZjM := rfl
 have ht : X.take l.toNat = X := ZOa (by omega)
 have ht2 : (X ++ [ZjM]).take (l + 1).toNat = X ++ [ZjM] := ZOa (by rw [ZN3, ZNM]; omega)
 have ht3 : (X ++ [ZjM] ++ [ZjM]).take (l + 2).toNat = X ++ [ZjM] ++ [ZjM] := ZOa (by rw [ZN3, ZN3, ZNM]; omega)
 simp only [m0, ht, ht2, ht3, ZN3, ZNM]
 repeat' (first | exact trivial | omega | apply And.intro | intro _)
 simp [ZjM]
theorem ZKe (S : Sig GG) (hS : JbSig S) : Zy S Tryz.prog 11 Ztt := by
 refine Ze S (C := ZJ6) (fuel := 12) (ZQ trivial ⟨⟨trivial, trivial⟩, trivial⟩ trivial) fun ρ => ?_
 rw [ZK9]
 simp only [ZMG, Zfb, ZG9, ZJh, ZCg, ZrF, ZIq, Zrw, ZGw, ZF6, ZEu, Zww, Zzy, Zwj, ZAE, Zz0, Zw6, ZAy, ZuI, ZwG, Zwu, hS.u535, VC.den, SX.den, Env.upd, ZS, ZD, beq_iff_eq, ZNX, beq_eq_false_iff_ne, ne_eq, ZNW, ZNV, Int.reduceToNat, Nat.reduceEqDiff, reduceIte, sB, sC]
 generalize (ρ 9).tR = H
 generalize (ρ 1).tR = X
 generalize (ρ 2).tI = l
 generalize (ρ 7).tI = m
 intro h1 h2 h3 h4 h5 h6 h7 h8 h9 h10
 subst h4
 refine ⟨trivial, fun _ => ⟨by omega, by omega, by omega, by omega, by omega, trivial, fun i _ _ => rfl, fun x Y hx0 hx1 hY hE => ⟨fun hlt _ _ => ?_, fun _ => trivial⟩⟩⟩
 obtain ⟨n, rfl⟩ := ZNQ hx0
 simp only [ZN5]
 have hset : ∀ r : Ent, ∀ i : Nat, (n : Int) + 1 <= i -> (i : Int) < l + 3 -> eqE (xa (Y.set n r) i) (xa X i) := fun r i hi1 hi2 => by
  rw [ZAb (by omega)]; exact hE i (by omega) hi2
 have hn := hE n (by omega) (by omega)
 refine ⟨fun hl => ⟨by omega, by omega, by omega, by omega, by omega, by omega, by omega, fun i hi1 hi2 => hset _ i hi1 hi2, Zp8 (hn.trans (h5 n (by omega) hl)), trivial⟩, fun hl => ⟨by omega, by omega, by omega, by omega, by omega, by omega, fun i hi1 hi2 => hset _ i hi1 hi2, ?_, trivial⟩⟩
 have hq := hn.trans (h6 n hl (by omega))
 have hm : xa (H ++ [[-7, 0, 0, 0, 0, 0], [-7, 0, 0, 0, 0, 0], [-7, 0, 0, 0, 0, 0]]) n = ZjM := by
  unfold xa
  rw [ZNY, ZOh (by omega)]
  have : n - H.length = 0 \/ n - H.length = 1 \/ n - H.length = 2 := by omega
  rcases this with e | e | e <;> rw [e] <;> rfl
 rw [hm] at hq
 exact Zp8 hq
structure Bk where
 txs : List Tx
 kept : List Nat
 out : List Ent
 fal : List Nat
 fault : Int
 what : Int
def bk0 : Bk := ⟨[], [], [], [], -1, 0⟩
def ixL (w : Int) : List Tx -> Nat
 | [] => 0
 | t :: l => bif t.who == w then 0 else ixL w l + 1
def rdT (t : Tx) (i : Int) (x : Ent) : Tx := if Zx t.ch (kc x) = true then (if ZZ t.ch x = true then t else { t with bad := t.bad ++ [i] }) else { t with rds := t.rds ++ [i :: nr x] }
def Bk.flt (B : Bk) (i w : Int) : Bk := { B with fault := i, what := w }
def Zl7 : List Tx -> Nat -> List Nat
 | [], _ => []
 | t :: l, n => bif t.opn then n :: Zl7 l (n + 1) else Zl7 l (n + 1)
def YG (B : Bk) (i : Int) (x : Ent) : Bk :=
 let j := ixL (xw x) B.txs
 let t := B.txs.getD j tx0
 let op := decide (j < B.txs.length) && t.opn
 if xk x = 1 then (if j < B.txs.length then B.flt i 1 else { B with txs := B.txs ++ [⟨xw x, i, -1, true, [], [], []⟩], fal := [] })
 else if xk x = 2 then (if xw x = 0 then { B with out := B.out ++ [i :: nr x], fal := [] } else if op = true then { B with txs := B.txs.set j (rdT t i x), fal := [] } else B.flt i 1)
 else if xk x = 3 \/ xk x = 4 then (if op = true then { B with txs := B.txs.set j { t with ch := Yw t.ch (kc x) ((Zs (ZaB x) : Nat) * 2 + b01 (xk x == 4)) } } else B.flt i 1)
 else if xk x = 6 then (if op = true then { B with txs := B.txs.set j { t with opn := false } } else B.flt i 1)
 else if xk x = 5 then (if (op = false /\ ¬ j ∈ B.fal) \/ 0 <= t.com then B.flt i 1 else if ¬ xt x = B.kept.length + 1 then B.flt i 2 else { B with txs := B.txs.set j { t with opn := false, com := i }, kept := B.kept ++ [j] })
 else if xk x = 7 then { B with txs := B.txs.map fun t => { t with opn := false }, fal := Zl7 B.txs 0 }
 else B
def Z4 (h : List Ent) : Nat -> Bk
 | 0 => bk0
 | n + 1 => if 0 <= (Z4 h n).fault then Z4 h n else YG (Z4 h n) n (xa h n)
/-! ### In memory -/
def g3 (r : List Int) : Int := r.getD 3 0
def g4 (r : List Int) : Int := r.getD 4 0
def g5 (r : List Int) : Int := r.getD 5 0
def rE : En := .rows (.int .i64 :: hF)
def mapV (b : Int) : Value := .map (if b < 0 then none else some b.toNat)
def ZEe (b : Int) (who beg com : Int) (opn : Bool) (mb rb rl rc bb bl bc : Int) : HProp := fun h => (0 <= b \/ False) /\ row b.toNat 0 [.int .i64 who, .int .i64 beg, .int .i64 com, .bool opn, mapV mb, slV rb rl rc, slV bb bl bc] true h
def Zuz (b : Int) (m : List (Int × Int)) : HProp := fun h => 0 <= b /\ ∃ es clock, Ze9 .str .sb es clock m /\ Zem b.toNat (.map es clock) h
def ZcX (r : List Int) (t : Tx) : HProp := Zc (ZEe (g0 r) t.who t.beg t.com t.opn (g1 r) (g2 r) (t.rds.length : Nat) (g3 r) (g4 r) (t.bad.length : Nat) (g5 r)) (Zc (Zuz (g1 r) t.ch) (Zc (rAD rE (g2 r) t.rds (g3 r)) (iAD (g4 r) t.bad (g5 r))))
def Zec : List (List Int) -> List Tx -> HProp
 | [], [] => emp
 | r :: rs, t :: ts => Zc (ZcX r t) (Zec rs ts)
 | _, _ => fun _ => False
def ZMa (i : Int) (R : List (List Int)) (L : List Tx) : HProp := Zc (Zec (R.take i.toNat) (L.take i.toNat)) (Zec (R.drop (i.toNat + 1)) (L.drop (i.toNat + 1)))
def ZBf (R : List (List Int)) (i : Int) (r : List Int) : List (List Int) := R.take i.toNat ++ r :: R.drop (i.toNat + 1)
def setT (L : List Tx) (i : Int) (t : Tx) : List Tx := L.take i.toNat ++ t :: L.drop (i.toNat + 1)
def plOk (R : List (List Int)) (L : List Tx) : Prop := R.length = L.length /\ (R.map g0).Nodup /\ ∀ r ∈ R, 0 <= g0 r
def Zez (R : List (List Int)) (L : List Tx) : List (Int × Int) := (L.zip R).map fun p => (p.1.who, g0 p.2)
def Zbh (R : List (List Int)) (ks : List Nat) : List (List Int) := ks.map fun k => [g0 (R.getD k [])]
def ZrZ (t : Tx) (m : List (Int × Int)) (p : List Int) : Tx := { t with ch := m, com := p.getD 0 0, opn := p.getD 1 0 == 1 }
def Zzm (t : Tx) (r : List Ent) (b : List Int) : Tx := { t with rds := r, bad := b }
def ZcT (l : Int) : List (List Int) -> Nat
 | [] => 0
 | r :: R => bif g0 r == l then 0 else ZcT l R + 1
def Zn4 (R : List (List Int)) (b : Int) : Prop := ∃ k, k < R.length /\ b = g0 (R.getD k [])
def Zhe (R : List (List Int)) (L : List Tx) (i : Nat) : HProp := ZEe (g0 (R.getD i [])) (L.getD i tx0).who (L.getD i tx0).beg (L.getD i tx0).com (L.getD i tx0).opn (g1 (R.getD i [])) (g2 (R.getD i [])) ((L.getD i tx0).rds.length : Nat) (g3 (R.getD i [])) (g4 (R.getD i [])) ((L.getD i tx0).bad.length : Nat) (g5 (R.getD i []))
def ZJv (v y : Int) (R : List (List Int)) (L : List Tx) : HProp := fun h => ∀ h', Hl.Disj h h' -> Zc (Zhe R L (ZcT v R)) (Zhe R L (ZcT y R)) h' -> Zec R L (Hl.un h h')
def atT (L : List Tx) (i : Int) : Tx := L.getD i.toNat tx0
def Zce (L : List Tx) (left : List (Int × Int)) : List Tx := L.map fun t => if Zx left t.who = true then t else { t with opn := false }
def Zcb (left : List (Int × Int)) : List Tx -> Nat -> List Nat
 | [], _ => []
 | t :: l, n => if t.opn = true /\ Zx left t.who = false then n :: Zcb left l (n + 1) else Zcb left l (n + 1)
def ZKW (b : Int) (m : List (Int × Int)) : HProp := fun h => 0 <= b /\ ∃ es clock, Ze9 (.int .i64) (.one .ptr) es clock m /\ Zem b.toNat (.map es clock) h
def celB (b ma kb kl kc ob ol oc ft wt : Int) : HProp := fun h => (0 <= b \/ False) /\ row b.toNat 0 [mapV ma, slV kb kl kc, slV ob ol oc, .int .i64 ft, .int .i64 wt] true h
def bookB (b : Int) (B : Bk) : HProp := fun h => ∃ (ma kb kc ob oc : Int) (R : List (List Int)), Zc (celB b ma kb (B.kept.length : Nat) kc ob (B.out.length : Nat) oc B.fault B.what)
 (Zc (ZKW ma (Zez R B.txs)) (Zc (rAD (.rows [.ptr]) kb (Zbh R B.kept) kc) (Zc (rAD rE ob B.out oc) (Zec R B.txs)))) h
def ZrS (b : Int) (x : List Ent) : HProp := if b < 0 then emp else bookB b (Z4 x x.length)
structure JtSig (S : Sig GG) : Prop where
 jb : JbSig S
 p100 : ∀ w0 k x, S.prd 100 w0 k x = Zec k.tR (ZK x)
 p101 : ∀ w0 k x, S.prd 101 w0 k x = ZMa (g0 (k.tR.getD 0 [])) (k.tR.drop 1) (ZK x)
 p103 : ∀ w0 k x, S.prd 103 w0 k x = ZrS (g0 (k.tR.getD 0 [])) (k.tR.drop 1)
 u568 : ∀ a b c d, S.usr 568 a b c d = .g (.tx (Zce (ZK a) b.tM))
 u571 : ∀ a b c d, S.usr 571 a b c d = .bool (Zn ((a.tM.map (·.1)).Nodup /\ ∀ k, Zx a.tM k = true -> Zx b.tM k = true))
 u569 : ∀ a b c d, S.usr 569 a b c d = .bool (Zn (a.tR.map g0 = b.tR.map g0))
 u570 : ∀ a b c d, S.usr 570 a b c d = .bool (Zn (d.tR.Perm (Zbh c.tR (Zcb b.tM (ZK a) 0))))
 p102 : ∀ w0 k x, S.prd 102 w0 k x = ZJv (g0 (k.tR.getD 0 [])) (g1 (k.tR.getD 0 [])) (k.tR.drop 1) (ZK x)
 u565 : ∀ a b c d, S.usr 565 a b c d = .bool (Zn (Zn4 a.tR b.tI))
 u566 : ∀ a b c d, S.usr 566 a b c d = .int (ZcT b.tI a.tR : Nat)
 u540 : ∀ a b c d, S.usr 540 a b c d = .int (atT (ZK a) b.tI).who
 u541 : ∀ a b c d, S.usr 541 a b c d = .int (atT (ZK a) b.tI).beg
 u542 : ∀ a b c d, S.usr 542 a b c d = .int (atT (ZK a) b.tI).com
 u543 : ∀ a b c d, S.usr 543 a b c d = .bool (atT (ZK a) b.tI).opn
 u544 : ∀ a b c d, S.usr 544 a b c d = .amap (atT (ZK a) b.tI).ch
 u545 : ∀ a b c d, S.usr 545 a b c d = .rows (atT (ZK a) b.tI).rds
 u546 : ∀ a b c d, S.usr 546 a b c d = .ints (atT (ZK a) b.tI).bad
 u547 : ∀ a b c d, S.usr 547 a b c d = .amap (Zez a.tR (ZK b))
 u548 : ∀ a b c d, S.usr 548 a b c d = .rows (Zbh c.tR (Z4 a.tR b.tI.toNat).kept)
 u549 : ∀ a b c d, S.usr 549 a b c d = .rows (Z4 a.tR b.tI.toNat).out
 u550 : ∀ a b c d, S.usr 550 a b c d = .int (Z4 a.tR b.tI.toNat).fault
 u551 : ∀ a b c d, S.usr 551 a b c d = .int (Z4 a.tR b.tI.toNat).what
 u552 : ∀ a b c d, S.usr 552 a b c d = .int ((ZK a).length : Nat)
 u553 : ∀ a b c d, S.usr 553 a b c d = .int (ixL b.tI (ZK a) : Nat)
 u554 : ∀ a b c d, S.usr 554 a b c d = .rows (ZBf a.tR b.tI c.tN)
 u555 : ∀ a b c d, S.usr 555 a b c d = .g (.tx (setT (ZK a) b.tI (ZrZ (atT (ZK a) b.tI) c.tM d.tN)))
 u556 : ∀ a b c d, S.usr 556 a b c d = .g (.tx (setT (ZK a) b.tI (Zzm (atT (ZK a) b.tI) c.tR d.tN)))
 u557 : ∀ a b c d, S.usr 557 a b c d = .g (.tx (ZK a ++ [⟨b.tI, c.tI, -1, true, [], [], []⟩]))
 u558 : ∀ a b c d, S.usr 558 a b c d = .bool (Zn (plOk a.tR (ZK b)))
 u559 : ∀ a b c d, S.usr 559 a b c d = .bool (Zn (d.tR.Perm (Zbh c.tR (Z4 a.tR b.tI.toNat).fal)))
 u560 : ∀ a b c d, S.usr 560 a b c d = .bool (Zn (∀ r ∈ a.tR, ∃ b', r = [b'] /\ Zn4 b.tR b'))
 u561 : ∀ a b c d, S.usr 561 a b c d = .g (.tx (Z4 a.tR b.tI.toNat).txs)
 u562 : ∀ a b c d, S.usr 562 a b c d = .bool (Zn ([b.tI] ∈ a.tR))
 u563 : ∀ a b c d, S.usr 563 a b c d = .rows (if Zx a.tM (kc b.tN) = true then c.tR else c.tR ++ [d.tI :: nr b.tN])
 u564 : ∀ a b c d, S.usr 564 a b c d = .ints (if Zx a.tM (kc b.tN) = true /\ ZZ a.tM b.tN = false then c.tN ++ [d.tI] else c.tN)
theorem JtSig.of {S T : Sig GG} (h : JtSig S) (hu : T.usr = S.usr) (hp : T.prd = S.prd) : JtSig T := by
 constructor
 ·exact h.jb.of hu
 all_goals first | (rw [hp]; first | exact h.p100 | exact h.p101 | exact h.p102 | exact h.p103) | (rw [hu]; first | exact h.u568 | exact h.u569 | exact h.u570 | exact h.u571 | exact h.u565 | exact h.u566 | exact h.u540 | exact h.u541 | exact h.u542 | exact h.u543 | exact h.u544 | exact h.u545 | exact h.u546 | exact h.u547 | exact h.u548 | exact h.u549 | exact h.u550 | exact h.u551 | exact h.u552 | exact h.u553 | exact h.u554 | exact h.u555 | exact h.u556 | exact h.u557 | exact h.u558 | exact h.u559 | exact h.u560 | exact h.u561 | exact h.u562 | exact h.u563 | exact h.u564)
def txC (R g : SX) : Ch := .prd 100 R g
def txO (i R g : SX) : Ch := .prd 101 (Zz (Zss i) R) g
def usM (k : Nat) (a b : SX) : SX := .us .amap k a b z0 z0
def rAr (b x c : SX) : Ch := .arr rE b x c
def ZBO (who beg com : SX) (opn : SX) (mb rb rl rc bb bl bc : SX) : List SC := [.int .i64 who, .int .i64 beg, .int .i64 com, .bool opn, .map mb, slC rb rl rc 7, sl1 bb bl bc]
def txQ (R g i : SX) : List SC := ZBO (usI 540 g i z0) (usI 541 g i z0) (usI 542 g i z0) (usB 543 g i z0) (nt R i 1) (nt R i 2) (Zj (usR 545 g i z0)) (nt R i 3) (nt R i 4) (Z1 (usN 546 g i z0)) (nt R i 5)
def txP (b R g i : SX) : List Ch := [.cel b 0 (txQ R g i), scC (nt R i 1) (usM 544 g i), rAr (nt R i 2) (usR 545 g i z0) (nt R i 3), iAr (nt R i 4) (usN 546 g i z0) (nt R i 5)]
def ixW (g w : SX) : SX := usI 553 g w z0
def ZNn (R g i : SX) : List SX := [eLe (Zj (usR 545 g i z0)) (nt R i 3), eLe (Z1 (usN 546 g i z0)) (nt R i 5), .f2 50 (eLe z0 (nt R i 2)) (.f2 45 (Zj (usR 545 g i z0)) z0), .f2 50 (eLe z0 (nt R i 4)) (.f2 45 (Z1 (usN 546 g i z0)) z0), eLe z0 (nt R i 1), eLe z0 (nt R i 0), .f2 45 (Zj R) (usI 552 g z0 z0)]
def ZBH : Ctr := ⟨[.int, .int, .rows, .g], [.one (.ptr (ai 0) 0), .one (.int .i64 (ai 1))], [txC (rA 2) (gA 3)], [eLt (ixW (gA 3) (ai 1)) (usI 552 (gA 3) z0 z0), .f2 45 (ai 0) (nt (rA 2) (ixW (gA 3) (ai 1)) 0)], [], .tup [],
 txP (ai 0) (rA 2) (gA 3) (ixW (gA 3) (ai 1)) ++ [txO (ixW (gA 3) (ai 1)) (rA 2) (gA 3)], ZNn (rA 2) (gA 3) (ixW (gA 3) (ai 1))⟩
def ZjV : Ctr := ⟨[.int, .int, .rows, .g], [.one (.ptr (ai 0) 0)], txO (ai 1) (rA 2) (gA 3) :: txP (ai 0) (rA 2) (gA 3) (ai 1), [.f2 45 (Zj (rA 2)) (usI 552 (gA 3) z0 z0), eLe z0 (ai 1), eLt (ai 1) (usI 552 (gA 3) z0 z0), .f2 45 (ai 0) (nt (rA 2) (ai 1) 0)], [], .tup [], [txC (rA 2) (gA 3)], []⟩
def Zm0 : Ctr := ⟨[.int, .int, .rows, .g, .int, .int, .int, .bool, .int, .int, .int, .int, .int, .amap, .rows, .ints, .int, .int], [.one (.ptr (ai 0) 0)],
 [txO (ai 1) (rA 2) (gA 3), .cel (ai 0) 0 (ZBO (ai 4) (ai 5) (ai 6) (qA 7) (ai 8) (ai 9) (ai 16) (ai 10) (ai 11) (ai 17) (ai 12)), scC (ai 8) (mA 13), rAr (ai 9) (rA 14) (ai 10), iAr (ai 11) (iA 15) (ai 12)],
 [.f2 45 (Zj (rA 2)) (usI 552 (gA 3) z0 z0), eLe z0 (ai 1), eLt (ai 1) (usI 552 (gA 3) z0 z0), .f2 45 (ai 4) (usI 540 (gA 3) (ai 1) z0), .f2 45 (ai 5) (usI 541 (gA 3) (ai 1) z0), .f2 45 (ai 16) (Zj (rA 14)), .f2 45 (ai 17) (Z1 (iA 15))], [], .tup [],
 [txC (usR 554 (rA 2) (ai 1) (Zca (ai 0) (ai 8) (ai 9) (ai 10) (ai 11) (ai 12))) (.us .g 556 (.us .g 555 (gA 3) (ai 1) (mA 13) (ZT (ai 6) (.f1 3 (qA 7)))) (ai 1) (rA 14) (iA 15))], []⟩
def adTC : Ctr := ⟨[.int, .rows, .g, .int, .int, .int], [.one (.ptr (ai 0) 0)],
 [.cel (ai 0) 0 [.int .i64 (ai 3), .int .i64 (ai 4), .int .i64 (.int (-1)), .bool (.bool true), .map (ai 5), slC (.int (-1)) z0 z0 1, sl1 (.int (-1)) z0 z0], scC (ai 5) (.f1 155 z0), txC (rA 1) (gA 2)], [], [], .tup [],
 [txC (.f2 121 (rA 1) (Zz (Zca (ai 0) (ai 5) (.int (-1)) z0 (.int (-1)) z0) Zdu)) (usG 557 (gA 2) (ai 3) (ai 4))], []⟩
def pE : En := .rows [.ptr]
def ixB (R b : SX) : SX := usI 566 R b z0
def twC (v y R g : SX) : Ch := .prd 102 (Zz (ZT v y) R) g
def ZCG : Ctr := ⟨[.int, .int, .int, .int, .int, .rows, .int, .rows, .g], [.one (slC (ai 0) (ai 1) (ai 2) 1), .one (.int .i64 (ai 3)), .one (.ptr (ai 4) 0)], [.arr pE (ai 0) (rA 5) (ai 6), txC (rA 7) (gA 8)],
 [usB 565 (rA 7) (ai 4) z0, usB 565 (rA 7) (nt (rA 5) (ai 3) 0) z0, .f1 2 (.f2 45 (ai 4) (nt (rA 5) (ai 3) 0))], [], .tup [],
 [.arr pE (ai 0) (rA 5) (ai 6), .cel (ai 4) 0 (txQ (rA 7) (gA 8) (ixB (rA 7) (ai 4))), .cel (nt (rA 5) (ai 3) 0) 0 (txQ (rA 7) (gA 8) (ixB (rA 7) (nt (rA 5) (ai 3) 0))), twC (ai 4) (nt (rA 5) (ai 3) 0) (rA 7) (gA 8)], []⟩
def ZB6 : Ctr := ⟨[.int, .int, .rows, .g], [.one (.ptr (ai 0) 0)], [twC (ai 0) (ai 1) (rA 2) (gA 3), .cel (ai 0) 0 (txQ (rA 2) (gA 3) (ixB (rA 2) (ai 0))), .cel (ai 1) 0 (txQ (rA 2) (gA 3) (ixB (rA 2) (ai 1)))],
 [usB 565 (rA 2) (ai 0) z0, usB 565 (rA 2) (ai 1) z0], [], .tup [], [txC (rA 2) (gA 3)], []⟩
def ZLz : Ctr := ⟨[.rows, .g], [], [txC (rA 0) (gA 1)], [], [], .tup [], [txC (rA 0) (gA 1)], [usB 558 (rA 0) (gA 1) z0]⟩
def ZqW : Ctr := ⟨[.int, .rows, .g], [.one (.ptr (ai 0) 0)], [txC (rA 1) (gA 2)], [usB 565 (rA 1) (ai 0) z0], [], .tup [],
 txP (ai 0) (rA 1) (gA 2) (ixB (rA 1) (ai 0)) ++ [txO (ixB (rA 1) (ai 0)) (rA 1) (gA 2)], .f2 45 (ai 0) (nt (rA 1) (ixB (rA 1) (ai 0)) 0) :: eLt (ixB (rA 1) (ai 0)) (usI 552 (gA 2) z0 z0) :: ZNn (rA 1) (gA 2) (ixB (rA 1) (ai 0))⟩
def pAr (b x c : SX) : Ch := .arr pE b x c
def ZD7 : Ctr := ⟨[], [], [], [], [], .tup [], [pAr (.int (-1)) Zdu z0], []⟩
def ZJK : Ctr := ⟨[], [], [], [], [], .tup [], [rAr (.int (-1)) Zdu z0], []⟩
def bkC (b x : SX) : Ch := .prd 103 (Zz (Zss b) x) z0
def imC (b m : SX) : Ch := .map (.int .i64) (.one .ptr) b m
def bkQ (ma kb kl kc ob ol oc ft wt : SX) : List SC := [.map ma, slC kb kl kc 1, slC ob ol oc 7, .int .i64 ft, .int .i64 wt]
def xX : SX := tk (rA 4) (ai 2)
def ZJC : Ctr := ⟨hA ++ [.int], [.one (hS 0), .one (.ptr (ai 6) 0)], [hC 0 0], [eLt (ai 6) z0], [], .tup [], [hC 0 0, bkC (ai 6) xX], []⟩
def Zsd : Ctr := ⟨hA ++ [.int, .int, .int, .int, .int, .int, .int, .int, .int, .int, .rows, .g, .amap, .rows, .rows], [.one (hS 0), .one (.ptr (ai 6) 0)],
 [hC 0 0, .cel (ai 6) 0 (bkQ (ai 7) (ai 8) (ai 9) (ai 10) (ai 11) (ai 12) (ai 13) (ai 14) (ai 15)), imC (ai 7) (mA 18), pAr (ai 8) (rA 19) (ai 10), rAr (ai 11) (rA 20) (ai 13), txC (rA 16) (gA 17)],
 [eLe z0 (ai 6), eqS (gA 17) (usG 561 xX (Zj xX) z0), eqS (mA 18) (.us .amap 547 (rA 16) (gA 17) z0 z0), eqS (rA 19) (usR 548 xX (Zj xX) (rA 16)), eqS (rA 20) (usR 549 xX (Zj xX) z0), .f2 45 (ai 9) (Zj (rA 19)), .f2 45 (ai 12) (Zj (rA 20)),
  .f2 45 (ai 14) (usI 550 xX (Zj xX) z0), .f2 45 (ai 15) (usI 551 xX (Zj xX) z0)], [], .tup [], [hC 0 0, bkC (ai 6) xX], []⟩
def emTC : Ctr := ⟨[], [], [], [], [], .tup [], [txC Zdu (usG 561 Zdu z0 z0)], []⟩
theorem Za4 : ∀ {k : List (List Int)} {q : List Tx} {h : Hl}, Zec k q h -> k.length = q.length
 | [], [], _, _ => rfl
 | r :: k, p :: q, h, hx => by
  obtain ⟨a, b, _, _, _, hb⟩ := hx
  rw [ZOi, ZOi, Za4 hb]
 | [], _ :: _, _, hx => hx.elim
 | _ :: _, [], _, hx => hx.elim
theorem ZdC : ∀ {a : List (List Int)} {c : List Tx} (b : List (List Int)) (d : List Tx), a.length = c.length -> Zec (a ++ b) (c ++ d) = Zc (Zec a c) (Zec b d)
 | [], [], b, d, _ => by rw [List.nil_append, List.nil_append]; show _ = Zc emp _; rw [emp_star]
 | r :: a, p :: c, b, d, h => by
  rw [List.cons_append, List.cons_append]
  show Zc _ (Zec (a ++ b) (c ++ d)) = Zc (Zc _ (Zec a c)) (Zec b d)
  rw [ZdC b d (by simpa using h), star_assoc]
 | [], _ :: _, _, _, h => by simp at h
 | _ :: _, [], _, _, h => by simp at h
theorem ZpV (r : List Int) (p : Tx) : Zec [r] [p] = ZcX r p := by
 show Zc _ emp = _
 rw [Zf]
theorem ZqK {R : List (List Int)} {L : List Tx} {i : Int} (hl : R.length = L.length) (h0 : 0 <= i) (hi : i < R.length) (r : List Int) (t : Tx) :
  Zec (ZBf R i r) (setT L i t) = Zc (ZMa i R L) (ZcX r t) := by
 unfold ZBf setT ZMa
 rw [<- List.singleton_append, <- List.singleton_append (l := L.drop _), ZdC _ _ (by rw [ZN0, ZN0]; omega), ZdC _ _ (show [r].length = [t].length from rfl), ZpV, star_assoc, ZF (ZcX _ _)]
theorem Zqk {α : Type} {R : List α} {d : α} {i : Nat} (hi : i < R.length) : R.take i ++ R.getD i d :: R.drop (i + 1) = R := by
 have := Zjp (d := d) hi
 rw [List.singleton_append] at this
 exact this.symm
theorem Zg5 {R : List (List Int)} {L : List Tx} {i : Int} (hl : R.length = L.length) (h0 : 0 <= i) (hi : i < R.length) : Zec R L = Zc (ZMa i R L) (ZcX (R.getD i.toNat []) (atT L i)) := by
 rw [<- ZqK hl h0 hi]
 unfold ZBf setT atT
 rw [Zqk (by omega), Zqk (by omega)]
theorem ZdR (T : Sig GG) (ρ : Go.Eng.Env GG) (w0 : World) (b who beg com opn mb rb rl rc bb bl bc : SX) : (Ch.cel b 0 (ZBO who beg com opn mb rb rl rc bb bl bc)).den T ρ w0 =
  ZEe (b.den T ρ).tI (who.den T ρ).tI (beg.den T ρ).tI (com.den T ρ).tI (opn.den T ρ).toBool (mb.den T ρ).tI (rb.den T ρ).tI (rl.den T ρ).tI (rc.den T ρ).tI (bb.den T ρ).tI (bl.den T ρ).tI (bc.den T ρ).tI := by
 simp only [ZBO, Ch.den, ZN7, List.map_nil, sl1, ZcI, SC.den, reduceCtorEq]
 rfl
theorem Zmq (T : Sig GG) (ρ : Go.Eng.Env GG) (w0 : World) (b m : SX) : (scC b m).den T ρ w0 = Zuz (b.den T ρ).tI (m.den T ρ).tM := rfl
theorem Zi9 (T : Sig GG) (ρ : Go.Eng.Env GG) (w0 : World) (b x c : SX) : (rAr b x c).den T ρ w0 = rAD rE (b.den T ρ).tI (x.den T ρ).tR (c.den T ρ).tI := rfl
theorem Zxo (T : Sig GG) (ρ : Go.Eng.Env GG) (w0 : World) (b x c : SX) : (iAr b x c).den T ρ w0 = iAD (b.den T ρ).tI (x.den T ρ).tN (c.den T ρ).tI := rfl
theorem ZgJ (T : Sig GG) (ρ : Go.Eng.Env GG) (R i : SX) (k : Nat) : (nt R i k).den T ρ = .int (((R.den T ρ).tR.getD (i.den T ρ).tI.toNat []).getD k 0) := by
 show (ap3 112 (R.den T ρ) (i.den T ρ) (U.int (k : Int))) = _
 rw [ZbK]; rfl
theorem ZwE {T : Sig GG} (hT : JtSig T) (ρ : Go.Eng.Env GG) (w0 : World) (b R g i : SX) (hb : (b.den T ρ).tI = g0 ((R.den T ρ).tR.getD (i.den T ρ).tI.toNat [])) :
  hpDen T ρ w0 (txP b R g i) = ZcX ((R.den T ρ).tR.getD (i.den T ρ).tI.toNat []) (atT (ZK (g.den T ρ)) (i.den T ρ).tI) := by
 have e : hpDen T ρ w0 (txP b R g i) = Zc ((Ch.cel b 0 (txQ R g i)).den T ρ w0) (Zc ((scC (nt R i 1) (usM 544 g i)).den T ρ w0) (Zc ((rAr (nt R i 2) (usR 545 g i z0) (nt R i 3)).den T ρ w0) (Zc ((iAr (nt R i 4) (usN 546 g i z0) (nt R i 5)).den T ρ w0) emp))) := rfl
 rw [e, Zf, txQ, ZdR, Zmq, Zi9, Zxo]
 simp only [ZgJ, usI, usB, usR, usN, usM, Zj, Z1, SX.den, hT.u540, hT.u541, hT.u542, hT.u543, hT.u544, hT.u545, hT.u546, Zt, YZ, Zku, ZC, Z9, ZeP, Yf, U.tIi, U.tQi, U.tMi, U.tRi, U.tNi]
 rw [hb]
 rfl
theorem Zdc {r : List Int} {t : Tx} {h : Hl} (hi : ZcX r t h) : ((t.rds.length : Nat) : Int) <= g3 r /\ ((t.bad.length : Nat) : Int) <= g5 r /\ (0 <= g2 r \/ ((t.rds.length : Nat) : Int) = 0) /\ (0 <= g4 r \/ ((t.bad.length : Nat) : Int) = 0) /\ 0 <= g1 r /\ 0 <= g0 r := by
 obtain ⟨a, b, _, _, ha, hb⟩ := hi
 obtain ⟨c, d, _, _, hc, hd⟩ := hb
 obtain ⟨e, f, _, _, he, hf⟩ := hd
 have h1 := ZDU (by decide) he
 have h2 := ZEf hf
 refine ⟨h1, h2, ?_, ?_, hc.1, by simpa using ha.1⟩
 ·obtain ⟨_, _, _, q, _⟩ := he
  rcases q with q | q
  ·exact .inl q
  ·exact .inr (by have : g3 r = 0 := q; omega)
 ·obtain ⟨_, _, _, q, _⟩ := hf
  rcases q with q | q
  ·exact .inl q
  ·exact .inr (by have : g5 r = 0 := q; omega)
theorem ZCS {T : Sig GG} (hT : JtSig T) (ρ : Go.Eng.Env GG) (R g i : SX) {h : Hl} (hl : (R.den T ρ).tR.length = (ZK (g.den T ρ)).length) (hi : ZcX ((R.den T ρ).tR.getD (i.den T ρ).tI.toNat []) (atT (ZK (g.den T ρ)) (i.den T ρ).tI) h) : ∀ e ∈ ZNn R g i, (e.den T ρ).tP := by
 obtain ⟨f1, f2, f3, f4, f5, f6⟩ := Zdc hi
 have w1 : ((Zj (usR 545 g i z0)).den T ρ).tI = ((atT (ZK (g.den T ρ)) (i.den T ρ).tI).rds.length : Nat) := by
  simp only [Zj, usR, SX.den, hT.u545, ZC, Yf, U.tIi, U.tRi]
 have w2 : ((Z1 (usN 546 g i z0)).den T ρ).tI = ((atT (ZK (g.den T ρ)) (i.den T ρ).tI).bad.length : Nat) := by
  simp only [Z1, usN, SX.den, hT.u546, Z9, ZeP, U.tIi, U.tNi]
 have n0 : ∀ k, ((nt R i k).den T ρ).tI = (((R.den T ρ).tR.getD (i.den T ρ).tI.toNat []).getD k 0) := fun k => by rw [ZgJ]; rfl
 have z : (z0.den T ρ).tI = 0 := rfl
 intro e he
 simp only [ZNn, List.mem_cons, List.not_mem_nil, or_false] at he
 rcases he with rfl | rfl | rfl | rfl | rfl | rfl | rfl
 ·rw [Zh, w1, n0]; exact f1
 ·rw [Zh, w2, n0]; exact f2
 ·simp only [SX.den, p50]
  rcases f3 with q | q
  ·left; show ((eLe z0 (nt R i 2)).den T ρ).tP; rw [Zh, n0, z]; exact q
  ·right; show (ap2 45 ((Zj (usR 545 g i z0)).den T ρ) (z0.den T ρ)).tP; rw [p45, w1, z]; exact q
 ·simp only [SX.den, p50]
  rcases f4 with q | q
  ·left; show ((eLe z0 (nt R i 4)).den T ρ).tP; rw [Zh, n0, z]; exact q
  ·right; show (ap2 45 ((Z1 (usN 546 g i z0)).den T ρ) (z0.den T ρ)).tP; rw [p45, w2, z]; exact q
 ·rw [Zh, n0, z]; exact f5
 ·rw [Zh, n0, z]; exact f6
 ·simp only [Zj, usI, SX.den, hT.u552, p45, Yf, U.tIi, Zt]; rw [hl]
theorem Zwq {T : Sig GG} (hT : JtSig T) (ρ : Go.Eng.Env GG) (w0 : World) (b R g i : SX) {h : Hl} (h0 : 0 <= (i.den T ρ).tI) (h1 : (i.den T ρ).tI < ((ZK (g.den T ρ)).length : Nat))
  (hb : (b.den T ρ).tI = ((nt R i 0).den T ρ).tI) (hp : Zec (R.den T ρ).tR (ZK (g.den T ρ)) h) : hpDen T ρ w0 (txP b R g i ++ [txO i R g]) h /\ ∀ e ∈ ZNn R g i, (e.den T ρ).tP := by
 have hl := Za4 hp
 rw [Zg5 hl h0 (by omega)] at hp
 rw [ZgJ] at hb
 have hb : (b.den T ρ).tI = g0 ((R.den T ρ).tR.getD (i.den T ρ).tI.toNat []) := hb
 have e : hpDen T ρ w0 (txP b R g i ++ [txO i R g]) = Zc (hpDen T ρ w0 (txP b R g i)) (Zc (T.prd 101 w0 ((Zz (Zss i) R).den T ρ) (g.den T ρ)) emp) := by
  unfold hpDen; rw [ZOe, ZcJ]; rfl
 rw [e, Zf, ZwE hT ρ w0 b R g i hb, hT.p101]
 have k2 : ((Zz (Zss i) R).den T ρ).tR = [(i.den T ρ).tI] :: (R.den T ρ).tR := rfl
 rw [k2]
 refine ⟨by rw [ZF]; exact hp, ?_⟩
 obtain ⟨_, _, _, _, _, hi⟩ := hp
 exact ZCS hT ρ R g i hl hi
theorem Zl5 (S : Sig GG) (hS : JtSig S) : Zbm S ZBH := by
 refine Yp S fun T w0 ρ h hu hp hd hr hpre => ⟨ρ, Ext.refl _ _, ?_⟩
 have hT := hS.of hu hp
 have e1 : hpDen T ρ w0 ZBH.pre = Zc (T.prd 100 w0 ((rA 2).den T ρ) ((gA 3).den T ρ)) emp := rfl
 rw [e1, Zf, hT.p100] at hpre
 have r1 := hr (eLt (ixW (gA 3) (ai 1)) (usI 552 (gA 3) z0 z0)) (by simp [ZBH])
 have r2 := hr (.f2 45 (ai 0) (nt (rA 2) (ixW (gA 3) (ai 1)) 0)) (by simp [ZBH])
 have hix : ((ixW (gA 3) (ai 1)).den T ρ).tI = (ixL (ρ 1).tI (ZK ((gA 3).den T ρ)) : Nat) := by
  simp only [ixW, usI, SX.den, hT.u553, Zt, U.tIi]; rfl
 rw [Yu] at r1
 have e552 : ((usI 552 (gA 3) z0 z0).den T ρ).tI = ((ZK ((gA 3).den T ρ)).length : Nat) := by
  simp only [usI, SX.den, hT.u552, Zt, U.tIi]
 rw [e552] at r1
 have r2 : (ap2 45 ((ai 0).den T ρ) ((nt (rA 2) (ixW (gA 3) (ai 1)) 0).den T ρ)).tP := r2
 rw [p45] at r2
 exact Zwq hT ρ w0 (ai 0) (rA 2) (gA 3) (ixW (gA 3) (ai 1)) (by rw [hix]; omega) r1 r2 hpre
theorem Zcr (S : Sig GG) (hS : JtSig S) : Zbm S ZjV := by
 refine Yp S fun T w0 ρ h hu hp hd hr hpre => ⟨ρ, Ext.refl _ _, ?_, (fun x hx => nomatch hx)⟩
 have hT := hS.of hu hp
 have e1 : hpDen T ρ w0 ZjV.pre = Zc (T.prd 101 w0 ((Zz (Zss (ai 1)) (rA 2)).den T ρ) ((gA 3).den T ρ)) (hpDen T ρ w0 (txP (ai 0) (rA 2) (gA 3) (ai 1))) := rfl
 have e2 : hpDen T ρ w0 ZjV.post = Zc (T.prd 100 w0 ((rA 2).den T ρ) ((gA 3).den T ρ)) emp := rfl
 have r0 := hr (eLe z0 (ai 1)) (by simp [ZjV])
 have r1 := hr (eLt (ai 1) (usI 552 (gA 3) z0 z0)) (by simp [ZjV])
 have r2 := hr (.f2 45 (ai 0) (nt (rA 2) (ai 1) 0)) (by simp [ZjV])
 rw [Zh] at r0
 rw [Yu] at r1
 simp only [usI, SX.den, hT.u552, Zt, U.tIi] at r1
 have r2 : (ap2 45 ((ai 0).den T ρ) ((nt (rA 2) (ai 1) 0).den T ρ)).tP := r2
 rw [p45, ZgJ] at r2
 have k2 : ((Zz (Zss (ai 1)) (rA 2)).den T ρ).tR = [((ai 1).den T ρ).tI] :: ((rA 2).den T ρ).tR := rfl
 rw [e1, hT.p101, k2, ZwE hT ρ w0 (ai 0) (rA 2) (gA 3) (ai 1) r2] at hpre
 rw [e2, Zf, hT.p100]
 have r0 : 0 <= ((ai 1).den T ρ).tI := r0
 have hl := hr (.f2 45 (Zj (rA 2)) (usI 552 (gA 3) z0 z0)) (by simp [ZjV])
 simp only [Zj, usI, SX.den, hT.u552, p45, Yf, U.tIi, Zt] at hl
 have hl : ((rA 2).den T ρ).tR.length = (ZK ((gA 3).den T ρ)).length := by omega
 rw [Zg5 hl r0 (by omega)]
 exact hpre
theorem Zfi {L : List Tx} {i : Int} {t u : Tx} (h0 : 0 <= i) (hi : i < L.length) : setT (setT L i t) i u = setT L i u /\ atT (setT L i t) i = t := by
 have hl : (L.take i.toNat).length = i.toNat := by rw [ZN0]; omega
 have e1 : (L.take i.toNat ++ t :: L.drop (i.toNat + 1)).take i.toNat = L.take i.toNat := by
  rw [List.take_append_of_le_length (by omega), List.take_take, Nat.min_self]
 have e2 : (L.take i.toNat ++ t :: L.drop (i.toNat + 1)).drop (i.toNat + 1) = L.drop (i.toNat + 1) := by
  rw [List.drop_append, List.drop_of_length_le (by omega), hl, List.nil_append, show i.toNat + 1 - i.toNat = 1 by omega]; rfl
 unfold setT atT
 refine ⟨by rw [e1, e2], ?_⟩
 rw [ZNY, ZOh (by omega), hl, Nat.sub_self]; rfl
theorem Zj2 (S : Sig GG) (hS : JtSig S) : Zbm S Zm0 := by
 refine Yp S fun T w0 ρ h hu hp hd hr hpre => ⟨ρ, Ext.refl _ _, ?_, (fun x hx => nomatch hx)⟩
 have hT := hS.of hu hp
 have e1 : hpDen T ρ w0 Zm0.pre = Zc (T.prd 101 w0 ((Zz (Zss (ai 1)) (rA 2)).den T ρ) ((gA 3).den T ρ)) (Zc ((Ch.cel (ai 0) 0 (ZBO (ai 4) (ai 5) (ai 6) (qA 7) (ai 8) (ai 9) (ai 16) (ai 10) (ai 11) (ai 17) (ai 12))).den T ρ w0) (Zc ((scC (ai 8) (mA 13)).den T ρ w0) (Zc ((rAr (ai 9) (rA 14) (ai 10)).den T ρ w0) (Zc ((iAr (ai 11) (iA 15) (ai 12)).den T ρ w0) emp)))) := rfl
 have e2 : hpDen T ρ w0 Zm0.post = Zc (T.prd 100 w0 ((usR 554 (rA 2) (ai 1) (Zca (ai 0) (ai 8) (ai 9) (ai 10) (ai 11) (ai 12))).den T ρ) ((Go.Eng.SX.us .g 556 (.us .g 555 (gA 3) (ai 1) (mA 13) (ZT (ai 6) (.f1 3 (qA 7)))) (ai 1) (rA 14) (iA 15)).den T ρ)) emp := rfl
 have r0 := hr (eLe z0 (ai 1)) (by simp [Zm0])
 have r1 := hr (eLt (ai 1) (usI 552 (gA 3) z0 z0)) (by simp [Zm0])
 have r4 := hr (.f2 45 (ai 4) (usI 540 (gA 3) (ai 1) z0)) (by simp [Zm0])
 have r5 := hr (.f2 45 (ai 5) (usI 541 (gA 3) (ai 1) z0)) (by simp [Zm0])
 have r6 := hr (.f2 45 (ai 16) (Zj (rA 14))) (by simp [Zm0])
 have r7 := hr (.f2 45 (ai 17) (Z1 (iA 15))) (by simp [Zm0])
 have hl := hr (.f2 45 (Zj (rA 2)) (usI 552 (gA 3) z0 z0)) (by simp [Zm0])
 rw [Zh] at r0
 rw [Yu] at r1
 simp only [usI, SX.den, hT.u552, Zt, U.tIi] at r1
 simp only [Zj, Z1, usI, SX.den, hT.u552, hT.u540, hT.u541, p45, ZeP, Yf, U.tIi, Zt] at hl r4 r5 r6 r7
 have hl : ((rA 2).den T ρ).tR.length = (ZK ((gA 3).den T ρ)).length := by omega
 have r0 : 0 <= ((ai 1).den T ρ).tI := r0
 have k2 : ((Zz (Zss (ai 1)) (rA 2)).den T ρ).tR = [((ai 1).den T ρ).tI] :: ((rA 2).den T ρ).tR := rfl
 have k3 : ((usR 554 (rA 2) (ai 1) (Zca (ai 0) (ai 8) (ai 9) (ai 10) (ai 11) (ai 12))).den T ρ).tR = ZBf ((rA 2).den T ρ).tR ((ai 1).den T ρ).tI [(ρ 0).tI, (ρ 8).tI, (ρ 9).tI, (ρ 10).tI, (ρ 11).tI, (ρ 12).tI] := by
  simp only [usR, SX.den, hT.u554, ZC, U.tRi]; try rfl
 have k4 : ZK ((Go.Eng.SX.us .g 556 (.us .g 555 (gA 3) (ai 1) (mA 13) (ZT (ai 6) (.f1 3 (qA 7)))) (ai 1) (rA 14) (iA 15)).den T ρ) =
   setT (ZK ((gA 3).den T ρ)) ((ai 1).den T ρ).tI (Zzm (ZrZ (atT (ZK ((gA 3).den T ρ)) ((ai 1).den T ρ).tI) (ρ 13).tM [(ρ 6).tI, b01 (ρ 7).toBool]) (ρ 14).tR (ρ 15).tN) := by
  have hw : ZK ((Go.Eng.SX.us .g 555 (gA 3) (ai 1) (mA 13) (ZT (ai 6) (.f1 3 (qA 7)))).den T ρ) = setT (ZK ((gA 3).den T ρ)) ((ai 1).den T ρ).tI (ZrZ (atT (ZK ((gA 3).den T ρ)) ((ai 1).den T ρ).tI) (ρ 13).tM [(ρ 6).tI, b01 (ρ 7).toBool]) := by
   simp only [SX.den, hT.u555, ZL2, ZI]; rfl
  have hw2 : ∀ g : SX, ZK ((Go.Eng.SX.us .g 556 g (ai 1) (rA 14) (iA 15)).den T ρ) = setT (ZK (g.den T ρ)) ((ai 1).den T ρ).tI (Zzm (atT (ZK (g.den T ρ)) ((ai 1).den T ρ).tI) (ρ 14).tR (ρ 15).tN) := fun g => by
   simp only [SX.den, hT.u556, ZL2, ZI]; rfl
  rw [hw2, hw, (Zfi r0 r1).1, (Zfi (u := tx0) r0 r1).2]
 rw [e1, hT.p101, k2, ZdR, Zmq, Zi9, Zxo, Zf] at hpre
 rw [e2, Zf, hT.p100, k3, k4, ZqK hl r0 (by omega)]
 have ei : ZcX [(ρ 0).tI, (ρ 8).tI, (ρ 9).tI, (ρ 10).tI, (ρ 11).tI, (ρ 12).tI] (Zzm (ZrZ (atT (ZK ((gA 3).den T ρ)) ((ai 1).den T ρ).tI) (ρ 13).tM [(ρ 6).tI, b01 (ρ 7).toBool]) (ρ 14).tR (ρ 15).tN) =
   Zc (ZEe (ρ 0).tI (ρ 4).tI (ρ 5).tI (ρ 6).tI (b01 (ρ 7).toBool == 1) (ρ 8).tI (ρ 9).tI (ρ 16).tI (ρ 10).tI (ρ 11).tI (ρ 17).tI (ρ 12).tI) (Zc (Zuz (ρ 8).tI (ρ 13).tM) (Zc (rAD rE (ρ 9).tI (ρ 14).tR (ρ 10).tI) (iAD (ρ 11).tI (ρ 15).tN (ρ 12).tI))) := by
  have q4 : (ρ 4).tI = (atT (ZK ((gA 3).den T ρ)) ((ai 1).den T ρ).tI).who := r4
  have q5 : (ρ 5).tI = (atT (ZK ((gA 3).den T ρ)) ((ai 1).den T ρ).tI).beg := r5
  have q6 : (ρ 16).tI = ((ρ 14).tR.length : Nat) := r6
  have q7 : (ρ 17).tI = ((ρ 15).tN.length : Nat) := r7
  rw [q4, q5, q6, q7]; rfl
 rw [ei, show (b01 (ρ 7).toBool == 1) = (ρ 7).toBool from by cases (ρ 7).toBool <;> rfl]
 exact hpre
theorem ZJR (S : Sig GG) (hS : JtSig S) : Zbm S adTC := by
 refine Yp S fun T w0 ρ h hu hp hd hr hpre => ⟨ρ, Ext.refl _ _, ?_, (fun x hx => nomatch hx)⟩
 have hT := hS.of hu hp
 have e1 : hpDen T ρ w0 adTC.pre = Zc ((Ch.cel (ai 0) 0 (ZBO (ai 3) (ai 4) (.int (-1)) (.bool true) (ai 5) (.int (-1)) z0 z0 (.int (-1)) z0 z0)).den T ρ w0) (Zc ((scC (ai 5) (.f1 155 z0)).den T ρ w0) (Zc (T.prd 100 w0 ((rA 1).den T ρ) ((gA 2).den T ρ)) emp)) := by
  have q : (Ch.cel (ai 0) 0 (ZBO (ai 3) (ai 4) (.int (-1)) (.bool true) (ai 5) (.int (-1)) z0 z0 (.int (-1)) z0 z0)).den T ρ w0 = (Ch.cel (ai 0) 0 [.int .i64 (ai 3), .int .i64 (ai 4), .int .i64 (.int (-1)), .bool (.bool true), .map (ai 5), slC (.int (-1)) z0 z0 1, sl1 (.int (-1)) z0 z0]).den T ρ w0 := by
   rw [ZdR]
   simp only [Ch.den, ZN7, List.map_nil, sl1, ZcI, SC.den, reduceCtorEq]
   rfl
  rw [q]; rfl
 have e2 : hpDen T ρ w0 adTC.post = Zc (T.prd 100 w0 ((Go.Eng.SX.f2 121 (rA 1) (Zz (Zca (ai 0) (ai 5) (.int (-1)) z0 (.int (-1)) z0) Zdu)).den T ρ) ((usG 557 (gA 2) (ai 3) (ai 4)).den T ρ)) emp := rfl
 rw [e1, ZdR, Zmq, Zf, hT.p100] at hpre
 have k3 : ((Go.Eng.SX.f2 121 (rA 1) (Zz (Zca (ai 0) (ai 5) (.int (-1)) z0 (.int (-1)) z0) Zdu)).den T ρ).tR = ((rA 1).den T ρ).tR ++ [[(ρ 0).tI, (ρ 5).tI, -1, 0, -1, 0]] := rfl
 have k4 : ZK ((usG 557 (gA 2) (ai 3) (ai 4)).den T ρ) = ZK ((gA 2).den T ρ) ++ [⟨(ρ 3).tI, (ρ 4).tI, -1, true, [], [], []⟩] := by
  simp only [usG, SX.den, hT.u557, ZL2, ZI]; rfl
 rw [e2, Zf, hT.p100, k3, k4]
 obtain ⟨a, b, d, rfl, ha, c, e, d2, rfl, hc, he⟩ := hpre
 rw [ZdC _ _ (Za4 he), ZpV]
 have ei : ZcX [(ρ 0).tI, (ρ 5).tI, -1, 0, -1, 0] ⟨(ρ 3).tI, (ρ 4).tI, -1, true, [], [], []⟩ = Zc (ZEe (ρ 0).tI (ρ 3).tI (ρ 4).tI (-1) true (ρ 5).tI (-1) 0 0 (-1) 0 0) (Zuz (ρ 5).tI []) := by
  show Zc _ (Zc _ (Zc (rAD rE (-1) [] 0) (iAD (-1) [] 0))) = _
  rw [rE, Zmf, ZyS, Zf, Zf]; rfl
 rw [ei, ZF, star_assoc]
 exact ⟨a, _, d, rfl, ha, c, e, d2, rfl, hc, he⟩
theorem ZBD {b : Int} {w1 b1 c1 : Int} {o1 : Bool} {m1 r1 l1 q1 s1 t1 u1 w2 b2 c2 : Int} {o2 : Bool} {m2 r2 l2 q2 s2 t2 u2 : Int} {A : HProp} {h : Hl}
  (hs : Zc (ZEe b w1 b1 c1 o1 m1 r1 l1 q1 s1 t1 u1) (Zc (ZEe b w2 b2 c2 o2 m2 r2 l2 q2 s2 t2 u2) A) h) : False := by
 obtain ⟨x, y, d, rfl, ⟨_, hx⟩, z, v, d2, rfl, ⟨_, hz⟩, _⟩ := hs
 have e1 : x b.toNat 0 = some (.val (.int .i64 w1) true) := by rw [hx]; exact Zb0 (o := 0) (i := 0) (by simp)
 have e2 : z b.toNat 0 = some (.val (.int .i64 w2) true) := by rw [hz]; exact Zb0 (o := 0) (i := 0) (by simp)
 rcases d b.toNat 0 with q | q
 ·rw [e1] at q; cases q
 ·unfold Hl.un at q; rw [e2] at q; cases q
theorem ZoI {r : List Int} : ∀ {R : List (List Int)} {L : List Tx} {h : Hl}, r ∈ R -> Zec R L h -> ∃ (t : Tx) (A : HProp), Zc (ZEe (g0 r) t.who t.beg t.com t.opn (g1 r) (g2 r) (t.rds.length : Nat) (g3 r) (g4 r) (t.bad.length : Nat) (g5 r)) A h
 | s :: R, t :: L, h, hm, hx => by
  rcases List.mem_cons.1 hm with rfl | hm
  ·have hx : Zc (ZcX r t) (Zec R L) h := hx
   unfold ZcX at hx
   rw [star_assoc] at hx
   exact ⟨t, _, hx⟩
  ·obtain ⟨a, b, d, rfl, ha, hb⟩ := hx
   obtain ⟨u, A, hA⟩ := ZoI hm hb
   have : Zc (ZcX s t) (Zc _ A) (Hl.un a b) := ⟨a, b, d, rfl, ha, hA⟩
   rw [Zm] at this
   exact ⟨u, _, this⟩
 | _ :: _, [], _, _, hx => hx.elim
 | [], _, _, hm, _ => by cases hm
theorem Zgi : ∀ {R : List (List Int)} {L : List Tx} {h : Hl}, Zec R L h -> (R.map g0).Nodup /\ ∀ r ∈ R, 0 <= g0 r
 | [], [], _, _ => ⟨List.nodup_nil, fun r hr => by cases hr⟩
 | r :: R, t :: L, h, hx => by
  obtain ⟨a, b, d, rfl, ha, hb⟩ := hx
  obtain ⟨h1, h2⟩ := Zgi hb
  refine ⟨?_, fun s hs => ?_⟩
  ·rw [ZN7, List.nodup_cons]
   refine ⟨fun hm => ?_, h1⟩
   obtain ⟨s, hs, he⟩ := List.mem_map.1 hm
   obtain ⟨u, A, hA⟩ := ZoI hs hb
   have hq : Zc (ZcX r t) (Zc _ A) (Hl.un a b) := ⟨a, b, d, rfl, ha, hA⟩
   unfold ZcX at hq
   rw [star_assoc, he] at hq
   rw [Zm (A := Zc (Zuz _ _) _)] at hq
   exact ZBD hq
  ·rcases List.mem_cons.1 hs with rfl | hs
   ·exact (Zdc ha).2.2.2.2.2
   ·exact h2 s hs
 | [], _ :: _, _, hx => hx.elim
 | _ :: _, [], _, hx => hx.elim
theorem ZbU {l : Int} : ∀ {R : List (List Int)}, ZcT l R < R.length -> g0 (R.getD (ZcT l R) []) = l
 | [], h => absurd h (Nat.not_lt_zero _)
 | r :: R, h => by
  unfold ZcT at h ⊢
  cases hp : g0 r == l
  ·rw [hp] at h
   have h : ZcT l R + 1 < R.length + 1 := h
   show g0 (R.getD (ZcT l R) []) = l
   exact ZbU (by omega)
  ·exact beq_iff_eq.1 hp
theorem YX {R : List (List Int)} {b : Int} (h : Zn4 R b) : ZcT b R < R.length := by
 obtain ⟨k, hk, rfl⟩ := h
 induction R generalizing k with
 | nil => exact absurd hk (Nat.not_lt_zero _)
 | cons r R ih =>
  unfold ZcT
  cases hp : g0 r == g0 ((r :: R).getD k [])
  ·cases k with
   | zero => have : (g0 r == g0 r) = false := hp; simp at this
   | succ k =>
    have := ih k (by simpa using hk)
    show ZcT _ R + 1 < R.length + 1
    have e : (r :: R).getD (k + 1) [] = R.getD k [] := rfl
    rw [e]; omega
  ·exact Nat.zero_lt_succ _
theorem ZzD (R : List (List Int)) (L : List Tx) (i : Nat) : ∃ A, ZcX (R.getD i []) (L.getD i tx0) = Zc A (Zhe R L i) := ⟨_, ZF _ _⟩
theorem Zej {T : Sig GG} (hT : JtSig T) (ρ : Go.Eng.Env GG) (w0 : World) (b R g i : SX) (I : Nat) (hi : (i.den T ρ).tI = (I : Nat)) (hb : (b.den T ρ).tI = g0 ((R.den T ρ).tR.getD I [])) :
  (Ch.cel b 0 (txQ R g i)).den T ρ w0 = Zhe (R.den T ρ).tR (ZK (g.den T ρ)) I := by
 rw [txQ, ZdR]
 simp only [ZgJ, usI, usB, usR, usN, usM, Zj, Z1, SX.den, hT.u540, hT.u541, hT.u542, hT.u543, hT.u545, hT.u546, Zt, YZ, Zku, ZC, Z9, ZeP, Yf, U.tIi, U.tQi, U.tRi, U.tNi, hi, atT, ZN5]
 rw [hb]
 rfl
theorem ZqH {R : List (List Int)} {L : List Tx} {j k : Nat} (hl : R.length = L.length) (hj : j < R.length) (hk : k < R.length) (hne : j ≠ k) : ∃ A, Zec R L = Zc A (Zc (Zhe R L j) (Zhe R L k)) := by
 have pick : ∀ (R : List (List Int)) (L : List Tx) (k : Nat), R.length = L.length -> k < R.length -> ∃ A, Zec R L = Zc A (Zhe R L k) := by
  intro R L k hl hk
  have h := Zg5 (R := R) (L := L) (i := (k : Nat)) hl (by omega) (by omega)
  rw [ZN5] at h
  obtain ⟨A, hA⟩ := ZzD R L k
  have e : atT L (k : Nat) = L.getD k tx0 := by unfold atT; rw [ZN5]
  rw [e, hA, <- star_assoc] at h
  exact ⟨_, h⟩
 have main : ∀ (j k : Nat), j < k -> k < R.length -> ∃ A, Zec R L = Zc A (Zc (Zhe R L j) (Zhe R L k)) := by
  intro j k hjk hk
  have h : Zec (R.take k ++ R.drop k) (L.take k ++ L.drop k) = _ := ZdC _ _ (by rw [ZN0, ZN0]; omega)
  rw [List.take_append_drop, List.take_append_drop] at h
  obtain ⟨A, hA⟩ := pick (R.take k) (L.take k) j (by rw [ZN0, ZN0]; omega) (by rw [ZN0]; omega)
  obtain ⟨B, hB⟩ := pick (R.drop k) (L.drop k) 0 (by rw [ZOc, ZOc]; omega) (by rw [ZOc]; omega)
  have e1 : Zhe (R.take k) (L.take k) j = Zhe R L j := by unfold Zhe; rw [ZaZ hjk, ZaZ hjk]
  have gd : ∀ {α : Type} (l : List α) (d : α), (l.drop k).getD 0 d = l.getD k d := fun l d => by
   rw [ZNY, ZNY, ZOn, Nat.add_zero]
  have e2 : Zhe (R.drop k) (L.drop k) 0 = Zhe R L k := by unfold Zhe; rw [gd, gd]
  rw [hA, hB, e1, e2] at h
  refine ⟨Zc A B, ?_⟩
  rw [h, star_assoc, star_assoc, Zm (Zhe R L j)]
 rcases ZNS j k with h | h
 ·exact main j k h hk
 ·obtain ⟨A, hA⟩ := main k j (by omega) hj
  exact ⟨A, by rw [hA, ZF (Zhe R L k)]⟩
theorem ZzI (S : Sig GG) (hS : JtSig S) : Zbm S ZCG := by
 refine Yp S fun T w0 ρ h hu hp hd hr hpre => ⟨ρ, Ext.refl _ _, ?_, (fun x hx => nomatch hx)⟩
 have hT := hS.of hu hp
 have e1 : hpDen T ρ w0 ZCG.pre = Zc ((Ch.arr pE (ai 0) (rA 5) (ai 6)).den T ρ w0) (Zc (T.prd 100 w0 ((rA 7).den T ρ) ((gA 8).den T ρ)) emp) := rfl
 have e2 : hpDen T ρ w0 ZCG.post = Zc ((Ch.arr pE (ai 0) (rA 5) (ai 6)).den T ρ w0) (Zc ((Ch.cel (ai 4) 0 (txQ (rA 7) (gA 8) (ixB (rA 7) (ai 4)))).den T ρ w0) (Zc ((Ch.cel (nt (rA 5) (ai 3) 0) 0 (txQ (rA 7) (gA 8) (ixB (rA 7) (nt (rA 5) (ai 3) 0)))).den T ρ w0) (Zc (T.prd 102 w0 ((Zz (ZT (ai 4) (nt (rA 5) (ai 3) 0)) (rA 7)).den T ρ) ((gA 8).den T ρ)) emp))) := rfl
 have r0 := hr (usB 565 (rA 7) (ai 4) z0) (by simp [ZCG])
 have r1 := hr (usB 565 (rA 7) (nt (rA 5) (ai 3) 0) z0) (by simp [ZCG])
 have r2 := hr (.f1 2 (.f2 45 (ai 4) (nt (rA 5) (ai 3) 0))) (by simp [ZCG])
 have n0 := ZgJ T ρ (rA 5) (ai 3) 0
 simp only [usB, SX.den, hT.u565, YZ, U.tPi, U.tQi, Zl] at r0 r1
 have r2 : (ap1 2 (ap2 45 ((ai 4).den T ρ) ((nt (rA 5) (ai 3) 0).den T ρ))).tP := r2
 rw [ZFc] at r2
 generalize hv : ((ai 4).den T ρ).tI = v at *
 generalize hy : ((nt (rA 5) (ai 3) 0).den T ρ).tI = y at *
 have ib : ∀ b : SX, ((ixB (rA 7) b).den T ρ).tI = (ZcT (b.den T ρ).tI ((rA 7).den T ρ).tR : Nat) := fun b => by
  simp only [ixB, usI, SX.den, hT.u566, Zt, U.tIi]
 have k2 : ((Zz (ZT (ai 4) (nt (rA 5) (ai 3) 0)) (rA 7)).den T ρ).tR = [v, y] :: ((rA 7).den T ρ).tR := by
  show ([((ai 4).den T ρ).tI, ((nt (rA 5) (ai 3) 0).den T ρ).tI] :: ((rA 7).den T ρ).tR) = _
  rw [hv, hy]
 have a0 := ZbU (YX r0)
 have a1 := ZbU (YX r1)
 rw [e1, Zf, hT.p100] at hpre
 rw [e2, Zf, Zej hT ρ w0 (ai 4) (rA 7) (gA 8) (ixB (rA 7) (ai 4)) (ZcT v ((rA 7).den T ρ).tR) (by rw [ib, hv]) (by rw [a0, hv]),
  Zej hT ρ w0 (nt (rA 5) (ai 3) 0) (rA 7) (gA 8) (ixB (rA 7) (nt (rA 5) (ai 3) 0)) (ZcT y ((rA 7).den T ρ).tR) (by rw [ib, hy]) (by rw [a1, hy]), hT.p102, k2]
 generalize ((rA 7).den T ρ).tR = R at *
 generalize ZK ((gA 8).den T ρ) = L at *
 obtain ⟨p, q, d, rfl, hp1, hq⟩ := hpre
 have hl := Za4 hq
 have hne : ZcT v R ≠ ZcT y R := fun e => r2 (by rw [<- a0, <- a1, e])
 obtain ⟨A, hA⟩ := ZqH hl (YX r0) (YX r1) hne
 have hq2 := hq
 rw [hA] at hq2
 obtain ⟨s, t, d2, rfl, hs, ht⟩ := hq2
 have hw : ZJv (g0 ([v, y] :: R |>.getD 0 [])) (g1 ([v, y] :: R |>.getD 0 [])) (([v, y] :: R).drop 1) L s := by
  intro h' hd' hh'
  show Zec R L _
  rw [hA]
  exact ⟨s, h', hd', rfl, hs, hh'⟩
 refine ⟨p, _, d, rfl, hp1, ?_⟩
 have : Zc (Zc (Zhe R L (ZcT v R)) (Zhe R L (ZcT y R))) (ZJv (g0 ([v, y] :: R |>.getD 0 [])) (g1 ([v, y] :: R |>.getD 0 [])) (([v, y] :: R).drop 1) L) (Hl.un s t) := ⟨t, s, d2.symm, Hl.un_comm d2, ht, hw⟩
 rw [star_assoc] at this
 exact this
theorem ZqB (S : Sig GG) (hS : JtSig S) : Zbm S ZB6 := by
 refine Yp S fun T w0 ρ h hu hp hd hr hpre => ⟨ρ, Ext.refl _ _, ?_, (fun x hx => nomatch hx)⟩
 have hT := hS.of hu hp
 have e1 : hpDen T ρ w0 ZB6.pre = Zc (T.prd 102 w0 ((Zz (ZT (ai 0) (ai 1)) (rA 2)).den T ρ) ((gA 3).den T ρ)) (Zc ((Ch.cel (ai 0) 0 (txQ (rA 2) (gA 3) (ixB (rA 2) (ai 0)))).den T ρ w0) (Zc ((Ch.cel (ai 1) 0 (txQ (rA 2) (gA 3) (ixB (rA 2) (ai 1)))).den T ρ w0) emp)) := rfl
 have e2 : hpDen T ρ w0 ZB6.post = Zc (T.prd 100 w0 ((rA 2).den T ρ) ((gA 3).den T ρ)) emp := rfl
 have r0 := hr (usB 565 (rA 2) (ai 0) z0) (by simp [ZB6])
 have r1 := hr (usB 565 (rA 2) (ai 1) z0) (by simp [ZB6])
 simp only [usB, SX.den, hT.u565, YZ, U.tPi, U.tQi, Zl] at r0 r1
 have ib : ∀ b : SX, ((ixB (rA 2) b).den T ρ).tI = (ZcT (b.den T ρ).tI ((rA 2).den T ρ).tR : Nat) := fun b => by
  simp only [ixB, usI, SX.den, hT.u566, Zt, U.tIi]
 have k2 : ((Zz (ZT (ai 0) (ai 1)) (rA 2)).den T ρ).tR = [((ai 0).den T ρ).tI, ((ai 1).den T ρ).tI] :: ((rA 2).den T ρ).tR := rfl
 have a0 := ZbU (YX r0)
 have a1 := ZbU (YX r1)
 rw [e1, Zf, hT.p102, k2, Zej hT ρ w0 (ai 0) (rA 2) (gA 3) (ixB (rA 2) (ai 0)) _ (by rw [ib]) (by rw [a0]),
  Zej hT ρ w0 (ai 1) (rA 2) (gA 3) (ixB (rA 2) (ai 1)) _ (by rw [ib]) (by rw [a1])] at hpre
 rw [e2, Zf, hT.p100]
 obtain ⟨a, b, d, rfl, ha, hb⟩ := hpre
 exact ha b d hb
theorem ZDM (S : Sig GG) (hS : JtSig S) : Zbm S ZLz := by
 refine Yp S fun T w0 ρ h hu hp hd hr hpre => ⟨ρ, Ext.refl _ _, hpre, ?_⟩
 have hT := hS.of hu hp
 have e1 : hpDen T ρ w0 ZLz.pre = Zc (T.prd 100 w0 ((rA 0).den T ρ) ((gA 1).den T ρ)) emp := rfl
 rw [e1, Zf, hT.p100] at hpre
 intro x hx
 simp only [ZLz, ZNR] at hx
 subst hx
 simp only [usB, SX.den, hT.u558, YZ, U.tPi, U.tQi, Zl]
 exact ⟨Za4 hpre, (Zgi hpre).1, (Zgi hpre).2⟩
theorem ZKM (S : Sig GG) (hS : JtSig S) : Zbm S emTC := by
 refine Yp S fun T w0 ρ h hu hp hd hr hpre => ⟨ρ, Ext.refl _ _, ?_, (fun x hx => nomatch hx)⟩
 have hT := hS.of hu hp
 have e1 : hpDen T ρ w0 emTC.pre = emp := rfl
 have e2 : hpDen T ρ w0 emTC.post = Zc (T.prd 100 w0 (Zdu.den T ρ) ((usG 561 Zdu z0 z0).den T ρ)) emp := rfl
 rw [e1] at hpre
 rw [e2, Zf, hT.p100]
 have k : ZK ((usG 561 Zdu z0 z0).den T ρ) = [] := by
  simp only [usG, SX.den, hT.u561, ZL2, ZI]; rfl
 rw [k]
 exact hpre
def entZ : SX := Zca (ai 2) (ai 3) (.f1 35 (bA 4)) (.f1 35 (bA 5)) (.f1 3 (qA 6)) (ai 7)
def reaW : SX := .us .rows 563 (mA 17) entZ (rA 18) (ai 1)
def reaV : SX := .us .ints 564 (mA 17) entZ (iA 19) (ai 1)
def mil : SX := .int 1000000
def ZAd : Ctr := ⟨[.int, .int, .int, .int, .bytes, .bytes, .bool, .int, .int, .int, .int, .bool, .int, .int, .int, .int, .int, .amap, .rows, .ints],
 [.one (.ptr (ai 0) 0), .one (.int .i64 (ai 1)), .agg [.int .i64 (ai 2), .int .i64 (ai 3), .str (bA 4), .str (bA 5), .bool (qA 6), .int .i64 (ai 7)]],
 [.cel (ai 0) 0 (ZBO (ai 8) (ai 9) (ai 10) (qA 11) (ai 12) (ai 13) (Zj (rA 18)) (ai 14) (ai 15) (Z1 (iA 19)) (ai 16)), scC (ai 12) (mA 17), rAr (ai 13) (rA 18) (ai 14), iAr (ai 15) (iA 19) (ai 16)],
 [eLe z0 (ai 12), eLe (Zj (rA 18)) (ai 14), eLe (Z1 (iA 19)) (ai 16), eLe (Zj (rA 18)) mil, eLe (Z1 (iA 19)) mil, .f2 50 (eLe z0 (ai 13)) (.f2 45 (Zj (rA 18)) z0), .f2 50 (eLe z0 (ai 15)) (.f2 45 (Z1 (iA 19)) z0)],
 [.int, .int, .int, .int], .tup [],
 [.cel (ai 0) 0 (ZBO (ai 8) (ai 9) (ai 10) (qA 11) (ai 12) (ai 20) (Zj reaW) (ai 21) (ai 22) (Z1 reaV) (ai 23)), scC (ai 12) (mA 17), rAr (ai 20) reaW (ai 21), iAr (ai 22) reaV (ai 23)],
 [eLe (Zj reaW) (ai 21), eLe (Z1 reaV) (ai 23), .f2 50 (eLe z0 (ai 20)) (.f2 45 (Zj reaW) z0), .f2 50 (eLe z0 (ai 22)) (.f2 45 (Z1 reaV) z0)]⟩
def ZLx : Cx := { specs := [(47, [Zie])], anns := [] }
def ZvU : Ctr := ⟨[.int, .int, .int, .rows, .int, .rows, .g], [.one (slC (ai 0) (ai 1) (ai 2) 1), .one (.ptr (ai 4) 0)], [.arr pE (ai 0) (rA 3) (ai 2), txC (rA 5) (gA 6)],
 [.f2 45 (ai 1) (Zj (rA 3)), eLe (ai 1) (ai 2), eLe (ai 1) mil, usB 560 (rA 3) (rA 5) z0, .f2 50 (eLt (ai 4) z0) (usB 565 (rA 5) (ai 4) z0), usB 558 (rA 5) (gA 6) z0], [.bool], .one (.bool (qA 7)), [.arr pE (ai 0) (rA 3) (ai 2), txC (rA 5) (gA 6)], [.f2 48 (qA 7) (usB 562 (rA 3) (ai 4) z0)]⟩
def cntI : Inv := ⟨[.int], [(8, .one (.int .i64 (di 0)))], [], [eLe z0 (di 0), eLe (di 0) (ai 1), .f1 2 (usB 562 (tk (rA 3) (di 0)) (ai 4) z0)], .f2 41 (ai 1) (di 0)⟩
def cntE : SX := .f2 45 (ai 4) (nt (rA 3) (ai 7) 0)
def ZLm : Cx := { specs := [], anns := [(76, [(2, .inv cntI), (4, .split (eLt (ai 4) z0)), (4, .iff (eLe z0 (ai 4))), (4, .split cntE), (4, .iff (ZcH cntE)), (4, .ghost ZCG [.tmp 0, .tmp 5, .tmp 1]), (500004, .iff (ZcH cntE)), (500004, .ghost ZB6 [.tmp 1])])] }
def ZIb : SX := l z (a 13)
def ZIN : SX := l z (a 15)
def ZG3 : SX := .f1 2 (.f2 141 (m 17) (.f1 35 (b 4)))
def ZwC : SX := .f2 40 (.f1 32 (r 18)) (k 1)
def ZCC : SX := l z (a 23)
def ZyC : SX := .f2 122 (a 2) (.f2 122 (a 3) (.f2 122 (.f1 35 (b 4)) (.f2 122 (.f1 35 (b 5)) (.f2 122 (.f1 3 (q 6)) (.f2 122 (a 7) (.f1 152 z))))))
def ZDE : SX := .us .rows 563 (m 17) ZyC (r 18) (a 1)
def ZrO : SX := .f1 32 ZDE
def ZCj : SX := .us .ints 564 (m 17) ZyC (s 19) (a 1)
def Zr7 : SX := .f1 30 ZCj
def ZvH : SX := l Zr7 (a 16)
def ZAq : SX := e ZrO z
def ZzV : SX := e Zr7 z
def Zy2 : SX := .f2 50 ZIN ZzV
def ZAZ : SX := .f2 155 ZCj (s 19)
def ZAz : SX := e Zr7 (.f1 30 (s 19))
def ZlD : SX := .f2 40 (.f1 30 (s 19)) (k 1)
def Zzt : SX := l z (a 24)
def Zw2 : SX := l ZrO (a 14)
def Zuh : SX := .f2 50 ZIb ZAq
def ZsL : SX := .f2 155 ZDE (r 18)
def ZAj : SX := e ZrO (.f1 32 (r 18))
def ZJ8 : VC := i (l z (a 12)) (i (l (.f1 32 (r 18)) (a 14)) (i (l (.f1 30 (s 19)) (a 16)) (i (l (.f1 32 (r 18)) (k 1000000)) (i (l (.f1 30 (s 19)) (k 1000000)) (i (.f2 50 ZIb (e (.f1 32 (r 18)) z)) (i (.f2 50 ZIN (e (.f1 30 (s 19)) z)) (u 20 .int (i (l z (a 20)) (u 21 .int (i (l z (a 21)) (.and (i ZG3 (u 22 .int (i (l z (a 22)) (n (l (.f1 32 (r 18)) (.f1 32 (r 18))) (n (l (.f2 42 ZwC (k 72)) k1) (u 23 .int (u 24 .int (i (l ZwC (a 24)) (i (.f2 50 ZCC (e ZwC z)) (n (l ZrO (a 24)) (n ZvH (n (.f2 50 ZCC ZAq) (n Zy2 (n ZAZ (n (.f2 155 ZDE (.f2 121 (r 18) (.f2 124 (.f2 122 (a 1) ZyC) (.f1 154 z)))) (n ZAz (n (e ZrO ZwC) .tt))))))))))))))))) (i (.f1 2 ZG3) (u 22 .bool (i (.f2 48 (q 22) (c 530 (m 17) ZyC)) (.and (i (.f1 2 (q 22)) (u 23 .int (i ZCC (n (l (.f1 30 (s 19)) (.f1 30 (s 19))) (n (l (.f2 42 ZlD (k 8)) k1) (u 24 .int (u 25 .int (i (l ZlD (a 25)) (i (.f2 50 Zzt (e ZlD z)) (n Zw2 (n (l Zr7 (a 25)) (n Zuh (n (.f2 50 Zzt ZzV) (n (.f2 155 ZCj (.f2 119 (s 19) (.f2 122 (a 1) (.f1 152 z)))) (n ZsL (n (e Zr7 ZlD) (n ZAj .tt))))))))))))))))) (i (.f1 2 (.f1 2 (q 22))) (n Zw2 (n ZvH (n Zuh (n Zy2 (n ZAZ (n ZsL (n ZAz (n ZAj .tt))))))))))))))))))))))))
theorem ZMO : Yq Tryz.prog ZLx 12 54 ZAd = ZJ8 := by kernel_rfl
def ZHL : SX := t (a 4) z
def ZGJ : SX := c 565 (r 5) (a 4)
def ZEC : SX := l z (a 7)
def ZCw : SX := t (a 7) (.f1 32 (r 3))
def ZCx : SX := .f3 112 (r 3) (a 7) z
def Zr9 : SX := .f2 40 (a 7) (k 1)
def ZIB : SX := .f1 23 Zr9
def ZFz : SX := .f2 41 (a 1) Zr9
def ZEF : SX := l z ZFz
def ZEx : SX := t ZFz (.f2 41 (a 1) (a 7))
def ZAw : SX := l z Zr9
def ZxS : SX := l Zr9 (a 1)
def ZAP : SX := .f1 2 (c 562 (.f2 115 (r 3) Zr9) (a 4))
def Zvj : SX := e (a 4) ZCx
def Zx7 : SX := c 562 (r 3) (a 4)
def ZMA : VC := i (e (a 1) (.f1 32 (r 3))) (i (l (a 1) (a 2)) (i (l (a 1) (k 1000000)) (i (c 560 (r 3) (r 5)) (i (.f2 50 ZHL ZGJ) (i (c 558 (r 5) (g 6)) (n (l z (a 1)) (n (.f1 2 (c 562 (.f2 115 (r 3) z) (a 4))) (u 7 .int (i ZEC (i (l (a 7) (a 1)) (i (.f1 2 (c 562 (.f2 115 (r 3) (a 7)) (a 4))) (.and (i (t (a 7) (a 1)) (.and (i ZHL (n ZCw (n (l z ZCx) (n ZIB (n ZEF (n ZEx (n ZAw (n ZxS (n ZAP .tt))))))))) (i (l z (a 4)) (.and (i Zvj (n ZCw (n (.f2 48 ZEC Zx7) .tt))) (i (.f1 2 Zvj) (n ZGJ (n (c 565 (r 5) ZCx) (n ZCw (n ZIB (n ZEF (n ZEx (n ZAw (n ZxS (n ZAP .tt)))))))))))))) (i (l (a 1) (a 7)) (n (.f2 48 (.bool false) Zx7) .tt))))))))))))))
theorem ZLu : Yq Tryz.prog ZLm 12 55 ZvU = ZMA := by kernel_rfl
theorem ZJS (S : Sig GG) (hS : JtSig S) : Zy S Tryz.prog 54 ZAd := by
 refine Ze S (C := ZLx) (fuel := 12) (ZQ ⟨Zg (by decide) (Zpo S hS.jb), trivial⟩ trivial trivial) fun ρ => ?_
 rw [ZMO]
 simp only [ZJ8, ZIb, ZIN, ZG3, ZwC, ZCC, ZyC, ZDE, ZrO, ZCj, Zr7, ZvH, ZAq, ZzV, Zy2, ZAZ, ZAz, ZlD, Zzt, Zw2, Zuh, ZsL, ZAj, hS.jb.u530, hS.u563, hS.u564, ZI, VC.den, SX.den, Env.upd, ZS, ZD, beq_iff_eq, ZNX, beq_eq_false_iff_ne, ne_eq, ZNW, ZNV, Int.reduceToNat, Nat.reduceEqDiff, reduceIte, sB, sC]
 have hk : kc [(ρ 2).tI, (ρ 3).tI, ((Zs (ρ 4).tB : Nat) : Int), ((Zs (ρ 5).tB : Nat) : Int), b01 (ρ 6).toBool, (ρ 7).tI] = (Zs (ρ 4).tB : Nat) := by
  unfold kc ZV
  simp only [List.getD_cons_zero, List.getD_cons_succ, ZN5, Zo]
 have hn : nr [(ρ 2).tI, (ρ 3).tI, ((Zs (ρ 4).tB : Nat) : Int), ((Zs (ρ 5).tB : Nat) : Int), b01 (ρ 6).toBool, (ρ 7).tI] = [(ρ 2).tI, (ρ 3).tI, ((Zs (ρ 4).tB : Nat) : Int), ((Zs (ρ 5).tB : Nat) : Int), b01 (ρ 6).toBool, (ρ 7).tI] := by
  unfold nr xk xw ZV ZaB ZbW xt
  simp only [List.getD_cons_zero, List.getD_cons_succ, ZN5, Zo, Zei]
 simp only [hk, hn]
 generalize ([(ρ 2).tI, (ρ 3).tI, ((Zs (ρ 4).tB : Nat) : Int), ((Zs (ρ 5).tB : Nat) : Int), b01 (ρ 6).toBool, (ρ 7).tI] : List Int) = E
 generalize ((Zs (ρ 4).tB : Nat) : Int) = K
 generalize (ρ 17).tM = M
 generalize (ρ 18).tR = X
 generalize (ρ 19).tN = Y
 generalize ZZ M E = s
 cases Zx M K
 ·simp only [Bool.false_eq_true, if_false, false_and, ZN3, ZNM]
  repeat' (first | exact trivial | rfl | omega | assumption | apply And.intro | intro _)
  all_goals simp_all
 ·cases s
  ·simp only [if_true, true_and, ZN3, ZNM]
   repeat' (first | exact trivial | rfl | omega | assumption | apply And.intro | intro _)
   all_goals simp_all
  ·simp only [if_true, Bool.true_eq_false, and_false, if_false]
   repeat' (first | exact trivial | rfl | omega | assumption | apply And.intro | intro _)
   all_goals simp_all
theorem ZJT (S : Sig GG) (hS : JtSig S) : Zy S Tryz.prog 55 ZvU := by
 refine Ze S (C := ZLm) (fuel := 12) (ZQ trivial ⟨⟨trivial, trivial, trivial, trivial, trivial, ⟨by decide, ZzI S hS⟩, trivial, ⟨by decide, ZqB S hS⟩, trivial⟩, trivial⟩ trivial) fun ρ => ?_
 rw [ZLu]
 simp only [ZMA, ZHL, ZGJ, ZEC, ZCw, ZCx, Zr9, ZIB, ZFz, ZEF, ZEx, ZAw, ZxS, ZAP, Zvj, Zx7, hS.u558, hS.u560, hS.u562, hS.u565, ZI, VC.den, SX.den, Env.upd, ZS, ZD, beq_iff_eq, ZNX, beq_eq_false_iff_ne, ne_eq, ZNW, ZNV, Int.reduceToNat, Nat.reduceEqDiff, reduceIte, sB, sC]
 generalize (ρ 3).tR = F
 generalize (ρ 5).tR = R
 generalize (ρ 4).tI = v
 generalize (ρ 1).tI = l
 generalize ZK _ = L
 intro h1 h2 h3 h4 h5 h6
 refine ⟨by omega, Zr (by rw [List.take_zero]; exact List.not_mem_nil), fun x hx0 hx1 hx2 => ?_⟩
 obtain ⟨n, rfl⟩ := ZNQ hx0
 have e1 : ((n : Int) + 1).toNat = n + 1 := by omega
 simp only [e1, ZN5] at hx2 ⊢
 have hx2 : ¬ [v] ∈ F.take n := fun h => by rw [Zu h] at hx2; cases hx2
 refine ⟨fun hlt => ?_, fun hge => ⟨?_, trivial⟩⟩
 ·have hn : n < F.length := by omega
  have hgt : F.getD n [] = F[n] := by rw [ZNY, ZN1 hn, ZNT]
  have hm : F.getD n [] ∈ F := by rw [hgt]; exact ZOl hn
  obtain ⟨b, hb, hbl⟩ := h4 _ hm
  have e2 : F.take (n + 1) = F.take n ++ [F.getD n []] := by rw [hgt]; exact (List.take_append_getElem hn).symm
  rw [e2, hb]
  have hb0 : ([b] : List Int).getD 0 0 = b := rfl
  rw [hb0]
  have hpos : 0 <= b := by
   obtain ⟨k, hk, rfl⟩ := hbl
   refine h6.2.2 _ ?_
   rw [ZNY, ZN1 hk, ZNT]; exact ZOl hk
  have no : ¬ v = b -> Zn ([v] ∈ F.take n ++ [[b]]) = false := fun hne => Zr fun h => by
   rcases List.mem_append.1 h with h | h
   ·exact hx2 h
   ·rw [ZNR] at h; injection h with h; exact hne h
  refine ⟨fun hv => ⟨by omega, hpos, by omega, by omega, by omega, by omega, by omega, no (by omega), trivial⟩, fun hv => ⟨fun he => ⟨by omega, ?_, trivial⟩, fun he => ⟨?_, hbl, by omega, by omega, by omega, by omega, by omega, by omega, no he, trivial⟩⟩⟩
  ·rw [Zu (by rw [he, <- hb]; exact hm), Za.2 (by omega)]
  ·rcases h5 with h | h
   ·omega
   ·exact h
 ·rw [ZOa (by omega)] at hx2
  rw [Zr hx2]
theorem ZCL {G : Type} {S : Sig G} {P : Program} {f : Nat} {sp sq : Ctr} (hw : sp.wf = true) (h : Zy S P f sp) (hw2 : sq.wf = true) (h2 : Zy S P f sq) : ∀ q ∈ [sp, sq], q.wf = true /\ Zy S P f q := by
 intro q hq
 rcases List.mem_cons.1 hq with rfl | hq
 ·exact ⟨hw, h⟩
 ·rw [ZNR] at hq; subst hq; exact ⟨hw2, h2⟩
theorem ZcE (S : Sig GG) (hS : JtSig S) : Zbm S ZqW := by
 refine Yp S fun T w0 ρ h hu hp hd hr hpre => ⟨ρ, Ext.refl _ _, ?_⟩
 have hT := hS.of hu hp
 have e1 : hpDen T ρ w0 ZqW.pre = Zc (T.prd 100 w0 ((rA 1).den T ρ) ((gA 2).den T ρ)) emp := rfl
 rw [e1, Zf, hT.p100] at hpre
 have r0 := hr (usB 565 (rA 1) (ai 0) z0) (by simp [ZqW])
 simp only [usB, SX.den, hT.u565, YZ, U.tPi, U.tQi, Zl] at r0
 have hix : ((ixB (rA 1) (ai 0)).den T ρ).tI = (ZcT ((ai 0).den T ρ).tI ((rA 1).den T ρ).tR : Nat) := by
  simp only [ixB, usI, SX.den, hT.u566, Zt, U.tIi]
 have r0 : Zn4 ((rA 1).den T ρ).tR ((ai 0).den T ρ).tI := r0
 have hlt := YX r0
 have hat := ZbU hlt
 have hl := Za4 hpre
 have hb : ((ai 0).den T ρ).tI = ((nt (rA 1) (ixB (rA 1) (ai 0)) 0).den T ρ).tI := by
  rw [ZgJ, hix, ZN5]
  exact hat.symm
 obtain ⟨k1, k2⟩ := Zwq hT ρ w0 (ai 0) (rA 1) (gA 2) (ixB (rA 1) (ai 0)) (by rw [hix]; omega) (by rw [hix]; omega) hb hpre
 refine ⟨k1, fun e he => ?_⟩
 rcases List.mem_cons.1 he with rfl | he
 ·show (ap2 45 ((ai 0).den T ρ) ((nt (rA 1) (ixB (rA 1) (ai 0)) 0).den T ρ)).tP
  rw [p45]; exact hb
 ·rcases List.mem_cons.1 he with rfl | he
  ·rw [Yu, hix]
   have e552 : ((usI 552 (gA 2) z0 z0).den T ρ).tI = ((ZK ((gA 2).den T ρ)).length : Nat) := by
    simp only [usI, SX.den, hT.u552, Zt, U.tIi]
   rw [e552]; omega
  ·exact k2 e he
theorem ZkW {G : Type} (S : Sig G) : Zbm S ZD7 := by
 refine Yp S fun T w0 ρ h hu hp hd hr hpre => ⟨ρ, Ext.refl _ _, ?_, by intro x hx; exact nomatch hx⟩
 have e1 : hpDen T ρ w0 ZD7.pre = emp := rfl
 have e2 : hpDen T ρ w0 ZD7.post = Zc (rAD pE (-1) [] 0) emp := rfl
 rw [e1] at hpre
 rw [e2, Zf, pE, Zmf]; exact hpre
theorem ZD4 {G : Type} (S : Sig G) : Zbm S ZJK := by
 refine Yp S fun T w0 ρ h hu hp hd hr hpre => ⟨ρ, Ext.refl _ _, ?_, by intro x hx; exact nomatch hx⟩
 have e1 : hpDen T ρ w0 ZJK.pre = emp := rfl
 have e2 : hpDen T ρ w0 ZJK.post = Zc (rAD rE (-1) [] 0) emp := rfl
 rw [e1] at hpre
 rw [e2, Zf, rE, Zmf]; exact hpre
theorem Zmg {T : Sig GG} (hT : JtSig T) (ρ : Go.Eng.Env GG) (w0 : World) (b x : SX) : (bkC b x).den T ρ w0 = ZrS (b.den T ρ).tI (x.den T ρ).tR := by
 have e : (bkC b x).den T ρ w0 = T.prd 103 w0 ((Zz (Zss b) x).den T ρ) (z0.den T ρ) := rfl
 rw [e, hT.p103]; rfl
theorem ZD9 (S : Sig GG) (hS : JtSig S) : Zbm S ZJC := by
 refine Yp S fun T w0 ρ h hu hp hd hr hpre => ⟨ρ, Ext.refl _ _, ?_, (fun x hx => nomatch hx)⟩
 have hT := hS.of hu hp
 have e1 : hpDen T ρ w0 ZJC.pre = Zc ((hC 0 0).den T ρ w0) emp := rfl
 have e2 : hpDen T ρ w0 ZJC.post = Zc ((hC 0 0).den T ρ w0) (Zc ((bkC (ai 6) xX).den T ρ w0) emp) := rfl
 have r0 := hr (eLt (ai 6) z0) (by simp [ZJC])
 rw [Yu] at r0
 have r0 : ((ai 6).den T ρ).tI < 0 := r0
 rw [e1] at hpre
 rw [e2, Zmg hT, ZrS, if_pos r0, Zf]; exact hpre
theorem Zx3 (T : Sig GG) (ρ : Go.Eng.Env GG) (w0 : World) (b ma kb kl kc ob ol oc ft wt : SX) : (Ch.cel b 0 (bkQ ma kb kl kc ob ol oc ft wt)).den T ρ w0 =
  celB (b.den T ρ).tI (ma.den T ρ).tI (kb.den T ρ).tI (kl.den T ρ).tI (kc.den T ρ).tI (ob.den T ρ).tI (ol.den T ρ).tI (oc.den T ρ).tI (ft.den T ρ).tI (wt.den T ρ).tI := by
 simp only [bkQ, Ch.den, ZN7, List.map_nil, sl1, ZcI, SC.den, reduceCtorEq]
 rfl
theorem Zs5 (T : Sig GG) (ρ : Go.Eng.Env GG) (w0 : World) (b m : SX) : (imC b m).den T ρ w0 = ZKW (b.den T ρ).tI (m.den T ρ).tM := rfl
theorem Ztx (T : Sig GG) (ρ : Go.Eng.Env GG) (w0 : World) (b x c : SX) : (pAr b x c).den T ρ w0 = rAD (.rows [.ptr]) (b.den T ρ).tI (x.den T ρ).tR (c.den T ρ).tI := rfl
theorem ZKv (S : Sig GG) (hS : JtSig S) : Zbm S Zsd := by
 refine Yp S fun T w0 ρ h hu hp hd hr hpre => ⟨ρ, Ext.refl _ _, ?_, (fun x hx => nomatch hx)⟩
 have hT := hS.of hu hp
 have e1 : hpDen T ρ w0 Zsd.pre = Zc ((hC 0 0).den T ρ w0) (Zc ((Ch.cel (ai 6) 0 (bkQ (ai 7) (ai 8) (ai 9) (ai 10) (ai 11) (ai 12) (ai 13) (ai 14) (ai 15))).den T ρ w0) (Zc ((imC (ai 7) (mA 18)).den T ρ w0) (Zc ((pAr (ai 8) (rA 19) (ai 10)).den T ρ w0)
  (Zc ((rAr (ai 11) (rA 20) (ai 13)).den T ρ w0) (Zc (T.prd 100 w0 ((rA 16).den T ρ) ((gA 17).den T ρ)) emp))))) := rfl
 have e2 : hpDen T ρ w0 Zsd.post = Zc ((hC 0 0).den T ρ w0) (Zc ((bkC (ai 6) xX).den T ρ w0) emp) := rfl
 have r0 := hr (eLe z0 (ai 6)) (by simp [Zsd])
 have r1 := hr (eqS (gA 17) (usG 561 xX (Zj xX) z0)) (by simp [Zsd])
 have r2 := hr (eqS (mA 18) (.us .amap 547 (rA 16) (gA 17) z0 z0)) (by simp [Zsd])
 have r3 := hr (eqS (rA 19) (usR 548 xX (Zj xX) (rA 16))) (by simp [Zsd])
 have r4 := hr (eqS (rA 20) (usR 549 xX (Zj xX) z0)) (by simp [Zsd])
 have r5 := hr (.f2 45 (ai 9) (Zj (rA 19))) (by simp [Zsd])
 have r6 := hr (.f2 45 (ai 12) (Zj (rA 20))) (by simp [Zsd])
 have r7 := hr (.f2 45 (ai 14) (usI 550 xX (Zj xX) z0)) (by simp [Zsd])
 have r8 := hr (.f2 45 (ai 15) (usI 551 xX (Zj xX) z0)) (by simp [Zsd])
 rw [Zh] at r0
 have hX : (xX.den T ρ).tR = ((rA 4).den T ρ).tR.take (ρ 2).tI.toNat := rfl
 have hL : ((Zj xX).den T ρ).tI.toNat = (xX.den T ρ).tR.length := by
  show ((((xX.den T ρ).tR.length : Nat) : Int)).toNat = _
  omega
 have w1 : ((usG 561 xX (Zj xX) z0).den T ρ) = .g (.tx (Z4 (xX.den T ρ).tR (xX.den T ρ).tR.length).txs) := by
  have : ((usG 561 xX (Zj xX) z0).den T ρ) = U.co T .g (T.usr 561 (xX.den T ρ) ((Zj xX).den T ρ) (z0.den T ρ) (z0.den T ρ)) := rfl
  rw [this, hT.u561, hL]; rfl
 have w2 : (Go.Eng.SX.us .amap 547 (rA 16) (gA 17) z0 z0).den T ρ = .amap (Zez ((rA 16).den T ρ).tR (ZK ((gA 17).den T ρ))) := by
  have : (Go.Eng.SX.us .amap 547 (rA 16) (gA 17) z0 z0).den T ρ = U.co T .amap (T.usr 547 ((rA 16).den T ρ) ((gA 17).den T ρ) (z0.den T ρ) (z0.den T ρ)) := rfl
  rw [this, hT.u547]; rfl
 have w3 : (usR 548 xX (Zj xX) (rA 16)).den T ρ = .rows (Zbh ((rA 16).den T ρ).tR (Z4 (xX.den T ρ).tR (xX.den T ρ).tR.length).kept) := by
  have : (usR 548 xX (Zj xX) (rA 16)).den T ρ = U.co T .rows (T.usr 548 (xX.den T ρ) ((Zj xX).den T ρ) ((rA 16).den T ρ) (z0.den T ρ)) := rfl
  rw [this, hT.u548, hL]; rfl
 have w4 : (usR 549 xX (Zj xX) z0).den T ρ = .rows (Z4 (xX.den T ρ).tR (xX.den T ρ).tR.length).out := by
  have : (usR 549 xX (Zj xX) z0).den T ρ = U.co T .rows (T.usr 549 (xX.den T ρ) ((Zj xX).den T ρ) (z0.den T ρ) (z0.den T ρ)) := rfl
  rw [this, hT.u549, hL]; rfl
 have w7 : (usI 550 xX (Zj xX) z0).den T ρ = .int (Z4 (xX.den T ρ).tR (xX.den T ρ).tR.length).fault := by
  have : (usI 550 xX (Zj xX) z0).den T ρ = U.co T .int (T.usr 550 (xX.den T ρ) ((Zj xX).den T ρ) (z0.den T ρ) (z0.den T ρ)) := rfl
  rw [this, hT.u550, hL]; rfl
 have w8 : (usI 551 xX (Zj xX) z0).den T ρ = .int (Z4 (xX.den T ρ).tR (xX.den T ρ).tR.length).what := by
  have : (usI 551 xX (Zj xX) z0).den T ρ = U.co T .int (T.usr 551 (xX.den T ρ) ((Zj xX).den T ρ) (z0.den T ρ) (z0.den T ρ)) := rfl
  rw [this, hT.u551, hL]; rfl
 have p155' : ∀ a b : SX, ((eqS a b).den T ρ).tP = (a.den T ρ = b.den T ρ) := fun a b => ZIy (a.den T ρ) (b.den T ρ)
 have p45' : ∀ a b : SX, ((Go.Eng.SX.f2 45 a b).den T ρ).tP = ((a.den T ρ).tI = (b.den T ρ).tI) := fun a b => p45 (a.den T ρ) (b.den T ρ)
 rw [p155', w1] at r1
 rw [p155', w2, r1] at r2
 rw [p155', w3] at r3
 rw [p155', w4] at r4
 rw [p45'] at r5 r6
 rw [p45', w7] at r7
 rw [p45', w8] at r8
 have q5 : ((ai 9).den T ρ).tI = ((((rA 19).den T ρ).tR.length : Nat) : Int) := r5
 have q6 : ((ai 12).den T ρ).tI = ((((rA 20).den T ρ).tR.length : Nat) : Int) := r6
 rw [e1, Zx3, Zs5, Ztx, Zi9, Zf, hT.p100, q5, q6, r1, r2, r3, r4, r7, r8] at hpre
 simp only [U.tRi, U.tMi, U.tIi, ZI] at hpre
 rw [e2, Zmg hT, ZrS, if_neg (by have : 0 <= ((ai 6).den T ρ).tI := r0; omega), Zf]
 refine Zr3 hpre fun h' hh => ⟨((ai 7).den T ρ).tI, ((ai 8).den T ρ).tI, ((ai 10).den T ρ).tI, ((ai 11).den T ρ).tI, ((ai 13).den T ρ).tI, ((rA 16).den T ρ).tR, ?_⟩
 have hk : ∀ (R : List (List Int)) (ks : List Nat), (Zbh R ks).length = ks.length := fun R ks => by unfold Zbh; rw [ZN8]
 rw [hk] at hh
 exact hh
end
end Go.Proofs.YtidlngnhjffepaaGreat
