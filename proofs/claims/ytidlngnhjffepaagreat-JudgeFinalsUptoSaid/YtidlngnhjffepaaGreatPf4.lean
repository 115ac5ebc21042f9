/- Part of a proof. -/
import Derived.Test.YtidlngnhjffepaaGreatPf3
import Derived.ChangeSame
import Derived.Test.YtidlngnhjffepaaGreatProg
import Derived.KernelRfl
set_option linter.unusedSimpArgs false
set_option linter.unusedVariables false
set_option maxRecDepth 20000
namespace Go.Eng
noncomputable section
abbrev LB := List (Nat × Int)
def LB.get : LB -> Nat -> Option Int
 | [], _ => none
 | (j, l) :: r, i => bif Nat.beq j i then some l else LB.get r i
mutual
def Zm7 (lo hi : LB) : SX -> Option Int
 | .int n => some n
 | .at s i => (match s with | .int => LB.get lo i | _ => none)
 | .f1 f _ => (match f with | 30 | 31 | 32 | 33 => some 0 | _ => none)
 | .f2 f a b => (match f with
  | 40 => (match Zm7 lo hi a, Zm7 lo hi b with | some x, some y => some (x + y) | _, _ => none)
  | 41 => (match Zm7 lo hi a, Znd lo hi b with | some x, some y => some (x - y) | _, _ => none)
  | 111 => some 0
  | _ => none)
 | _ => none
def Znd (lo hi : LB) : SX -> Option Int
 | .int n => some n
 | .at s i => (match s with | .int => (match LB.get hi i with | some x => some (-x) | none => none) | _ => none)
 | .f2 f a b => (match f with
  | 40 => (match Znd lo hi a, Znd lo hi b with | some x, some y => some (x + y) | _, _ => none)
  | 41 => (match Znd lo hi a, Zm7 lo hi b with | some x, some y => some (x - y) | _, _ => none)
  | 111 => some 255
  | _ => none)
 | _ => none
end
def LB.put (i : Nat) (c : Int) : LB -> LB
 | [] => [(i, c)]
 | (j, l) :: r => bif Nat.beq j i then (j, max l c) :: r else bif Nat.blt j i then (i, c) :: (j, l) :: r else (j, l) :: LB.put i c r
def ZjF (lo : LB) (e : SX) : LB :=
 match e with
 | .f2 f (.int c) (.at .int i) => (match f with | 47 => LB.put i c lo | 46 => LB.put i (c + 1) lo | _ => lo)
 | _ => lo
def Zjm (hi : LB) (e : SX) : LB :=
 match e with
 | .f2 f (.at .int i) (.int c) => (match f with | 47 => LB.put i (-c) hi | 46 => LB.put i (-(c - 1)) hi | _ => hi)
 | _ => hi
def Zkd : SX -> SX -> Bool
 | .f2 f x (.f2 g y (.int (.ofNat (_ + 1)))), .f2 f' x' y' => bif (bif Nat.beq f 41 then (bif Nat.beq g 40 then Nat.beq f' 41 else false) else false) then (bif SX.bq x x' then SX.bq y y' else false) else false
 | _, _ => false
def Zqx (lo hi : LB) : SX -> Bool
 | .bool b => b
 | .f1 f x => (match f with
  | 23 => (match Zm7 lo hi x, Znd lo hi x with | some l, some u => bif decide (-9223372036854775808 <= l) then decide (u <= 9223372036854775807) else false | _, _ => false)
  | _ => false)
 | .f2 f a b => (match f with
  | 47 => (match Znd lo hi a, Zm7 lo hi b with | some u, some l => decide (u <= l) | _, _ => false)
  | 46 => bif Zkd a b then true else (match Znd lo hi a, Zm7 lo hi b with | some u, some l => decide (u < l) | _, _ => false)
  | _ => false)
 | _ => false
def allB (c : Int) : List UInt8 -> Bool
 | [] => true
 | x :: l => bif ibq (.ofNat x.toNat) c then allB c l else false
def Zjt (lo hi : LB) : SX -> Bool
 | .bool b => !b
 | .f1 f x => (match f, x with
  | 2, .f2 45 (.f2 111 (.byt l) i) (.int c) => (match Zm7 lo hi i, Znd lo hi i with
   | some (.ofNat a), some (.ofNat b) => bif Nat.blt b l.length then allB c ((l.drop a).take (b + 1 - a)) else false
   | _, _ => false)
  | _, _ => false)
 | .f2 f a b => (match f with
  | 47 => (match Zm7 lo hi a, Znd lo hi b with | some l, some u => decide (u < l) | _, _ => false)
  | 46 => (match Zm7 lo hi a, Znd lo hi b with | some l, some u => decide (u <= l) | _, _ => false)
  | _ => false)
 | _ => false
def LB.below (n : Nat) : LB -> LB
 | [] => []
 | (j, l) :: r => bif Nat.blt j n then (j, l) :: r else LB.below n r
def VC.chk : LB -> LB -> VC -> Bool
 | _, _, .tt => true
 | _, _, .ff _ => false
 | lo, hi, .and a b => bif VC.chk lo hi a then VC.chk lo hi b else false
 | lo, hi, .imp e a => bif Zjt lo hi e then true else VC.chk (ZjF lo e) (Zjm hi e) a
 | lo, hi, .need e a => bif Zqx lo hi e then VC.chk (ZjF lo e) (Zjm hi e) a else false
 | lo, hi, .all n _ a => VC.chk (LB.below n lo) (LB.below n hi) a
section
variable {G : Type} (S : Sig G)
def ZpT (v : Nat -> Int) (env : LB) : Prop := env.Pairwise (fun a b => b.1 < a.1) /\ ∀ p ∈ env, p.2 <= v p.1
theorem LB.get_ok {v : Nat -> Int} : ∀ {env : LB}, (∀ p ∈ env, p.2 <= v p.1) -> ∀ {i : Nat} {l : Int}, LB.get env i = some l -> l <= v i
 | [], _, _, _, h => nomatch h
 | (j, l') :: r, ho, i, l, h => by
  simp only [LB.get] at h
  cases hb : Nat.beq j i
  ·rw [hb] at h; exact LB.get_ok (fun p hp => ho p (ZPX _ hp)) h
  ·rw [hb] at h; cases h
   have := ho _ ZPZ
   rw [ZPS hb] at this; exact this
theorem ZFh {ρ : Env G} {lo hi : LB} (ho : ∀ p ∈ lo, p.2 <= (ρ p.1).tI) (hh : ∀ p ∈ hi, p.2 <= -(ρ p.1).tI) : ∀ {e : SX},
  (∀ {l : Int}, Zm7 lo hi e = some l -> l <= (e.den S ρ).tI) /\ (∀ {l : Int}, Znd lo hi e = some l -> (e.den S ρ).tI <= l) := by
 intro e
 induction e with
 | int n => exact ⟨fun h => (by simp only [Zm7] at h; cases h; exact ZP2 _), fun h => (by simp only [Znd] at h; cases h; exact ZP2 _)⟩
 | «at» s i =>
  refine ⟨fun h => ?_, fun h => ?_⟩
  ·simp only [Zm7] at h
   cases s <;> simp only [reduceCtorEq] at h
   exact LB.get_ok (v := fun i => (ρ i).tI) ho h
  ·simp only [Znd] at h
   cases s <;> simp only [reduceCtorEq] at h
   split at h
   ·rename_i x hx
    cases h
    have := LB.get_ok (v := fun i => -(ρ i).tI) hh hx
    simp only [SX.den, U.co, U.tIi]
    omega
   ·cases h
 | f1 f a _ =>
  refine ⟨fun h => ?_, fun h => ?_⟩
  ·simp only [Zm7] at h
   split at h <;> cases h
   all_goals simp only [SX.den, ap1, U.tIi]; omega
  ·simp only [Znd] at h; cases h
 | f2 f a b iha ihb =>
  refine ⟨fun h => ?_, fun h => ?_⟩
  ·simp only [Zm7] at h
   split at h
   ·split at h
    ·rename_i x y hx hy
     cases h
     have := iha.1 hx
     have := ihb.1 hy
     simp only [SX.den, ap2, U.tIi]; omega
    ·cases h
   ·split at h
    ·rename_i x y hx hy
     cases h
     have := iha.1 hx
     have := ihb.2 hy
     simp only [SX.den, ap2, U.tIi]; omega
    ·cases h
   ·cases h
    simp only [SX.den, ap2, U.tIi]; omega
   ·cases h
  ·simp only [Znd] at h
   split at h
   ·split at h
    ·rename_i x y hx hy
     cases h
     have := iha.2 hx
     have := ihb.2 hy
     simp only [SX.den, ap2, U.tIi]; omega
    ·cases h
   ·split at h
    ·rename_i x y hx hy
     cases h
     have := iha.2 hx
     have := ihb.1 hy
     simp only [SX.den, ap2, U.tIi]; omega
    ·cases h
   ·cases h
    simp only [SX.den, ap2, U.tIi]
    have := (((a.den S ρ).tB.getD (b.den S ρ).tI.toNat 0)).toNat_lt
    omega
   ·cases h
 | _ => exact ⟨fun h => (by simp only [Zm7] at h; cases h), fun h => (by simp only [Znd] at h; cases h)⟩
theorem LB.put_ok {ρ : Nat -> Int} {i : Nat} {c : Int} (hc : c <= ρ i) : ∀ {env : LB}, ZpT ρ env -> ZpT ρ (LB.put i c env) /\ ∀ p ∈ LB.put i c env, p.1 = i \/ ∃ q ∈ env, q.1 = p.1
 | [], _ => ⟨⟨List.pairwise_singleton _ _, fun p hp => by rw [LB.put, ZPK] at hp; subst hp; exact hc⟩, fun p hp => by rw [LB.put, ZPK] at hp; subst hp; exact .inl rfl⟩
 | (j, l) :: r, h => by
  obtain ⟨hp, ho⟩ := h
  rw [List.pairwise_cons] at hp
  simp only [LB.put]
  cases h1 : Nat.beq j i
  ·cases h2 : Nat.blt j i
   ·have ih := LB.put_ok hc (env := r) ⟨hp.2, fun p hq => ho p (ZPX _ hq)⟩
    have hij : i < j := by
     have e1 : ¬ j < i := fun hh => by rw [<- Nat.blt_eq] at hh; rw [h2] at hh; cases hh
     have e2 : j ≠ i := fun hh => by rw [hh, Nat.beq_refl] at h1; cases h1
     omega
    simp only [cond_false]
    refine ⟨⟨List.pairwise_cons.2 ⟨fun p hq => ?_, ih.1.1⟩, fun p hq => ?_⟩, fun p hq => ?_⟩
    ·rcases ih.2 p hq with e | ⟨q, hq', e⟩
     ·rw [e]; exact hij
     ·rw [<- e]; exact hp.1 q hq'
    ·rcases List.mem_cons.1 hq with rfl | hq
     ·exact ho _ ZPZ
     ·exact ih.1.2 p hq
    ·rcases List.mem_cons.1 hq with rfl | hq
     ·exact .inr ⟨_, ZPZ, rfl⟩
     ·rcases ih.2 p hq with e | ⟨q, hq', e⟩
      ·exact .inl e
      ·exact .inr ⟨q, ZPX _ hq', e⟩
   ·rw [Nat.blt_eq] at h2
    simp only [cond_true, cond_false]
    refine ⟨⟨List.pairwise_cons.2 ⟨fun p hq => ?_, List.pairwise_cons.2 hp⟩, fun p hq => ?_⟩, fun p hq => ?_⟩
    ·rcases List.mem_cons.1 hq with rfl | hq
     ·exact h2
     ·have := hp.1 p hq; omega
    ·rcases List.mem_cons.1 hq with rfl | hq
     ·exact hc
     ·exact ho p hq
    ·rcases List.mem_cons.1 hq with rfl | hq
     ·exact .inl rfl
     ·exact .inr ⟨p, hq, rfl⟩
  ·have e := ZPS h1
   subst e
   simp only [cond_true]
   refine ⟨⟨List.pairwise_cons.2 ⟨fun p hq => hp.1 p hq, hp.2⟩, fun p hq => ?_⟩, fun p hq => ?_⟩
   ·rcases List.mem_cons.1 hq with rfl | hq
    ·have := ho (j, l) ZPZ
     simp only at this ⊢; omega
    ·exact ho p (ZPX _ hq)
   ·rcases List.mem_cons.1 hq with rfl | hq
    ·exact .inl rfl
    ·exact .inr ⟨p, ZPX _ hq, rfl⟩
abbrev loV (ρ : Env G) : Nat -> Int := fun i => (ρ i).tI
abbrev hiV (ρ : Env G) : Nat -> Int := fun i => -(ρ i).tI
theorem Zi0 {ρ : Env G} {env : LB} (h : ZpT (loV ρ) env) {e : SX} (he : (e.den S ρ).tP) : ZpT (loV ρ) (ZjF env e) := by
 unfold ZjF
 split
 ·rename_i f c i
  split
  ·have he : decide (c <= (ρ i).tI) = true := he
   exact (LB.put_ok (of_decide_eq_true he) h).1
  ·have he : decide (c < (ρ i).tI) = true := he
   have := of_decide_eq_true he
   exact (LB.put_ok (by simp only [loV]; omega) h).1
  ·exact h
 ·exact h
theorem ZiE {ρ : Env G} {env : LB} (h : ZpT (hiV ρ) env) {e : SX} (he : (e.den S ρ).tP) : ZpT (hiV ρ) (Zjm env e) := by
 unfold Zjm
 split
 ·rename_i f i c
  split
  ·have he : decide ((ρ i).tI <= c) = true := he
   have := of_decide_eq_true he
   exact (LB.put_ok (by simp only [hiV]; omega) h).1
  ·have he : decide ((ρ i).tI < c) = true := he
   have := of_decide_eq_true he
   exact (LB.put_ok (by simp only [hiV]; omega) h).1
  ·exact h
 ·exact h
theorem Zsu {ρ : Env G} {a b : SX} (h : Zkd a b = true) : (a.den S ρ).tI < (b.den S ρ).tI := by
 unfold Zkd at h
 split at h
 ·rename_i f x g y n f' x' y'
  cases h1 : Nat.beq f 41
  ·rw [h1] at h; cases h
  cases h2 : Nat.beq g 40
  ·rw [h1, h2] at h; cases h
  cases h3 : Nat.beq f' 41
  ·rw [h1, h2, h3] at h; cases h
  cases h4 : SX.bq x x'
  ·rw [h1, h2, h3, h4] at h; cases h
  rw [h1, h2, h3, h4] at h
  have e1 := ZPS h1
  have e2 := ZPS h2
  have e3 := ZPS h3
  have e4 := SX.bq_eq h4
  have e5 := SX.bq_eq h
  subst e1; subst e2; subst e3; subst e4; subst e5
  simp only [SX.den, ap2, U.tIi]
  have e6 : (Int.ofNat n.succ : Int) = (n : Int) + 1 := rfl
  rw [e6]
  omega
 ·cases h
theorem Zzy {ρ : Env G} {lo hi : LB} (ho : ZpT (loV ρ) lo) (hh : ZpT (hiV ρ) hi) {e : SX} (he : Zqx lo hi e = true) : (e.den S ρ).tP := by
 have B := @ZFh G S ρ lo hi ho.2 hh.2
 unfold Zqx at he
 split at he
 ·simp [SX.den, he]
 ·rename_i f x
  split at he
  ·split at he
   ·rename_i l u hl hu
    have b1 := (B).1 hl
    have b2 := (B).2 hu
    cases h1 : decide (-9223372036854775808 <= l)
    ·rw [h1] at he; cases he
    rw [h1] at he
    have q1 := of_decide_eq_true h1
    have q2 := of_decide_eq_true he
    show (decide (IntKind.i64.min <= (x.den S ρ).tI) && decide ((x.den S ρ).tI <= IntKind.i64.max)) = true
    rw [Bool.and_eq_true]
    refine ⟨decide_eq_true ?_, decide_eq_true ?_⟩
    ·show (-(2 ^ 63) : Int) <= _; omega
    ·show _ <= (2 ^ 63 - 1 : Int); omega
   ·cases he
  ·cases he
 ·rename_i f a b
  split at he
  ·split at he
   ·rename_i u l hu hl
    have b1 := (B).2 hu
    have b2 := (B).1 hl
    have := of_decide_eq_true he
    show decide ((a.den S ρ).tI <= (b.den S ρ).tI) = true
    exact decide_eq_true (by omega)
   ·cases he
  ·cases hf : Zkd a b
   ·rw [hf] at he
    simp only [cond_false] at he
    split at he
    ·rename_i u l hu hl
     have b1 := (B).2 hu
     have b2 := (B).1 hl
     have := of_decide_eq_true he
     show decide ((a.den S ρ).tI < (b.den S ρ).tI) = true
     exact decide_eq_true (by omega)
    ·cases he
   ·show decide ((a.den S ρ).tI < (b.den S ρ).tI) = true
    exact decide_eq_true (Zsu S hf)
  ·cases he
 ·cases he
theorem ZCk {c : Int} : ∀ {l : List UInt8}, allB c l = true -> ∀ x ∈ l, ((x.toNat : Nat) : Int) = c
 | [], _, x, hx => nomatch hx
 | y :: l, h, x, hx => by
  simp only [allB] at h
  cases h1 : ibq (.ofNat y.toNat) c
  ·rw [h1] at h; cases h
  ·rw [h1] at h
   rcases List.mem_cons.1 hx with rfl | hx
   ·exact Zfc h1
   ·exact ZCk h x hx
theorem ZsH {ρ : Env G} {lo hi : LB} (ho : ZpT (loV ρ) lo) (hh : ZpT (hiV ρ) hi) {e : SX} (he : Zjt lo hi e = true) : ¬ (e.den S ρ).tP := by
 have B := @ZFh G S ρ lo hi ho.2 hh.2
 unfold Zjt at he
 split at he
 ·rename_i b; cases b <;> simp [SX.den] at he ⊢
 ·rename_i f x
  split at he
  ·rename_i l i c
   split at he
   ·rename_i a b hl hu
    have b1 := (B).1 hl
    have b2 := (B).2 hu
    cases h1 : Nat.blt b l.length
    ·rw [h1] at he; cases he
    rw [h1] at he
    simp only [cond_true] at he
    rw [Nat.blt_eq] at h1
    have c1 : (Int.ofNat a : Int) = (a : Int) := rfl
    have c2 : (Int.ofNat b : Int) = (b : Int) := rfl
    have hlt : (i.den S ρ).tI.toNat < l.length := by omega
    have hval : ((((l.getD (i.den S ρ).tI.toNat 0).toNat : Nat) : Int)) = c := by
     apply ZCk he
     rw [ZPR, ZPU hlt]
     apply List.mem_iff_getElem?.2
     refine ⟨(i.den S ρ).tI.toNat - a, ?_⟩
     rw [List.getElem?_take_of_lt (by omega), ZQg, show a + ((i.den S ρ).tI.toNat - a) = (i.den S ρ).tI.toNat by omega, ZPU hlt]
     rfl
    intro hq
    have hq : (!((((l.getD (i.den S ρ).tI.toNat 0).toNat : Nat) : Int) == c)) = true := hq
    rw [hval] at hq
    simp at hq
   ·cases he
  ·cases he
 ·rename_i f a b
  split at he
  ·split at he
   ·rename_i l u hl hu
    have b1 := (B).1 hl
    have b2 := (B).2 hu
    have := of_decide_eq_true he
    intro hq
    have hq : decide ((a.den S ρ).tI <= (b.den S ρ).tI) = true := hq
    have := of_decide_eq_true hq
    omega
   ·cases he
  ·split at he
   ·rename_i l u hl hu
    have b1 := (B).1 hl
    have b2 := (B).2 hu
    have := of_decide_eq_true he
    intro hq
    have hq : decide ((a.den S ρ).tI < (b.den S ρ).tI) = true := hq
    have := of_decide_eq_true hq
    omega
   ·cases he
  ·cases he
 ·cases he
theorem Zkx {v v' : Nat -> Int} {n : Nat} (hv : ∀ i, i < n -> v' i = v i) : ∀ {env : LB}, ZpT v env -> ZpT v' (LB.below n env)
 | [], _ => ⟨List.Pairwise.nil, fun _ h => nomatch h⟩
 | (j, l) :: r, h => by
  simp only [LB.below]
  obtain ⟨hp, ho⟩ := h
  have hp' := List.pairwise_cons.1 hp
  cases h1 : Nat.blt j n
  ·exact Zkx hv ⟨hp'.2, fun p hq => ho p (ZPX _ hq)⟩
  ·rw [Nat.blt_eq] at h1
   refine ⟨hp, fun p hq => ?_⟩
   have hlt : p.1 < n := by
    rcases List.mem_cons.1 hq with rfl | hq
    ·exact h1
    ·have := hp'.1 p hq; simp only at this; omega
   rw [hv _ hlt]; exact ho p hq
theorem ZuE (ρ : Env G) (n : Nat) (u : U G) (i : Nat) (h : i < n) : ρ.upd n u i = ρ i := by unfold Env.upd; rw [if_neg (by omega)]
theorem VC.chk_ok : ∀ (v : VC) (lo hi : LB) (ρ : Env G), ZpT (loV ρ) lo -> ZpT (hiV ρ) hi -> VC.chk lo hi v = true -> v.den S ρ := by
 intro v
 induction v with
 | tt => intro _ _ _ _ _ _; trivial
 | ff n => intro _ _ _ _ _ h; cases h
 | and a b iha ihb =>
  intro lo hi ρ ho hh h
  simp only [VC.chk] at h
  cases h1 : VC.chk lo hi a
  ·rw [h1] at h; cases h
  ·rw [h1] at h; exact ⟨iha lo hi ρ ho hh h1, ihb lo hi ρ ho hh h⟩
 | imp e a ih =>
  intro lo hi ρ ho hh h he
  simp only [VC.chk] at h
  cases h1 : Zjt lo hi e
  ·rw [h1] at h; exact ih _ _ ρ (Zi0 S ho he) (ZiE S hh he) h
  ·exact absurd he (ZsH S ho hh h1)
 | need e a ih =>
  intro lo hi ρ ho hh h
  simp only [VC.chk] at h
  cases h1 : Zqx lo hi e
  ·rw [h1] at h; cases h
  ·rw [h1] at h
   have he := Zzy S ho hh h1
   exact ⟨he, ih _ _ ρ (Zi0 S ho he) (ZiE S hh he) h⟩
 | all n s a ih =>
  intro lo hi ρ ho hh h
  have key : ∀ u : U G, a.den S (ρ.upd n u) := fun u => ih _ _ _ (Zkx (fun i hi => by simp only [loV, ZuE ρ n u i hi]) ho) (Zkx (fun i hi => by simp only [hiV, ZuE ρ n u i hi]) hh) h
  cases s <;> exact fun x => key _
end
end
end Go.Eng
namespace Go.Eng
noncomputable section
section
variable {G : Type}
theorem ZCF (a b : U G) : (ap2 155 a b).tP = (a = b) := by
 show (@decide (a = b) (Classical.propDecidable _) = true) = _
 exact propext ⟨fun h => @of_decide_eq_true _ (Classical.propDecidable _) h, fun h => @decide_eq_true _ (Classical.propDecidable _) h⟩
theorem ZNk (a : U G) : ap1 2 a = .bool (!a.toBool) := rfl
theorem ZDe (a : U G) : ap1 3 a = .int (if a.toBool then 1 else 0) := rfl
theorem ZFF (a : U G) : ap1 14 a = .int (IntKind.wrap .u8 a.tI) := rfl
theorem ZPw (a : U G) : ap1 23 a = .bool (decide (IntKind.min .i64 <= a.tI) && decide (a.tI <= IntKind.max .i64)) := rfl
theorem Zfb (a : U G) : ap1 30 a = .int a.tN.length := rfl
theorem Zsl (a : U G) : ap1 31 a = .int a.tB.length := rfl
theorem Yd (a : U G) : ap1 32 a = .int a.tR.length := rfl
theorem Zrf (a : U G) : ap1 33 a = .int a.tM.length := rfl
theorem Yh (a : U G) : ap1 152 a = .ints [] := rfl
theorem ZH4 (a : U G) : ap1 153 a = .bytes [] := rfl
theorem ZoG (a : U G) : ap1 154 a = .rows [] := rfl
theorem ZkI (a : U G) : ap1 155 a = .amap [] := rfl
theorem ZrD (a : U G) : ap1 35 a = .int (Zr a.tB : Nat) := rfl
theorem Zr2 (a : U G) : ap1 36 a = .bytes (Yc a.tI.toNat) := rfl
theorem Zxm (a b : U G) : ap2 40 a b = .int (a.tI + b.tI) := rfl
theorem ZPp (a b : U G) : ap2 41 a b = .int (a.tI - b.tI) := rfl
theorem ZOy (a b : U G) : ap2 42 a b = .int (a.tI * b.tI) := rfl
theorem Zqt (a b : U G) : ap2 43 a b = .int (a.tI.tdiv b.tI) := rfl
theorem ZPy (a b : U G) : ap2 44 a b = .int (a.tI.tmod b.tI) := rfl
theorem ZpP (a b : U G) : ap2 45 a b = .bool (a.tI == b.tI) := rfl
theorem Zql (a b : U G) : ap2 48 a b = .bool (a.toBool == b.toBool) := rfl
theorem Zp5 (a b : U G) : ap2 49 a b = .bool (a.toBool && b.toBool) := rfl
theorem ZMp (a b : U G) : ap2 50 a b = .bool (a.toBool || b.toBool) := rfl
theorem Zkj (a b : U G) : ap2 110 a b = .int (a.tN.getD b.tI.toNat 0) := rfl
theorem ZF2 (a b : U G) : ap2 111 a b = .int ((a.tB.getD b.tI.toNat 0).toNat : Nat) := rfl
theorem Zjf (a b : U G) : ap2 113 a b = .ints (a.tN.take b.tI.toNat) := rfl
theorem Zzm (a b : U G) : ap2 114 a b = .bytes (a.tB.take b.tI.toNat) := rfl
theorem Zwe (a b : U G) : ap2 115 a b = .rows (a.tR.take b.tI.toNat) := rfl
theorem ZId (a b : U G) : ap2 117 a b = .bytes (a.tB.drop b.tI.toNat) := rfl
theorem ZvI (a b : U G) : ap2 118 a b = .rows (a.tR.drop b.tI.toNat) := rfl
theorem ZF5 (a b : U G) : ap2 120 a b = .bytes (a.tB ++ b.tB) := rfl
theorem Zur (a b : U G) : ap2 121 a b = .rows (a.tR ++ b.tR) := rfl
theorem Yj (a b : U G) : ap2 122 a b = .ints (a.tI :: b.tN) := rfl
theorem ZIQ (a b : U G) : ap2 123 a b = .bytes (UInt8.ofNat a.tI.toNat :: b.tB) := rfl
theorem Yi (a b : U G) : ap2 124 a b = .rows (a.tN :: b.tR) := rfl
theorem ZkJ (a b : U G) : ap2 126 a b = .bytes (List.replicate a.tI.toNat (UInt8.ofNat b.tI.toNat)) := rfl
theorem ZjW (a b : U G) : ap2 141 a b = .bool (Zx a.tM b.tI) := rfl
theorem Zkz (a b : U G) : ap2 143 a b = .amap (Y0 a.tM b.tI) := rfl
theorem Zjq (a b : U G) : ap2 150 a b = .bool (a.tB == b.tB) := rfl
theorem ZF9 (a b : U G) : ap2 153 a b = .bool (a.tN == b.tN) := rfl
theorem ZaO (a b c : U G) : ap3 112 a b c = .int ((a.tR.getD b.tI.toNat []).getD c.tI.toNat 0) := rfl
theorem ZI7 (a b c : U G) : ap3 131 a b c = .bytes (a.tB.set b.tI.toNat (UInt8.ofNat c.tI.toNat)) := rfl
theorem Zjs (a b c : U G) : ap3 132 a b c = .rows (a.tR.set b.tI.toNat c.tN) := rfl
theorem ZjB (a b c : U G) : ap3 140 a b c = .int (YB a.tI b.tM c.tI) := rfl
theorem Zkq (a b c : U G) : ap3 142 a b c = .amap (Yw a.tM b.tI c.tI) := rfl
def ZMk (x y : Int) : Int := if y < x then y else x
def imax (x y : Int) : Int := if y > x then y else x
theorem ZKc {G : Type} (a b : U G) : ap2 51 a b = .int (ZMk a.tI b.tI) := rfl
theorem Zj8 {G : Type} (a b : U G) : ap2 52 a b = .int (imax a.tI b.tI) := rfl
def leB (x y : Int) : Bool := decide (x <= y)
def ltB (x y : Int) : Bool := decide (x < y)
theorem t47 {G : Type} (a b : U G) : (ap2 47 a b).toBool = leB a.tI b.tI := rfl
theorem t46 {G : Type} (a b : U G) : (ap2 46 a b).toBool = ltB a.tI b.tI := rfl
theorem Za {x y : Int} : leB x y = true ↔ x <= y := by unfold leB; simp
theorem Zes {x y : Int} : ltB x y = true ↔ x < y := by unfold ltB; simp
theorem ZfG {p : Prop} {i : Decidable p} : (@decide p i = true) = p := propext ⟨fun h => of_decide_eq_true h, fun h => decide_eq_true h⟩
theorem p45 {G : Type} (a b : U G) : (ap2 45 a b).tP = (a.tI = b.tI) := by simp [ZpP]
theorem p153 {G : Type} (a b : U G) : (ap2 153 a b).tP = (a.tN = b.tN) := by simp [ZF9]
theorem p46 {G : Type} (a b : U G) : (ap2 46 a b).tP = (a.tI < b.tI) := ZfG
theorem p47 {G : Type} (a b : U G) : (ap2 47 a b).tP = (a.tI <= b.tI) := ZfG
theorem ZGK {G : Type} (a b : U G) : (ap1 2 (ap2 45 a b)).tP = ¬ (a.tI = b.tI) := by simp [ZNk, ZpP]
theorem p50 {G : Type} (a b : U G) : (ap2 50 a b).tP = (a.toBool = true \/ b.toBool = true) := by simp [ZMp]
theorem b46 {G : Type} (a b : U G) : ((ap2 46 a b).toBool = true) = (a.tI < b.tI) := p46 a b
theorem b47 {G : Type} (a b : U G) : ((ap2 47 a b).toBool = true) = (a.tI <= b.tI) := p47 a b
theorem p23 {G : Type} (a : U G) : (ap1 23 a).tP = (IntKind.min .i64 <= a.tI /\ a.tI <= IntKind.max .i64) := by
 rw [ZPw, U.tPi, Bool.and_eq_true, ZfG, ZfG]
end
/-! ### Bits of words without sign, and the check sum -/
end
end Go.Eng
namespace Go.Eng
noncomputable section
open Go.RowKit (Below)
open Go.ChangeShapes Go.WideShapes
theorem ZiJ {H : Type} {enc : TypeId × Value -> H} {P : Program} {f : Func} {s : ChangeSpec} {apart Zbo handsOn again : Bool} {W W' : World} {args : Array Value} {v : Value} {ds gs : List (DataW H)} {before pa pv : List MemPlace}
  (hW : DataW.Whole enc P f.params.toList s.vars apart W args.toList ds gs before)
  (hres : ∀ (b : Nat) (sp : Nat -> Bool) (hd : Bool), DataW.TrodAll enc P W' b sp hd f.resultTypes.toList (v.resultList f.resultTypes.size) (s.fn H (ds ++ gs)).results [])
  (hargs : ∀ sp : Nat -> Bool, (∀ p ∈ before, sp p.block = true) -> DataW.TrodAll enc P W' 0 sp true f.params.toList args.toList (s.fn H (ds ++ gs)).args pa)
  (hvars : ∀ sp : Nat -> Bool, (∀ p ∈ before, sp p.block = true) -> DataW.TrodVars enc P W' sp s.vars (s.fn H (ds ++ gs)).vars pv)
  (hps : before = pa ++ pv) (hb : Below W.heap.size W W')
  (hok : ∀ (j : Nat) (t : TypeId) (r : Value), f.resultTypes[j]? = some t -> (v.resultList f.resultTypes.size)[j]? = some r -> Value.okWide P W' .any 0 t r) :
  s.post enc P f apart Zbo handsOn again W args v W' := by
 have hlt := fun p (hp : p ∈ before) => hW.lt p hp
 have hold : ∀ p ∈ before, (fun b => decide (b < W.heap.size)) p.block = true := fun p hp => by simpa using hlt p hp
 refine ⟨ds, gs, before, [], pa, pv, hW, hres _ _ _, hargs _ hold, hvars _ hold, World.keptBut_mono (fun p hp => ⟨hp, ?_⟩) (hb.frame (· ∈ before)), fun _ => ?_⟩
 ·rw [hps, ZQc] at hp; exact Or.inr hp
 ·obtain ⟨_, _, _, _, _, hz, hn⟩ := hW
  refine ⟨hok, _, _, ([] ++ pa) ++ pv, ⟨[] ++ pa, pv, trodAll_append (hargs _ (fun _ _ => rfl)) (hres _ _ _), hvars _ (fun _ _ => rfl), rfl, fun b off hp => ?_, fun ha => ?_⟩, fun p hp _ => ?_⟩
  ·have hp' : MemPlace.cell b off ∈ before := by rw [hps]; simpa using hp
   have h1 := hlt _ hp'
   rw [hb.frozen (p := ⟨b, off, none⟩) h1]
   exact hz b off hp'
  ·have := hn ha
   rw [hps] at this
   simpa using this
  ·rw [hps]; simpa using hp
theorem ZqA (w : World) : Sat w (Zd emp emp) w := by
 rw [emp_star]
 exact ⟨Hl.none, rfl, ⟨fun _ _ _ _ h => (by cases h), fun _ _ _ h => (by cases h), Below.refl _ _⟩⟩
end
end Go.Eng
namespace Go.Proofs.YtidlngnhjffepaaGreat
noncomputable section
open Go.Eng
def ai (n : Nat) : SX := .at .int n
def di (n : Nat) : SX := .at .int (1000000 + n)
def rA (n : Nat) : SX := .at .rows n
def iA (n : Nat) : SX := .at .ints n
def gA (n : Nat) : SX := .at .g n
def bA (n : Nat) : SX := .at .bytes n
def mA (n : Nat) : SX := .at .amap n
def qA (n : Nat) : SX := .at .bool n
def z0 : SX := .int 0
def Zjb : SX := .f1 152 (.int 0)
def Zbn : SX := .f1 154 (.int 0)
def tk (x n : SX) : SX := .f2 115 x n
def tkB (x n : SX) : SX := .f2 114 x n
def Zh (x : SX) : SX := .f1 32 x
def Zcs (x : SX) : SX := .f1 30 x
def Zm9 (x : SX) : SX := .f1 31 x
def eqS (a b : SX) : SX := .f2 155 a b
def usI (k : Nat) (a b c : SX) : SX := .us .int k a b c (.int 0)
def usB (k : Nat) (a b c : SX) : SX := .us .bool k a b c (.int 0)
def usR (k : Nat) (a b c : SX) : SX := .us .rows k a b c (.int 0)
def usN (k : Nat) (a b c : SX) : SX := .us .ints k a b c (.int 0)
def usG (k : Nat) (a b c : SX) : SX := .us .g k a b c (.int 0)
def usY (k : Nat) (a b c : SX) : SX := .us .bytes k a b c (.int 0)
def ZhM (a : SX) : SX := SX.mk2 40 a (.int 1)
def Zu (a b : SX) : SX := .f2 124 a b
def ZoV (n : SX) : SX := .f2 122 n Zjb
def ZN (a b : SX) : SX := .f2 122 a (.f2 122 b Zjb)
def ZaC (a b c : SX) : SX := .f2 122 a (ZN b c)
def Zc7 (a b c d : SX) : SX := .f2 122 a (ZaC b c d)
def Zdx (a b c d e : SX) : SX := .f2 122 a (Zc7 b c d e)
def Zbm (a b c d e f : SX) : SX := .f2 122 a (Zdx b c d e f)
def ZGr (b l c : SX) : SX := ZaC b l c
def nt (x i : SX) (k : Nat) : SX := .f3 112 x i (.int (k : Nat))
def slC (b n c : SX) (s : Nat) : SC := .slice b z0 z0 z0 n c s
def sl1 (b n c : SX) : SC := slC b n c 1
def slT : En := .rows [.slice 1]
def iE : En := .ints .i64
def iAr (b x c : SX) : Ch := .arr iE b x c
def bAr (b x c : SX) : Ch := .arr .bytes b x c
def slA (b y c : SX) : Ch := .arr slT b y c
def rdI (j : Nat) (b : Nat) : Ch := .rd j iE (ai b) (ai (b + 1)) (iA (b + 4)) (ai (b + 5))
def g0 (r : List Int) : Int := r.getD 0 0
def g1 (r : List Int) : Int := r.getD 1 0
def g2 (r : List Int) : Int := r.getD 2 0
def slV (b n c : Int) : Value := .slice (if b < 0 then none else some ⟨b.toNat, 0, none⟩) n.toNat c.toNat
def Zn (p : Prop) : Bool := @decide p (Classical.propDecidable p)
theorem Zj {p : Prop} : (Zn p = true) = p := propext ⟨fun h => @of_decide_eq_true p (Classical.propDecidable p) h, fun h => @decide_eq_true p (Classical.propDecidable p) h⟩
def sig0 : Sig Unit := { dg := (), ch := fun _ => true, usr := fun _ _ _ _ _ => .int 0, prd := fun _ _ _ _ => emp }
def bAD (b : Int) (x : List UInt8) (c : Int) : HProp := ZK sig0 .bytes (.int b) (.bytes x) (.int c)
def iAD (b : Int) (x : List Int) (c : Int) : HProp := ZK sig0 iE (.int b) (.ints x) (.int c)
def rAD (e : En) (b : Int) (x : List (List Int)) (c : Int) : HProp := ZK sig0 e (.int b) (.rows x) (.int c)
section
variable {G : Type}
theorem ZcQ (S : Sig G) (ρ : Go.Eng.Env G) (b n c : SX) (s : Nat) : (slC b n c s).den S ρ = slV (b.den S ρ).tI (n.den S ρ).tI (c.den S ρ).tI := by
 simp [slC, SC.den, slV, z0, SX.den]
theorem Zp (S : Sig G) (u : U G) : U.co S .int u = .int u.tI := rfl
theorem YQ (S : Sig G) (u : U G) : U.co S .bool u = .bool u.toBool := rfl
theorem Zj6 (S : Sig G) (u : U G) : U.co S .ints u = .ints u.tN := rfl
theorem Zw (S : Sig G) (u : U G) : U.co S .rows u = .rows u.tR := rfl
theorem ZG (S : Sig G) (u : U G) : U.co S .bytes u = .bytes u.tB := rfl
theorem Ze6 (S : Sig G) (u : U G) : U.co S .amap u = .amap u.tM := rfl
theorem ZFx (S : Sig G) (x : G) : U.co S .g (.g x) = .g x := rfl
theorem i64lo : IntKind.min .i64 = -9223372036854775808 := rfl
theorem i64hi : IntKind.max .i64 = 9223372036854775807 := rfl
theorem ZFN : Int.toNat 1 = 1 := rfl
theorem w_u8 (n : Int) : IntKind.u8.wrap n = n % 256 := by simp [IntKind.wrap, IntKind.bits, IntKind.signed]
def ZKL (a b : Int) : Int := if a < b then 1 else 0
theorem ZBR (a b : U G) : ap1 3 (ap2 46 a b) = .int (ZKL a.tI b.tI) := by
 rw [ZDe, t46]; unfold ZKL ltB
 by_cases h : a.tI < b.tI <;> simp [h]
end
theorem Z5 {α : Type} {R : List α} {d : α} {n j : Nat} (h : j < n) : (R.take n).getD j d = R.getD j d := by
 rw [ZPR, ZPR, List.getElem?_take_of_lt h]
theorem ZL {G : Type} (S : Sig G) {sp : Ctr} (H : ∀ (T : Sig G) (w0 : World) (ρ : Go.Eng.Env G) (h : Hl), T.usr = S.usr -> T.prd = S.prd -> T.dg = S.dg -> (∀ e ∈ sp.reqs, (e.den T ρ).tP) -> hpDen T ρ w0 sp.pre h →
  ∃ ρ', Ext sp.ss.length ρ ρ' /\ hpDen T ρ' w0 sp.post h /\ ∀ x ∈ sp.facts, (x.den T ρ').tP) : YH S sp := by
 intro ch w0 F ρ w hr hs
 obtain ⟨x, ⟨a, b, d, rfl, ha, hb⟩, hi⟩ := hs
 have e : ∀ (e : SX) ρ, e.den (S.wc ch) ρ = e.den S ρ := fun e ρ => SX.den_wc S ρ ch e
 obtain ⟨ρ', h1, h2, h3⟩ := H (S.wc ch) w0 ρ a rfl rfl rfl (fun q hq => by rw [e]; exact hr q hq) ha
 exact ⟨ρ', h1, ⟨_, ⟨a, b, d, rfl, h2, hb⟩, hi⟩, fun q hq => by rw [<- e]; exact h3 q hq⟩
theorem ZeT {G : Type} {S : Sig G} {e : En} {b x c : U G} {h : Hl} (hd : ZK S e b x c h) : (e.vals x).length <= c.tI.toNat * e.stride /\ 0 <= c.tI := by
 obtain ⟨sp, h1, h2, _⟩ := hd; exact ⟨by omega, h2⟩
theorem ZEY {G : Type} (fs : List Go.Eng.Fd) (x : List (List Int)) : ((En.rows fs).vals (.rows x : U G)).length = x.length * fs.length := by
 simp only [En.vals, U.tRi]
 induction x with
 | nil => simp
 | cons r x ih => rw [List.flatMap_cons, ZPW, ih, ZZ, ZQb, Nat.add_mul]; omega
theorem ZlC {fs : List Go.Eng.Fd} (hf : 0 < fs.length) {b c : Int} {x : List (List Int)} {h : Hl} (hd : rAD (.rows fs) b x c h) : (x.length : Int) <= c := by
 obtain ⟨h1, h2⟩ := ZeT hd
 rw [ZEY] at h1
 have : x.length <= c.toNat := Nat.le_of_mul_le_mul_right h1 hf
 have h2 : 0 <= c := h2
 omega
theorem ZOJ {b c : Int} {x : List Int} {h : Hl} (hd : iAD b x c h) : (x.length : Int) <= c := by
 obtain ⟨h1, h2⟩ := ZeT hd
 have e1 : (iE.vals (.ints x : U Unit)).length = x.length := by simp [iE, En.vals]
 have e2 : iE.stride = 1 := rfl
 rw [e1, e2] at h1
 have h2 : 0 <= c := h2
 have h1 : x.length <= c.toNat * 1 := h1
 omega
theorem ZCM {b c : Int} {x : List UInt8} {h : Hl} (n : Nat) (hd : bAD b x c h) : bAD b (x.take n) c h := by
 obtain ⟨sp, h1, h2, h3, h4⟩ := hd
 have e : ∀ y : List UInt8, En.bytes.vals (.bytes y : U Unit) = y.map fun b => Value.int .u8 (b.toNat : Nat) := fun _ => rfl
 refine ⟨(x.drop n).map (fun b => Value.int .u8 (b.toNat : Nat)) ++ sp, ?_, h2, h3, ?_⟩
 ·rw [e] at h1 ⊢
  rw [ZP1] at h1 ⊢
  rw [ZPW, ZP1, ZPT, ZP5]; omega
 ·rw [e] at h4 ⊢
  rw [<- ZQf, <- ZP7, List.take_append_drop]
  exact h4
theorem Zci (fs : List Go.Eng.Fd) : rAD (.rows fs) (-1) [] 0 = emp := by
 funext h
 have e0 : (En.rows fs).vals (.rows [] : U Unit) = [] := rfl
 refine propext ⟨fun hx => ?_, fun hx => ⟨[], by rw [e0]; simp, ZP2 0, .inr rfl, by rw [e0]; show row _ 0 [] true h; rw [Zcj]; exact hx⟩⟩
 obtain ⟨sp, l1, _, _, l4⟩ := hx
 have : sp = [] := ZP6 (by rw [e0] at l1; simpa using l1)
 subst this
 rw [e0] at l4
 have l4 : row _ 0 [] true h := l4
 rw [Zcj] at l4
 exact l4
theorem Zz3 : iAD (-1) [] 0 = emp := by
 funext h
 refine propext ⟨fun hx => ?_, fun hx => ⟨[], rfl, ZP2 0, .inr rfl, by show row _ 0 [] true h; rw [Zcj]; exact hx⟩⟩
 obtain ⟨sp, l1, _, _, l4⟩ := hx
 have : sp = [] := ZP6 (by have : (iE.vals (.ints [] : U Unit)).length = 0 := rfl; rw [this] at l1; simpa using l1)
 subst this
 have l4 : row _ 0 [] true h := l4
 rw [Zcj] at l4
 exact l4
theorem Zta {A B B' : HProp} {h : Hl} (hs : Zd A B h) (f : ∀ h, B h -> B' h) : Zd A B' h := Zt (fun _ x => x) f h hs
theorem Zd1 {A B : HProp} {h : Hl} (hs : Zd A B h) : ∃ a b, A a /\ B b := let ⟨a, b, _, _, x, y⟩ := hs; ⟨a, b, x, y⟩
theorem ZbX {α : Type} {k : List α} {d : α} {i : Nat} (hi : i < k.length) : k = k.take i ++ ([k.getD i d] ++ k.drop (i + 1)) := by
 rw [List.singleton_append, ZPR, ZPU hi, ZPM, <- List.drop_eq_getElem_cons hi, List.take_append_drop]
def ZE8 : Ctr := ⟨[], [], [], [], [], .tup [], [iAr (.int (-1)) Zjb z0], []⟩
theorem ZiZ {G : Type} (S : Sig G) : YH S ZE8 := by
 refine ZL S fun T w0 ρ h hu hp hd hr hpre => ⟨ρ, Ext.refl _ _, ?_, by intro x hx; exact nomatch hx⟩
 have e1 : hpDen T ρ w0 ZE8.pre = emp := rfl
 have e2 : hpDen T ρ w0 ZE8.post = Zd (iAD (-1) [] 0) emp := rfl
 rw [e1] at hpre
 rw [e2, Zc, Zz3]; exact hpre
/-! ### What the run is told, piece by piece -/
section
variable {G : Type} (S : Sig G) (P : Program)
def ZkE : List (Nat × List Ctr) -> Prop
 | [] => True
 | p :: l => (∀ sp ∈ p.2, sp.wf = true /\ ZA S P p.1 sp) /\ ZkE l
def ZqM : List (Nat × List Ctr) -> Prop
 | [] => True
 | p :: l => (∀ sp ∈ p.2, sp.wf = true /\ Znl S P p.1 sp) /\ ZqM l
def AnnOk : Ann -> Prop
 | .ghost sp _ => sp.wf = true /\ YH S sp
 | .inv _ => True
 | .split _ => True
 | .iff _ => True
 | .cut _ _ _ _ => True
def ZzA : List (Nat × Ann) -> Prop
 | [] => True
 | p :: l => AnnOk S p.2 /\ ZzA l
def Zrb : List (Nat × List (Nat × Ann)) -> Prop
 | [] => True
 | p :: l => ZzA S p.2 /\ Zrb l
variable {S} {P}
theorem ZkE.get {f : Nat} {sps : List Ctr} : ∀ {l : List (Nat × List Ctr)}, ZkE S P l -> ZbH l f = some sps -> ∀ sp ∈ sps, sp.wf = true /\ ZA S P f sp
 | [], _, h => by cases h
 | (i, a) :: l, h1, h => by
  unfold ZbH at h
  cases hb : Nat.beq i f
  ·rw [hb] at h; exact h1.2.get h
  ·rw [hb] at h; cases h; rw [<- ZPS hb]; exact h1.1
theorem ZqM.get {f : Nat} {sps : List Ctr} : ∀ {l : List (Nat × List Ctr)}, ZqM S P l -> ZbH l f = some sps -> ∀ sp ∈ sps, sp.wf = true /\ Znl S P f sp
 | [], _, h => by cases h
 | (i, a) :: l, h1, h => by
  unfold ZbH at h
  cases hb : Nat.beq i f
  ·rw [hb] at h; exact h1.2.get h
  ·rw [hb] at h; cases h; rw [<- ZPS hb]; exact h1.1
theorem ZzA.get {i : Nat} {sp : Ctr} {args : List Operand} : ∀ {l : List (Nat × Ann)}, ZzA S l -> (i, Ann.ghost sp args) ∈ l -> sp.wf = true /\ YH S sp
 | [], _, h => by cases h
 | p :: l, h1, h => by
  rcases List.mem_cons.1 h with rfl | h
  ·exact h1.1
  ·exact h1.2.get h
theorem Zrb.get {f : Nat} {al : List (Nat × Ann)} : ∀ {l : List (Nat × List (Nat × Ann))}, Zrb S l -> ZbH l f = some al -> ZzA S al
 | [], _, h => by cases h
 | (i, a) :: l, h1, h => by
  unfold ZbH at h
  cases hb : Nat.beq i f
  ·rw [hb] at h; exact h1.2.get h
  ·rw [hb] at h; cases h; exact h1.1
theorem ZU {C : Cx} (h1 : ZkE S P C.specs) (h2 : Zrb S C.anns) (h3 : ZqM S P C.exts) : ZtC S P C :=
 ⟨fun f sps h => h1.get h, fun f l h i sp args hm => (h2.get h).get hm, fun f sps h => h3.get h⟩
theorem Zi {f : Nat} {sp : Ctr} (hw : sp.wf = true) (h : ZA S P f sp) : ∀ q ∈ [sp], q.wf = true /\ ZA S P f q := by
 intro q hq; rw [ZPK] at hq; subst hq; exact ⟨hw, h⟩
end
open Go.Eng
abbrev z : SX := .int 0
abbrev k (n : Int) : SX := .int n
abbrev e (a b : SX) : SX := .f2 45 a b
abbrev t (a b : SX) : SX := .f2 46 a b
abbrev l (a b : SX) : SX := .f2 47 a b
abbrev i (e : SX) (k : VC) : VC := .imp e k
abbrev n (e : SX) (k : VC) : VC := .need e k
abbrev u (n : Nat) (s : Srt) (k : VC) : VC := .all n s k
abbrev k0 : SX := .int 1099511627776
abbrev k1 : SX := .int 140737488355328
abbrev k2 : SX := .int 4294967400
abbrev k3 : SX := .int 1073741824
abbrev k4 : SX := .int 4294967296
abbrev a (n : Nat) : SX := .at .int n
abbrev v (k : Nat) (x : SX) : SX := .us .int k x z z z
abbrev d (k : Nat) (x y : SX) : SX := .us .int k x y z z
abbrev x (k : Nat) (x y w : SX) : SX := .us .int k x y w z
abbrev q (n : Nat) : SX := .at .bool n
abbrev p (k : Nat) (x : SX) : SX := .us .bool k x z z z
abbrev c (k : Nat) (x y : SX) : SX := .us .bool k x y z z
abbrev y (k : Nat) (x y w : SX) : SX := .us .bool k x y w z
abbrev g (n : Nat) : SX := .at .g n
abbrev w (k : Nat) (x : SX) : SX := .us .g k x z z z
abbrev f (k : Nat) (x y : SX) : SX := .us .g k x y z z
abbrev h (k : Nat) (x y w : SX) : SX := .us .g k x y w z
abbrev b (n : Nat) : SX := .at .bytes n
abbrev j (k : Nat) (x : SX) : SX := .us .bytes k x z z z
abbrev wB (k : Nat) (x y : SX) : SX := .us .bytes k x y z z
abbrev hB0 (k : Nat) (x y w : SX) : SX := .us .bytes k x y w z
abbrev s (n : Nat) : SX := .at .ints n
abbrev o (k : Nat) (x : SX) : SX := .us .ints k x z z z
abbrev wN (k : Nat) (x y : SX) : SX := .us .ints k x y z z
abbrev hN (k : Nat) (x y w : SX) : SX := .us .ints k x y w z
abbrev r (n : Nat) : SX := .at .rows n
abbrev vR (k : Nat) (x : SX) : SX := .us .rows k x z z z
abbrev wR (k : Nat) (x y : SX) : SX := .us .rows k x y z z
abbrev hR0 (k : Nat) (x y w : SX) : SX := .us .rows k x y w z
abbrev m (n : Nat) : SX := .at .amap n
abbrev vM (k : Nat) (x : SX) : SX := .us .amap k x z z z
abbrev wM0 (k : Nat) (x y : SX) : SX := .us .amap k x y z z
abbrev hM (k : Nat) (x y w : SX) : SX := .us .amap k x y w z
abbrev sB := (And.intro @U.bool.injEq (And.intro @U.bytes.injEq (And.intro @U.int.injEq (And.intro @U.ints.injEq (And.intro @U.rows.injEq (And.intro @U.tQi (And.intro @U.tBi (And.intro @U.tIi (And.intro @U.tNi (And.intro @U.tPi (And.intro @U.tRi (And.intro @Yh (And.intro @ZH4 (And.intro @ZoG (And.intro @ZNk (And.intro @Zsl (And.intro @Yd (And.intro @ZF2 (And.intro @Zzm (And.intro @Zwe (And.intro @ZId (And.intro @ZF5 (And.intro @Zur (And.intro @Yj (And.intro @ZIQ (And.intro @Yi (And.intro @Zxm (And.intro @ZPp (And.intro @ZOy (And.intro @Zqt (And.intro @ZpP (And.intro @ZKc (And.intro @ZaO (And.intro @ZI7 (And.intro @b46 (And.intro @b47 (And.intro @YQ (And.intro @ZG (And.intro @Zp (And.intro @Zj6 (And.intro @Zw (And.intro @i64hi (And.intro @i64lo (And.intro @p153 (And.intro @ZCF (And.intro @p23 (And.intro @ZGK (And.intro @p45 (And.intro @p46 (And.intro @p47 (And.intro @p50 (And.intro @t46 @t47))))))))))))))))))))))))))))))))))))))))))))))))))))
abbrev sC := (And.intro @U.tMi (And.intro @ZkI (And.intro @Zfb (And.intro @Zrf (And.intro @ZrD (And.intro @Zr2 (And.intro @Zkj (And.intro @Zjf (And.intro @ZkJ (And.intro @ZjW (And.intro @Zkz (And.intro @Zjq (And.intro @ZPy (And.intro @Zql (And.intro @Zp5 (And.intro @Zj8 (And.intro @Zjs (And.intro @ZjB (And.intro @Zkq (And.intro @ZFx (And.intro @Ze6 (And.intro @Za (And.intro @Zes @Zj)))))))))))))))))))))))
end
end Go.Proofs.YtidlngnhjffepaaGreat
namespace Go.Proofs.YtidlngnhjffepaaGreat
noncomputable section
open Go.Eng
abbrev Ent := List Int
def xk (r : Ent) : Int := r.getD 0 0
def xw (r : Ent) : Int := r.getD 1 0
def ZY (r : Ent) : List UInt8 := Yc (r.getD 2 0).toNat
def Zao (r : Ent) : List UInt8 := Yc (r.getD 3 0).toNat
def Zcb (r : Ent) : Bool := !(r.getD 4 0 == 0)
def xt (r : Ent) : Int := r.getD 5 0
def xa (x : List Ent) (i : Nat) : Ent := x.getD i []
def b01 (c : Bool) : Int := if c = true then 1 else 0
theorem ZE {G : Type} (a : U G) : ap1 3 a = .int (b01 a.toBool) := rfl
theorem Zey (c : Bool) : (!(b01 c == 0)) = c := by cases c <;> rfl
/-! ### The reference, over the entries ahead of a place -/
def Yl (x : List Ent) (k w : Int) : Nat -> Int
 | 0 => -1
 | n + 1 => if 0 <= Yl x k w n then Yl x k w n else if xk (xa x n) = k /\ xw (xa x n) = w then n else -1
def Zbs (x : List Ent) (w : Int) : Nat -> Bool × Int
 | 0 => (false, -1)
 | n + 1 =>
  let s := Zbs x w n
  let r := xa x n
  if xk r = 1 /\ xw r = w then (true, s.2)
  else if (xk r = 5 \/ xk r = 6) /\ xw r = w then (false, s.2)
  else if xk r = 7 /\ s.1 = true then (false, (n : Int)) else s
def ZhL (x : List Ent) (f a : Int) : Bool := Zn (0 <= f /\ ∀ i : Nat, f < i -> (i : Int) < a -> xk (xa x i) ≠ 1 /\ xk (xa x i) ≠ 2 /\ xk (xa x i) ≠ 7)
def ZKJ (x : List Ent) (f a : Int) : Prop := ∀ i : Nat, f < i -> (i : Int) < a -> xk (xa x i) ≠ 1 /\ xk (xa x i) ≠ 2 /\ xk (xa x i) ≠ 7
def Zm5 (x : List Ent) (n : Nat) : Bool :=
 let r := xa x n
 let o := Zbs x (xw r) n
 if xk r = 1 then decide (0 <= Yl x 1 (xw r) n)
 else if xk r = 2 then decide (0 < xw r) && !o.1
 else if xk r = 3 \/ xk r = 4 \/ xk r = 6 then !o.1
 else if xk r = 5 then (!o.1 && !ZhL x o.2 n) || decide (0 <= Yl x 5 (xw r) n)
 else false
def ZxY (x : List Ent) : Nat -> Int
 | 0 => 0
 | n + 1 => if xk (xa x n) = 5 then xt (xa x n) else ZxY x n
def Znc (x : List Ent) (n : Nat) : Bool := decide (xk (xa x n) = 5) && !decide (xt (xa x n) = ZxY x n + 1)
def ZcO (x : List Ent) : Nat -> Int × Int
 | 0 => (-1, 0)
 | n + 1 => if 0 <= (ZcO x n).1 then ZcO x n else if Zm5 x n then (n, 1) else if Znc x n then (n, 2) else (-1, 0)
def ZbL (r : Ent) : Bool :=
 let keyed := decide (xk r = 2) || decide (xk r = 3) || decide (xk r = 4)
 if xk r = 1 \/ xk r = 6 then decide (0 < xw r) && (ZY r == []) && (Zao r == []) && !Zcb r && decide (xt r = 0)
 else if xk r = 2 then decide (0 <= xw r) && !(ZY r == []) && (Zcb r || (Zao r == [])) && decide (xt r = 0)
 else if xk r = 3 then decide (0 < xw r) && !(ZY r == []) && Zcb r && decide (xt r = 0)
 else if xk r = 4 then decide (0 < xw r) && !(ZY r == []) && (Zao r == []) && !Zcb r && decide (xt r = 0)
 else if xk r = 5 then decide (0 < xw r) && (ZY r == []) && (Zao r == []) && !Zcb r && decide (1 <= xt r) && decide (xt r <= 1099511627776)
 else if xk r = 7 then decide (xw r = 0) && (ZY r == []) && (Zao r == []) && !Zcb r && decide (xt r = 0)
 else false
def ZjV (x : List Ent) (n : Nat) : Bool := Zn (∀ i < n, ZbL (xa x i) = true)
def YF (x : List Ent) (w : Int) (k : List UInt8) : Nat -> Int
 | 0 => -1
 | n + 1 => if (xk (xa x n) = 3 \/ xk (xa x n) = 4) /\ xw (xa x n) = w /\ ZY (xa x n) = k then n else YF x w k n
def Zch (x : List Ent) (ks : List Int) (k : List UInt8) : Nat -> List UInt8 × Bool
 | 0 => ([], false)
 | n + 1 => let j := YF x (ks.getD n 0) k x.length
  if 0 <= j then (Zao (xa x j.toNat), decide (xk (xa x j.toNat) = 3)) else Zch x ks k n
def ZM (x : List Ent) : Nat -> List Int
 | 0 => []
 | n + 1 => if xk (xa x n) = 5 then ZM x n ++ [xw (xa x n)] else ZM x n
def ZhN (x : List Ent) (a : Nat) (ks : List Int) : Bool × Int :=
 let r := xa x a
 let j := YF x (xw r) (ZY r) a
 if 0 <= j /\ 0 < xw r then ((Zcb r == decide (xk (xa x j.toNat) = 3)) && (Zao r == Zao (xa x j.toNat)), 3)
 else let v := Zch x ks (ZY r) ks.length; ((Zcb r == v.2) && (Zao r == v.1), 4)
def ZkL (x : List Ent) (n : Nat) : Nat :=
 if 0 < xw (xa x n) then (let c := Yl x 5 (xw (xa x n)) x.length; if 0 <= c then c.toNat else n) else n
def ZfH (x : List Ent) : Nat -> Int × Int
 | 0 => (-1, 0)
 | n + 1 => if 0 <= (ZfH x n).1 then ZfH x n else if xk (xa x n) = 2 then
   (let t := ZhN x n (ZM x (ZkL x n)); if t.1 then (-1, 0) else ((n : Int), t.2)) else (-1, 0)
def lasV (x : List Ent) (j : Int) : List UInt8 := if 0 <= j then Zao (xa x j.toNat) else []
def lasK (x : List Ent) (j : Int) : Int := if 0 <= j then xk (xa x j.toNat) else 0
def Zb9 (x : List Ent) : Int := if 400 < x.length then 2 else if ZjV x x.length then 0 else 280
def Zlf (x : List Ent) : Int × Int × Int :=
 if Zb9 x ≠ 0 then (0, 0, Zb9 x) else if 0 <= (ZcO x x.length).1 then ((ZcO x x.length).1, (ZcO x x.length).2, 0) else ((ZfH x x.length).1, (ZfH x x.length).2, 0)
/-! ### What the words speak of -/
structure Tx where
 who : Int
 beg : Int
 com : Int
 opn : Bool
 ch : List (Int × Int)
 rds : List Ent
 bad : List Int
def tx0 : Tx := ⟨0, 0, 0, false, [], [], []⟩
inductive GG where
 | tx (l : List Tx)
def gg0 : GG := .tx []
def ZO : U GG -> List Tx
 | .g (.tx l) => l
 | _ => []
theorem ZQ (l : List Tx) : ZO (.g (.tx l)) = l := rfl
theorem Yk (x : List Ent) (k w : Int) (n : Nat) : Yl x k w (n + 1) = if 0 <= Yl x k w n then Yl x k w n else if xk (xa x n) = k /\ xw (xa x n) = w then (n : Int) else -1 := rfl
theorem ZcT (x : List Ent) (w : Int) (n : Nat) : Zbs x w (n + 1) = (if xk (xa x n) = 1 /\ xw (xa x n) = w then (true, (Zbs x w n).2)
  else if (xk (xa x n) = 5 \/ xk (xa x n) = 6) /\ xw (xa x n) = w then (false, (Zbs x w n).2)
  else if xk (xa x n) = 7 /\ (Zbs x w n).1 = true then (false, (n : Int)) else Zbs x w n) := rfl
theorem ZfL {x : List Ent} {k w : Int} {n : Nat} (h : 0 <= Yl x k w n) : ∀ {m : Nat}, n <= m -> Yl x k w m = Yl x k w n
 | 0, hm => by rw [Nat.le_zero.1 hm]
 | m + 1, hm => by
  rcases ZPL m n with hlt | hge
  ·rw [show m + 1 = n by omega]
  ·have := ZfL h hge
   rw [Yk, if_pos (by rw [this]; exact h), this]
theorem Zcy (x : List Ent) (k w : Int) : ∀ n : Nat, -1 <= Yl x k w n /\ Yl x k w n < n /\ (0 <= Yl x k w n -> xk (xa x (Yl x k w n).toNat) = k /\ xw (xa x (Yl x k w n).toNat) = w)
 | 0 => ⟨ZP2 _, by show (-1 : Int) < 0; omega, fun h => absurd h (by show ¬ (0 : Int) <= -1; omega)⟩
 | n + 1 => by
  have ih := Zcy x k w n
  rw [Yk]
  split
  ·exact ⟨ih.1, by omega, ih.2.2⟩
  ·split
   ·rename_i h
    exact ⟨by omega, by omega, fun _ => by rw [ZPY]; exact h⟩
   ·exact ⟨ZP2 _, by omega, fun h => absurd h (by omega)⟩
theorem Zir (x : List Ent) (w : Int) : ∀ n : Nat, -1 <= (Zbs x w n).2 /\ (Zbs x w n).2 < n
 | 0 => ⟨ZP2 _, by show (-1 : Int) < 0; omega⟩
 | n + 1 => by
  have ih := Zir x w n
  rw [ZcT]
  split
  ·exact ⟨ih.1, by have := ih.2; show (Zbs x w n).2 < _; omega⟩
  ·split
   ·exact ⟨ih.1, by have := ih.2; show (Zbs x w n).2 < _; omega⟩
   ·split
    ·exact ⟨by show (-1 : Int) <= n; omega, by show (n : Int) < _; omega⟩
    ·exact ⟨ih.1, by have := ih.2; omega⟩
theorem ZD {p : Prop} (h : ¬ p) : Zn p = false := by
 cases e : Zn p
 ·rfl
 ·exact absurd ((Zj (p := p)).mp e) h
theorem ZC {p : Prop} (h : p) : Zn p = true := (Zj (p := p)).mpr h
theorem Zhq {x : List Ent} {f a : Int} : ZhL x f a = (decide (0 <= f) && Zn (ZKJ x f a)) := by
 unfold ZhL
 by_cases h1 : 0 <= f
 ·by_cases h2 : ZKJ x f a
  ·rw [ZC ⟨h1, h2⟩, ZC h2]; simp [h1]
  ·rw [ZD (fun h => h2 h.2), ZD h2]; simp
 ·rw [ZD (fun h => h1 h.1)]; simp [h1]
theorem ZbE (x : List Ent) (w : Int) (k : List UInt8) (n : Nat) : YF x w k (n + 1) = if (xk (xa x n) = 3 \/ xk (xa x n) = 4) /\ xw (xa x n) = w /\ ZY (xa x n) = k then (n : Int) else YF x w k n := rfl
theorem Zb2 (x : List Ent) (n : Nat) : ZcO x (n + 1) = if 0 <= (ZcO x n).1 then ZcO x n else if Zm5 x n then ((n : Int), 1) else if Znc x n then ((n : Int), 2) else (-1, 0) := rfl
theorem ZjE {x : List Ent} {n : Nat} (h : 0 <= (ZcO x n).1) : ∀ {m : Nat}, n <= m -> ZcO x m = ZcO x n
 | 0, hm => by rw [Nat.le_zero.1 hm]
 | m + 1, hm => by
  rcases ZPL m n with hlt | hge
  ·rw [show m + 1 = n by omega]
  ·have := ZjE h hge
   rw [Zb2, if_pos (by rw [this]; exact h), this]
theorem ZqT (x : List Ent) (n : Nat) : ZfH x (n + 1) = if 0 <= (ZfH x n).1 then ZfH x n else if xk (xa x n) = 2 then (if (ZhN x n (ZM x (ZkL x n))).1 then (-1, 0) else ((n : Int), (ZhN x n (ZM x (ZkL x n))).2)) else (-1, 0) := rfl
theorem ZJp {r : Ent} (h : ZbL r = true) (hk : xk r = 5) : 1 <= xt r /\ xt r <= 1099511627776 := by
 unfold ZbL at h
 simp [hk] at h
 omega
theorem ZFK {x : List Ent} : ∀ {n : Nat}, (∀ i < n, ZbL (xa x i) = true) -> 0 <= ZxY x n /\ ZxY x n <= 1099511627776
 | 0, _ => ⟨ZP2 _, by show (0 : Int) <= 1099511627776; omega⟩
 | n + 1, h => by
  unfold ZxY
  split
  ·rename_i hk
   have := ZJp (h n (by omega)) hk
   omega
  ·exact ZFK fun i hi => h i (by omega)
theorem ZOY {x : List Ent} : ∀ {n : Nat}, ¬ 0 <= (ZcO x n).1 -> ZcO x n = (-1, 0)
 | 0, _ => rfl
 | n + 1, h => by
  rw [Zb2] at h ⊢
  split
  ·rename_i q; rw [if_pos q] at h; exact absurd q h
  ·rename_i q; rw [if_neg q] at h
   split
   ·rename_i r; rw [if_pos r] at h; exact absurd (show (0 : Int) <= n by omega) h
   ·rename_i r; rw [if_neg r] at h
    split
    ·rename_i t; rw [if_pos t] at h; exact absurd (show (0 : Int) <= n by omega) h
    ·rfl
theorem may_nr' (r : Ent) : ZbL [r.getD 0 0, r.getD 1 0, (Zr (Yc (r.getD 2 0).toNat) : Nat), (Zr (Yc (r.getD 3 0).toNat) : Nat), b01 (!r.getD 4 0 == 0), r.getD 5 0] = ZbL r := by
 unfold ZbL xk xw ZY Zao Zcb xt
 simp only [List.getD_cons_zero, List.getD_cons_succ, ZPY, Zm, Zey]
theorem ZgI (x : List Ent) (n : Nat) : Zm5 x n = if xk (xa x n) = 1 then decide (0 <= Yl x 1 (xw (xa x n)) n)
 else if xk (xa x n) = 2 then decide (0 < xw (xa x n)) && !(Zbs x (xw (xa x n)) n).1
 else if xk (xa x n) = 3 \/ xk (xa x n) = 4 \/ xk (xa x n) = 6 then !(Zbs x (xw (xa x n)) n).1
 else if xk (xa x n) = 5 then (!(Zbs x (xw (xa x n)) n).1 && !ZhL x (Zbs x (xw (xa x n)) n).2 n) || decide (0 <= Yl x 5 (xw (xa x n)) n)
 else false := rfl
theorem Zc4 (x : List Ent) (ks : List Int) (k : List UInt8) (n : Nat) : Zch x ks k (n + 1) = if 0 <= YF x (ks.getD n 0) k x.length then (Zao (xa x (YF x (ks.getD n 0) k x.length).toNat), decide (xk (xa x (YF x (ks.getD n 0) k x.length).toNat) = 3)) else Zch x ks k n := rfl
theorem ZbF (x : List Ent) (n : Nat) : ZM x (n + 1) = if xk (xa x n) = 5 then ZM x n ++ [xw (xa x n)] else ZM x n := rfl
theorem Zxx (x : List Ent) : ∀ n : Nat, (ZM x n).length <= n
 | 0 => ZPH _
 | n + 1 => by
  have := Zxx x n
  rw [ZbF]
  split
  ·rw [ZPW, ZPF]; omega
  ·omega
theorem ZFT (x : List Ent) (a : Nat) (ks : List Int) : ZhN x a ks = if 0 <= YF x (xw (xa x a)) (ZY (xa x a)) a /\ 0 < xw (xa x a) then
   ((Zcb (xa x a) == decide (xk (xa x (YF x (xw (xa x a)) (ZY (xa x a)) a).toNat) = 3)) && (Zao (xa x a) == Zao (xa x (YF x (xw (xa x a)) (ZY (xa x a)) a).toNat)), 3)
  else ((Zcb (xa x a) == (Zch x ks (ZY (xa x a)) ks.length).2) && (Zao (xa x a) == (Zch x ks (ZY (xa x a)) ks.length).1), 4) := rfl
theorem Zia (x : List Ent) (n : Nat) : ZkL x n = if 0 < xw (xa x n) then (if 0 <= Yl x 5 (xw (xa x n)) x.length then (Yl x 5 (xw (xa x n)) x.length).toNat else n) else n := rfl
theorem ZLB {x : List Ent} : ∀ {n : Nat}, ¬ 0 <= (ZfH x n).1 -> ZfH x n = (-1, 0)
 | 0, _ => rfl
 | n + 1, h => by
  rw [ZqT] at h ⊢
  split
  ·rename_i q; rw [if_pos q] at h; exact absurd q h
  ·rename_i q; rw [if_neg q] at h
   split
   ·rename_i r; rw [if_pos r] at h
    split
    ·rfl
    ·rename_i t; rw [if_neg t] at h; exact absurd (show (0 : Int) <= n by omega) h
   ·rfl
structure RfSig (S : Sig GG) : Prop where
 u500 : ∀ a b c d, S.usr 500 a b c d = .int (Yl a.tR b.tI c.tI d.tI.toNat)
 u501 : ∀ a b c d, S.usr 501 a b c d = .bool (Zbs a.tR b.tI c.tI.toNat).1
 u502 : ∀ a b c d, S.usr 502 a b c d = .int (Zbs a.tR b.tI c.tI.toNat).2
 u503 : ∀ a b c d, S.usr 503 a b c d = .bool (ZhL a.tR b.tI c.tI)
 u504 : ∀ a b c d, S.usr 504 a b c d = .bool (Zn (ZKJ a.tR b.tI c.tI))
 u505 : ∀ a b c d, S.usr 505 a b c d = .bool (Zm5 a.tR b.tI.toNat)
 u506 : ∀ a b c d, S.usr 506 a b c d = .int (ZxY a.tR b.tI.toNat)
 u507 : ∀ a b c d, S.usr 507 a b c d = .bool (Znc a.tR b.tI.toNat)
 u508 : ∀ a b c d, S.usr 508 a b c d = .int (ZcO a.tR b.tI.toNat).1
 u509 : ∀ a b c d, S.usr 509 a b c d = .int (ZcO a.tR b.tI.toNat).2
 u510 : ∀ a b c d, S.usr 510 a b c d = .bool (ZbL a.tN)
 u511 : ∀ a b c d, S.usr 511 a b c d = .bool (ZjV a.tR b.tI.toNat)
 u512 : ∀ a b c d, S.usr 512 a b c d = .int (YF a.tR b.tI c.tB d.tI.toNat)
 u513 : ∀ a b c d, S.usr 513 a b c d = .bytes (Zch a.tR b.tN c.tB d.tI.toNat).1
 u514 : ∀ a b c d, S.usr 514 a b c d = .bool (Zch a.tR b.tN c.tB d.tI.toNat).2
 u515 : ∀ a b c d, S.usr 515 a b c d = .ints (ZM a.tR b.tI.toNat)
 u516 : ∀ a b c d, S.usr 516 a b c d = .bool (ZhN a.tR b.tI.toNat c.tN).1
 u517 : ∀ a b c d, S.usr 517 a b c d = .int (ZhN a.tR b.tI.toNat c.tN).2
 u518 : ∀ a b c d, S.usr 518 a b c d = .int (ZfH a.tR b.tI.toNat).1
 u519 : ∀ a b c d, S.usr 519 a b c d = .int (ZfH a.tR b.tI.toNat).2
 u520 : ∀ a b c d, S.usr 520 a b c d = .int (Zlf a.tR).1
 u521 : ∀ a b c d, S.usr 521 a b c d = .int (Zlf a.tR).2.1
 u522 : ∀ a b c d, S.usr 522 a b c d = .int (Zlf a.tR).2.2
 u524 : ∀ a b c d, S.usr 524 a b c d = .bytes (lasV a.tR b.tI)
 u525 : ∀ a b c d, S.usr 525 a b c d = .int (lasK a.tR b.tI)
 u523 : ∀ a b c d, S.usr 523 a b c d = .int (Zb9 a.tR)
theorem ZX (a b : U GG) : (ap2 48 a b).tP = (a.toBool = b.toBool) := by
 apply propext
 simp only [ap2, U.tP, U.toBool, beq_iff_eq]
/-! ### Short names -/
def hF : List Go.Eng.Fd := [.int .i64, .int .i64, .str, .str, .bool, .int .i64]
def hE : En := .rows hF
def hS (b : Nat) : SC := .slice (ai b) (ai (b + 1)) z0 z0 (ai (b + 2)) (ai (b + 3)) 6
def hC (j b : Nat) : Ch := .rd j hE (ai b) (ai (b + 1)) (rA (b + 4)) (ai (b + 5))
def hQ (b : Nat) : List SX := [eLe z0 (ai (b + 2)), .f2 45 (ai (b + 2)) (Zh (rA (b + 4))), eLe (ai (b + 2)) (ai (b + 3)), eLe (ai (b + 2)) (.int 1099511627776)]
def hA : List Srt := [.int, .int, .int, .int, .rows, .int]
def strX (x i : SX) (k : Nat) : SX := .f1 36 (nt x i k)
def Zwl : Ctr := ⟨hA ++ [.int, .int, .int], [.one (hS 0), .one (.int .i64 (ai 6)), .one (.int .i64 (ai 7)), .one (.int .i64 (ai 8))], [hC 0 0], hQ 0 ++ [eLe z0 (ai 8), eLe (ai 8) (ai 2)], [],
 .one (.int .i64 (.us .int 500 (rA 4) (ai 6) (ai 7) (ai 8))), [hC 0 0], []⟩
def firI : Inv := ⟨[.int], [(9, .one (.int .i64 (di 0)))], [], [eLe z0 (di 0), eLe (di 0) (ai 8), .f2 45 (.us .int 500 (rA 4) (ai 6) (ai 7) (di 0)) (.int (-1))], .f2 41 (ai 8) (di 0)⟩
def ZLQ : Cx := { specs := [], anns := [(48, [(2, .inv firI)])] }
def Zwh : Ctr := ⟨hA ++ [.int, .int], [.one (hS 0), .one (.int .i64 (ai 6)), .one (.int .i64 (ai 7))], [hC 0 0], hQ 0 ++ [eLe z0 (ai 7), eLe (ai 7) (ai 2)], [],
 .tup [(false, [.bool (usB 501 (rA 4) (ai 6) (ai 7))]), (false, [.int .i64 (usI 502 (rA 4) (ai 6) (ai 7))])], [hC 0 0], []⟩
def opnI : Inv := ⟨[.int], [(8, .one (.bool (usB 501 (rA 4) (ai 6) (di 0)))), (9, .one (.int .i64 (usI 502 (rA 4) (ai 6) (di 0)))), (10, .one (.int .i64 (di 0)))], [], [eLe z0 (di 0), eLe (di 0) (ai 7)], .f2 41 (ai 7) (di 0)⟩
def ZOB : Cx := { specs := [], anns := [(78, [(4, .inv opnI)])] }
def ZyU : Ctr := ⟨hA ++ [.int, .int], [.one (hS 0), .one (.int .i64 (ai 6)), .one (.int .i64 (ai 7))], [hC 0 0], hQ 0 ++ [eLe (.int (-1)) (ai 6), eLt (ai 6) (ai 7), eLe (ai 7) (ai 2)], [.bool],
 .one (.bool (qA 8)), [hC 0 0], [.f2 48 (qA 8) (usB 503 (rA 4) (ai 6) (ai 7))]⟩
def latI : Inv := ⟨[.int], [(7, .one (.int .i64 (di 0)))], [], [eLt (ai 6) (di 0), eLe (di 0) (ai 7), usB 504 (rA 4) (ai 6) (di 0)], .f2 41 (ai 7) (di 0)⟩
def ZOA : Cx := { specs := [], anns := [(79, [(2, .inv latI)])] }
def Zvf : Ctr := ⟨hA ++ [.int], [.one (hS 0), .one (.int .i64 (ai 6))], [hC 0 0], hQ 0 ++ [eLe z0 (ai 6), eLt (ai 6) (ai 2)], [.bool], .one (.bool (qA 7)), [hC 0 0], [.f2 48 (qA 7) (usB 505 (rA 4) (ai 6) z0)]⟩
def ZO2 : Cx := { specs := [(78, [Zwh]), (48, [Zwl]), (79, [ZyU])], anns := [] }
def ZAc : Ctr := ⟨hA ++ [.int], [.one (hS 0), .one (.int .i64 (ai 6))], [hC 0 0], hQ 0 ++ [eLe z0 (ai 6), eLt (ai 6) (ai 2), usB 511 (rA 4) (ai 2) z0], [.bool], .one (.bool (qA 7)), [hC 0 0], [.f2 48 (qA 7) (usB 507 (rA 4) (ai 6) z0)]⟩
def wroI : Inv := ⟨[.int], [(5, .one (.int .i64 (usI 506 (rA 4) (di 0) z0))), (6, .one (.int .i64 (di 0)))], [], [eLe z0 (di 0), eLe (di 0) (ai 6)], .f2 41 (ai 6) (di 0)⟩
def ZO5 : Cx := { specs := [], anns := [(60, [(5, .inv wroI)])] }
def ZvN : Ctr := ⟨hA, [.one (hS 0)], [hC 0 0], hQ 0 ++ [usB 511 (rA 4) (ai 2) z0], [], .tup [(false, [.int .i64 (usI 508 (rA 4) (ai 2) z0)]), (false, [.int .i64 (usI 509 (rA 4) (ai 2) z0)])], [hC 0 0], []⟩
def turI : Inv := ⟨[.int], [(4, .one (.int .i64 (di 0)))], [], [eLe z0 (di 0), eLe (di 0) (ai 2), .f2 45 (usI 508 (rA 4) (di 0) z0) (.int (-1))], .f2 41 (ai 2) (di 0)⟩
def ZM5 : Cx := { specs := [(59, [Zvf]), (60, [ZAc])], anns := [(29, [(2, .inv turI)])] }
def entX : SX := Zbm (ai 0) (ai 1) (.f1 35 (bA 2)) (.f1 35 (bA 3)) (.f1 3 (qA 4)) (ai 5)
def Zq4 : Ctr := ⟨[.int, .int, .bytes, .bytes, .bool, .int], [.agg [.int .i64 (ai 0), .int .i64 (ai 1), .str (bA 2), .str (bA 3), .bool (qA 4), .int .i64 (ai 5)]], [], [], [.bool], .one (.bool (qA 6)), [], [.f2 48 (qA 6) (usB 510 entX z0 z0)]⟩
def ZO6 : Cx := { specs := [], anns := [] }
def Zxh : Ctr := ⟨hA, [.one (hS 0)], [hC 0 0], hQ 0, [], .one (.int .i64 (usI 523 (rA 4) z0 z0)), [hC 0 0], []⟩
def chkI : Inv := ⟨[.int], [(3, .one (.int .i64 (di 0)))], [], [eLe z0 (di 0), eLe (di 0) (ai 2), usB 511 (rA 4) (di 0) z0], .f2 41 (ai 2) (di 0)⟩
def ZMY : Cx := { specs := [(58, [Zq4])], anns := [(28, [(4, .inv chkI)])] }
def ZJ9 : SX := e (.f3 112 (r 4) (a 9) z) (a 6)
def ZI5 : SX := e (.f3 112 (r 4) (a 9) (k 1)) (a 7)
def ZGP : SX := .us .int 500 (r 4) (a 6) (a 7) (a 8)
def Zs9 : SX := .f2 40 (a 9) (k 1)
def ZHp : SX := .f1 23 Zs9
def ZHn : SX := .f2 41 (a 8) Zs9
def ZKw : SX := l z ZHn
def ZKv : SX := t ZHn (.f2 41 (a 8) (a 9))
def ZJ1 : SX := l z Zs9
def ZKh : SX := l Zs9 (a 8)
def Zt6 : SX := e (.us .int 500 (r 4) (a 6) (a 7) Zs9) (k (-1))
def ZLp : VC := i (l z (a 2)) (i (e (a 2) (.f1 32 (r 4))) (i (l (a 2) (a 3)) (i (l (a 2) k0) (i (l z (a 8)) (i (l (a 8) (a 2)) (n (e (x 500 (r 4) (a 6) (a 7)) (k (-1))) (u 9 .int (i (l z (a 9)) (i (l (a 9) (a 8)) (i (e (.us .int 500 (r 4) (a 6) (a 7) (a 9)) (k (-1))) (.and (i (t (a 9) (a 8)) (n (t (a 9) (a 2)) (n (t (a 9) (.f1 32 (r 4))) (.and (i ZJ9 (.and (i ZI5 (n (e ZGP (a 9)) .tt)) (i (.f1 2 ZI5) (n ZHp (n ZKw (n ZKv (n ZJ1 (n ZKh (n Zt6 .tt))))))))) (i (.f1 2 ZJ9) (n ZHp (n ZKw (n ZKv (n ZJ1 (n ZKh (n Zt6 .tt))))))))))) (i (l (a 8) (a 9)) (n (e ZGP (k (-1))) .tt)))))))))))))
theorem ZNn : YV Tryz.prog ZLQ 12 48 Zwl = ZLp := by kernel_rfl
def ZwU : SX := .f3 112 (r 4) (a 8) z
def ZGu : SX := e ZwU (k 1)
def Zxi : SX := e (.f3 112 (r 4) (a 8) (k 1)) (a 6)
def ZoF : SX := .f2 40 (a 8) (k 1)
def ZhZ : SX := .f1 23 ZoF
def ZGC : SX := .f2 41 (a 7) ZoF
def ZhV : SX := l z ZGC
def Zh3 : SX := t ZGC (.f2 41 (a 7) (a 8))
def Zh1 : SX := l z ZoF
def ZhX : SX := l ZoF (a 7)
def Zug : SX := x 502 (r 4) (a 6) ZoF
def Zwu : SX := x 502 (r 4) (a 6) (a 8)
def ZdN : SX := e Zug Zwu
def ZpD : SX := y 501 (r 4) (a 6) ZoF
def Zq2 : SX := .f1 2 Zxi
def ZuF : SX := e ZwU (k 5)
def Zxf : SX := .f1 2 ZuF
def ZAg : SX := e ZwU (k 6)
def ZBP : SX := .f1 2 ZAg
def ZxK : SX := e ZwU (k 7)
def ZlV : SX := .f1 2 ZxK
def Zmo : SX := y 501 (r 4) (a 6) (a 8)
def Ziz : SX := .f2 155 ZpD Zmo
def Zqb : SX := .f2 155 ZpD (.bool false)
def ZPl : VC := i (l z (a 2)) (i (e (a 2) (.f1 32 (r 4))) (i (l (a 2) (a 3)) (i (l (a 2) k0) (i (l z (a 7)) (i (l (a 7) (a 2)) (n (e (d 502 (r 4) (a 6)) (k (-1))) (n (.f2 155 (c 501 (r 4) (a 6)) (.bool false)) (u 8 .int (i (l z (a 8)) (i (l (a 8) (a 7)) (.and (i (t (a 8) (a 7)) (n (t (a 8) (a 2)) (n (t (a 8) (.f1 32 (r 4))) (.and (i ZGu (.and (i Zxi (n ZhZ (n ZhV (n Zh3 (n Zh1 (n ZhX (n ZdN (n (.f2 155 ZpD (.bool true)) .tt)))))))) (i Zq2 (.and (i Zxf (.and .tt (i ZBP (.and .tt (i ZlV (n ZhZ (n ZhV (n Zh3 (n Zh1 (n ZhX (n ZdN (n Ziz .tt)))))))))))) .tt)))) (i (.f1 2 ZGu) (.and (i Zxf (.and (i ZAg (.and (i Zxi (n ZhZ (n ZhV (n Zh3 (n Zh1 (n ZhX (n ZdN (n Zqb .tt)))))))) (i Zq2 (.and .tt (i ZlV (n ZhZ (n ZhV (n Zh3 (n Zh1 (n ZhX (n ZdN (n Ziz .tt)))))))))))) (i ZBP (.and (i ZxK (.and (i Zmo (n ZhZ (n ZhV (n Zh3 (n Zh1 (n ZhX (n (e Zug (a 8)) (n Zqb .tt)))))))) (i (.f1 2 Zmo) (n ZhZ (n ZhV (n Zh3 (n Zh1 (n ZhX (n ZdN (n Ziz .tt)))))))))) (i ZlV (n ZhZ (n ZhV (n Zh3 (n Zh1 (n ZhX (n ZdN (n Ziz .tt)))))))))))) (i ZuF (.and (i Zxi (n ZhZ (n ZhV (n Zh3 (n Zh1 (n ZhX (n ZdN (n Zqb .tt)))))))) (i Zq2 (.and .tt (i ZlV (n ZhZ (n ZhV (n Zh3 (n Zh1 (n ZhX (n ZdN (n Ziz .tt)))))))))))))))))) (i (l (a 7) (a 8)) (n (e (x 502 (r 4) (a 6) (a 7)) Zwu) (n (.f2 155 (y 501 (r 4) (a 6) (a 7)) Zmo) .tt))))))))))))))
theorem ZMe : YV Tryz.prog ZOB 12 78 Zwh = ZPl := by kernel_rfl
def ZvS : SX := .f2 40 (a 6) (k 1)
def ZC0 : SX := .f3 112 (r 4) (a 8) z
def ZKg : SX := e ZC0 (k 1)
def ZJX : SX := e ZC0 (k 2)
def ZKC : SX := e ZC0 (k 7)
def ZJA : SX := y 503 (r 4) (a 6) (a 7)
def ZEV : SX := .f2 48 (.bool false) ZJA
def ZsD : SX := .f2 40 (a 8) (k 1)
def ZGH : SX := .f2 41 (a 7) ZsD
def ZNb : VC := i (l z (a 2)) (i (e (a 2) (.f1 32 (r 4))) (i (l (a 2) (a 3)) (i (l (a 2) k0) (i (l (k (-1)) (a 6)) (i (t (a 6) (a 7)) (i (l (a 7) (a 2)) (n (.f1 23 ZvS) (n (t (a 6) ZvS) (n (l ZvS (a 7)) (n (y 504 (r 4) (a 6) ZvS) (u 8 .int (i (t (a 6) (a 8)) (i (l (a 8) (a 7)) (i (y 504 (r 4) (a 6) (a 8)) (.and (i (t (a 8) (a 7)) (n (l z (a 8)) (n (t (a 8) (a 2)) (n (t (a 8) (.f1 32 (r 4))) (.and (i (.f1 2 ZKg) (.and (i (.f1 2 ZJX) (.and (i ZKC (n ZEV .tt)) (i (.f1 2 ZKC) (n (.f1 23 ZsD) (n (l z ZGH) (n (t ZGH (.f2 41 (a 7) (a 8))) (n (t (a 6) ZsD) (n (l ZsD (a 7)) (n (y 504 (r 4) (a 6) ZsD) .tt))))))))) (i ZJX (n ZEV .tt)))) (i ZKg (n ZEV .tt))))))) (i (l (a 7) (a 8)) (n (.f2 48 (l z (a 6)) ZJA) .tt)))))))))))))))))
theorem ZK6 : YV Tryz.prog ZOA 12 79 ZyU = ZNb := by kernel_rfl
def ZpA : SX := .f3 112 (r 4) (a 6) z
def ZGo : SX := e ZpA (k 1)
def Zo5 : SX := .f3 112 (r 4) (a 6) (k 1)
def ZsN : SX := c 505 (r 4) (a 6)
def ZJK : SX := e ZpA (k 2)
def ZEh : SX := .f1 2 (y 501 (r 4) Zo5 (a 6))
def Zt5 : SX := .f2 48 ZEh ZsN
def ZHY : SX := .f2 48 (.bool false) ZsN
def ZEJ : SX := e ZpA (k 3)
def ZE4 : SX := e ZpA (k 4)
def ZxV : SX := e ZpA (k 6)
def ZCg : SX := e ZpA (k 5)
def Zqa : SX := x 502 (r 4) Zo5 (a 6)
def ZAd : SX := .f2 48 (l z (.us .int 500 (r 4) (k 5) Zo5 (a 6))) ZsN
def ZMc : VC := i (l z (a 2)) (i (e (a 2) (.f1 32 (r 4))) (i (l (a 2) (a 3)) (i (l (a 2) k0) (i (l z (a 6)) (i (t (a 6) (a 2)) (n (t (a 6) (.f1 32 (r 4))) (u 7 .int (i (l z (a 7)) (n (l (a 6) (a 2)) (.and (i ZGo (n (.f2 48 (l z (.us .int 500 (r 4) (k 1) Zo5 (a 6))) ZsN) .tt)) (i (.f1 2 ZGo) (.and (i ZJK (.and (i (t z Zo5) (n Zt5 .tt)) (i (l Zo5 z) (n ZHY .tt)))) (i (.f1 2 ZJK) (.and (i ZEJ (.and (i ZEJ (n Zt5 .tt)) .tt)) (i (.f1 2 ZEJ) (.and (i ZE4 (.and (i ZE4 (n Zt5 .tt)) .tt)) (i (.f1 2 ZE4) (.and (i ZxV (n Zt5 .tt)) (i (.f1 2 ZxV) (.and (i ZCg (n (l (k (-1)) Zqa) (n (t Zqa (a 6)) (u 8 .bool (i (.f2 48 (q 8) (y 503 (r 4) Zqa (a 6))) (.and (i ZEh (.and (i (.f1 2 (.f1 2 (q 8))) (n ZAd .tt)) (i (.f1 2 (q 8)) (n (.f2 48 (.bool true) ZsN) .tt)))) (i (.f1 2 ZEh) (n ZAd .tt)))))))) (i (.f1 2 ZCg) (n ZHY .tt))))))))))))))))))))))
theorem ZOw : YV Tryz.prog ZO2 12 59 Zvf = ZMc := by kernel_rfl
def ZJH : SX := e (.f3 112 (r 4) (a 6) z) (k 5)
def ZJt : SX := c 507 (r 4) (a 6)
def ZIN : SX := e (.f3 112 (r 4) (a 7) z) (k 5)
def ZsQ : SX := .f2 40 (a 7) (k 1)
def ZIy : SX := .f1 23 ZsQ
def ZH8 : SX := .f2 41 (a 6) ZsQ
def ZJl : SX := l z ZH8
def ZHl : SX := t ZH8 (.f2 41 (a 6) (a 7))
def ZKD : SX := l z ZsQ
def ZGZ : SX := l ZsQ (a 6)
def ZAu : SX := d 506 (r 4) ZsQ
def ZyA : SX := d 506 (r 4) (a 7)
def Zx2 : SX := .f2 40 ZyA (k 1)
def ZOF : VC := i (l z (a 2)) (i (e (a 2) (.f1 32 (r 4))) (i (l (a 2) (a 3)) (i (l (a 2) k0) (i (l z (a 6)) (i (t (a 6) (a 2)) (i (c 511 (r 4) (a 2)) (n (t (a 6) (.f1 32 (r 4))) (.and (i (.f1 2 ZJH) (n (.f2 48 (.bool false) ZJt) .tt)) (i ZJH (n (e (v 506 (r 4)) z) (u 7 .int (i (l z (a 7)) (i (l (a 7) (a 6)) (.and (i (t (a 7) (a 6)) (n (t (a 7) (a 2)) (n (t (a 7) (.f1 32 (r 4))) (.and (i ZIN (n ZIy (n ZJl (n ZHl (n ZKD (n ZGZ (n (e ZAu (.f3 112 (r 4) (a 7) (k 5))) .tt))))))) (i (.f1 2 ZIN) (n ZIy (n ZJl (n ZHl (n ZKD (n ZGZ (n (e ZAu ZyA) .tt))))))))))) (i (l (a 6) (a 7)) (n (.f1 23 Zx2) (n (.f2 48 (.f1 2 (e (.f3 112 (r 4) (a 6) (k 5)) Zx2)) ZJt) .tt)))))))))))))))))
theorem ZOX : YV Tryz.prog ZO5 12 60 ZAc = ZOF := by kernel_rfl
def ZEA : SX := d 509 (r 4) (a 2)
def ZKF : SX := d 508 (r 4) (a 2)
def ZIX : SX := e ZKF (a 6)
def Zs3 : SX := .f2 40 (a 6) (k 1)
def ZJu : SX := .f2 41 (a 2) Zs3
def ZMI : VC := i (l z (a 2)) (i (e (a 2) (.f1 32 (r 4))) (i (l (a 2) (a 3)) (i (l (a 2) k0) (i (c 511 (r 4) (a 2)) (n (e (v 508 (r 4)) (k (-1))) (u 6 .int (i (l z (a 6)) (i (l (a 6) (a 2)) (i (e (d 508 (r 4) (a 6)) (k (-1))) (.and (i (t (a 6) (a 2)) (u 7 .bool (i (.f2 48 (q 7) (c 505 (r 4) (a 6))) (.and (i (q 7) (n (e ZEA (k 1)) (n ZIX .tt))) (i (.f1 2 (q 7)) (u 8 .bool (i (.f2 48 (q 8) (c 507 (r 4) (a 6))) (.and (i (q 8) (n (e ZEA (k 2)) (n ZIX .tt))) (i (.f1 2 (q 8)) (n (.f1 23 Zs3) (n (l z ZJu) (n (t ZJu (.f2 41 (a 2) (a 6))) (n (l z Zs3) (n (l Zs3 (a 2)) (n (e (d 508 (r 4) Zs3) (k (-1))) .tt))))))))))))))) (i (l (a 2) (a 6)) (n (e ZEA z) (n (e ZKF (k (-1))) .tt)))))))))))))
theorem ZPx : YV Tryz.prog ZM5 12 29 ZvN = ZMI := by kernel_rfl
def ZCL : SX := e (a 0) (k 1)
def ZnJ : SX := e (a 0) (k 2)
def Zek : SX := .f1 2 ZnJ
def ZC5 : SX := e (a 0) (k 3)
def Zpf : SX := .f1 2 ZC5
def ZDv : SX := e (a 0) (k 4)
def Zts : SX := .f1 2 ZDv
def Zkv : SX := t (a 1) z
def ZDZ : SX := p 510 (.f2 122 (a 0) (.f2 122 (a 1) (.f2 122 (.f1 35 (b 2)) (.f2 122 (.f1 35 (b 3)) (.f2 122 (.f1 3 (q 4)) (.f2 122 (a 5) (.f1 152 z)))))))
def ZaG : SX := .f2 48 (.bool false) ZDZ
def ZdT : SX := l z (a 1)
def Zfe : SX := .f2 150 (b 2) (.byt [])
def Zse : SX := .f2 150 (b 3) (.byt [])
def Zx4 : SX := .f2 48 (q 4) (.bool false)
def ZqH : SX := e (a 5) z
def ZvX : SX := .f2 49 Zse (.f2 49 Zx4 ZqH)
def ZlP : SX := .f2 49 Zfe ZvX
def ZqJ : SX := e (a 0) (k 7)
def Zhc : SX := .f1 2 ZqJ
def Zi6 : SX := .f2 48 (l (k 1) (a 1)) ZDZ
def Zzo : SX := .f1 2 ZlP
def ZCo : SX := e (a 0) (k 6)
def Zld : SX := .f1 2 Zfe
def ZkU : SX := .f2 150 (b 2) (b 2)
def Zu1 : SX := .f2 150 (b 3) (b 3)
def Zvd : SX := .f2 49 (.f2 48 (q 4) (q 4)) ZqH
def Zyu : SX := .f2 49 ZkU (.f2 49 Zu1 Zvd)
def ZpC : SX := .f2 48 (.bool true) ZDZ
def ZyN : SX := .f2 49 ZkU (.f2 49 Zse Zvd)
def Zvq : SX := .f2 49 ZkU (.f2 49 Zu1 (.f2 49 (.f2 48 (q 4) (.bool true)) ZqH))
def Zyj : SX := .f2 49 ZkU ZvX
def ZtH : SX := e (a 0) (k 5)
def ZBj : SX := .f2 49 Zfe (.f2 49 Zse Zx4)
def ZAJ : SX := .f2 49 (e (a 1) z) ZlP
def ZNu : VC := u 6 .int (i (l z (a 6)) (u 7 .int (i (l z (a 7)) (.and (i ZCL (.and (i ZCL (.and (i Zek (.and (i Zpf (.and .tt (i Zts (.and (i Zkv (n ZaG .tt)) (i ZdT (.and (i Zek (.and (i ZlP (.and (i Zhc (n Zi6 .tt)) .tt)) (i Zzo (n ZaG .tt)))) .tt)))))) .tt)) .tt)) .tt)) (i (.f1 2 ZCL) (.and (i ZCo (.and (i Zek (.and (i Zpf (.and .tt (i Zts (.and (i Zkv (n ZaG .tt)) (i ZdT (.and (i Zek (.and (i ZlP (.and (i Zhc (n Zi6 .tt)) .tt)) (i Zzo (n ZaG .tt)))) .tt)))))) .tt)) .tt)) (i (.f1 2 ZCo) (.and (i ZnJ (.and (i (q 4) (.and .tt (i ZnJ (.and (i Zld (.and (i Zkv (n ZaG .tt)) (i ZdT (.and .tt (i ZnJ (.and (i Zyu (n ZpC .tt)) (i (.f1 2 Zyu) (n ZaG .tt)))))))) (i Zfe (n ZaG .tt)))))) (i (.f1 2 (q 4)) (.and .tt (i ZnJ (.and (i Zld (.and (i Zkv (n ZaG .tt)) (i ZdT (.and .tt (i ZnJ (.and (i ZyN (n ZpC .tt)) (i (.f1 2 ZyN) (n ZaG .tt)))))))) (i Zfe (n ZaG .tt)))))))) (i Zek (.and (i ZC5 (.and (i Zek (.and .tt (i ZC5 (.and (i Zld (.and (i Zkv (n ZaG .tt)) (i ZdT (.and (i Zek (.and (i Zvq (.and (i Zhc (n Zi6 .tt)) .tt)) (i (.f1 2 Zvq) (n ZaG .tt)))) .tt)))) (i Zfe (n ZaG .tt)))))) .tt)) (i Zpf (.and (i ZDv (.and (i Zek (.and (i Zpf (.and (i ZDv (.and (i Zld (.and (i Zkv (n ZaG .tt)) (i ZdT (.and (i Zek (.and (i Zyj (.and (i Zhc (n Zi6 .tt)) .tt)) (i (.f1 2 Zyj) (n ZaG .tt)))) .tt)))) (i Zfe (n ZaG .tt)))) .tt)) .tt)) .tt)) (i Zts (.and (i ZtH (.and (i (l (k 1) (a 5)) (.and (i (t k0 (a 5)) (n ZaG .tt)) (i (l (a 5) k0) (.and (i Zek (.and (i Zpf (.and .tt (i Zts (.and (i Zkv (n ZaG .tt)) (i ZdT (.and (i Zek (.and (i ZBj (.and (i Zhc (n Zi6 .tt)) .tt)) (i (.f1 2 ZBj) (n ZaG .tt)))) .tt)))))) .tt)) .tt)))) (i (t (a 5) (k 1)) (n ZaG .tt)))) (i (.f1 2 ZtH) (.and (i ZqJ (.and (i Zek (.and (i Zpf (.and .tt (i Zts (.and (i Zkv (n ZaG .tt)) (i ZdT (.and (i Zek (.and (i ZAJ (.and .tt (i ZqJ (n ZpC .tt)))) (i (.f1 2 ZAJ) (n ZaG .tt)))) .tt)))))) .tt)) .tt)) (i Zhc (n ZaG .tt))))))))))))))))))
theorem ZLi : YV Tryz.prog ZO6 12 58 Zq4 = ZNu := by kernel_rfl
def ZEc : SX := v 523 (r 4)
def Ztx : SX := .f2 40 (a 6) (k 1)
def ZIb : SX := .f2 41 (a 2) Ztx
def ZML : VC := i (l z (a 2)) (i (e (a 2) (.f1 32 (r 4))) (i (l (a 2) (a 3)) (i (l (a 2) k0) (.and (i (t (k 400) (a 2)) (n (e ZEc (k 2)) .tt)) (i (l (a 2) (k 400)) (n (p 511 (r 4)) (u 6 .int (i (l z (a 6)) (i (l (a 6) (a 2)) (i (c 511 (r 4) (a 6)) (.and (i (t (a 6) (a 2)) (n (t (a 6) (.f1 32 (r 4))) (u 7 .bool (i (.f2 48 (q 7) (p 510 (.f2 122 (.f3 112 (r 4) (a 6) z) (.f2 122 (.f3 112 (r 4) (a 6) (k 1)) (.f2 122 (.f1 35 (.f1 36 (.f3 112 (r 4) (a 6) (k 2)))) (.f2 122 (.f1 35 (.f1 36 (.f3 112 (r 4) (a 6) (k 3)))) (.f2 122 (.f1 3 (.f1 2 (e (.f3 112 (r 4) (a 6) (k 4)) z))) (.f2 122 (.f3 112 (r 4) (a 6) (k 5)) (.f1 152 z))))))))) (.and (i (.f1 2 (q 7)) (n (e ZEc (k 280)) .tt)) (i (.f1 2 (.f1 2 (q 7))) (n (.f1 23 Ztx) (n (l z ZIb) (n (t ZIb (.f2 41 (a 2) (a 6))) (n (l z Ztx) (n (l Ztx (a 2)) (n (c 511 (r 4) Ztx) .tt)))))))))))) (i (l (a 2) (a 6)) (n (e ZEc z) .tt)))))))))))))
theorem ZOm : YV Tryz.prog ZMY 12 28 Zxh = ZML := by kernel_rfl
theorem ZOq (S : Sig GG) (hS : RfSig S) : ZA S Tryz.prog 48 Zwl := by
 refine Zg S (C := ZLQ) (fuel := 12) (ZU trivial ⟨⟨trivial, trivial⟩, trivial⟩ trivial) fun ρ => ?_
 rw [ZNn]
 simp only [ZLp, ZJ9, ZI5, ZGP, Zs9, ZHp, ZHn, ZKw, ZKv, ZJ1, ZKh, Zt6, hS.u500, VC.den, SX.den, Env.upd, ZX, ZE, beq_iff_eq, ZPQ, beq_eq_false_iff_ne, ne_eq, ZPP, ZPO, Int.reduceToNat, Nat.reduceEqDiff, reduceIte, sB, sC]
 generalize (ρ 4).tR = X
 generalize (ρ 2).tI = l
 generalize (ρ 8).tI = e
 intro h1 h2 h3 h4 h5 h6
 refine ⟨rfl, fun x hx0 hx1 hx2 => ?_⟩
 obtain ⟨n, rfl⟩ := ZPJ hx0
 obtain ⟨m, rfl⟩ := ZPJ h5
 have e1 : ((n : Int) + 1).toNat = n + 1 := by omega
 simp only [e1, ZPY] at hx2 ⊢
 have hs := Yk X (ρ 6).tI (ρ 7).tI n
 rw [hx2, if_neg (by omega)] at hs
 refine ⟨fun hlt => ⟨by omega, by omega, fun hk => ⟨fun hw => ⟨?_, trivial⟩, fun hw => ⟨by omega, by omega, by omega, by omega, by omega, ?_, trivial⟩⟩, fun hk => ⟨by omega, by omega, by omega, by omega, by omega, ?_, trivial⟩⟩, fun hge => ⟨?_, trivial⟩⟩
 ·rw [if_pos ⟨hk, hw⟩] at hs
  rw [ZfL (n := n + 1) (by rw [hs]; omega) (by omega), hs]
 ·rw [hs, if_neg (fun h => hw h.2)]
 ·rw [hs, if_neg (fun h => hk h.1)]
 ·rw [show m = n by omega]; exact hx2
theorem ZLj (S : Sig GG) (hS : RfSig S) : ZA S Tryz.prog 78 Zwh := by
 refine Zg S (C := ZOB) (fuel := 12) (ZU trivial ⟨⟨trivial, trivial⟩, trivial⟩ trivial) fun ρ => ?_
 rw [ZMe]
 simp only [ZPl, ZwU, ZGu, Zxi, ZoF, ZhZ, ZGC, ZhV, Zh3, Zh1, ZhX, Zug, Zwu, ZdN, ZpD, Zq2, ZuF, Zxf, ZAg, ZBP, ZxK, ZlV, Zmo, Ziz, Zqb, hS.u501, hS.u502, VC.den, SX.den, Env.upd, ZX, ZE, beq_iff_eq, ZPQ, beq_eq_false_iff_ne, ne_eq, ZPP, ZPO, Int.reduceToNat, Nat.reduceEqDiff, reduceIte, sB, sC]
 generalize (ρ 4).tR = X
 generalize (ρ 2).tI = l
 generalize (ρ 7).tI = e
 intro h1 h2 h3 h4 h5 h6
 refine ⟨rfl, rfl, fun x hx0 hx1 => ?_⟩
 obtain ⟨n, rfl⟩ := ZPJ hx0
 have e1 : ((n : Int) + 1).toNat = n + 1 := by omega
 simp only [e1, ZPY]
 have hs := ZcT X (ρ 6).tI n
 have f1 : xk (xa X n) = (X.getD n []).getD 0 0 := rfl
 have f2 : xw (xa X n) = (X.getD n []).getD 1 0 := rfl
 rw [f1, f2] at hs
 generalize (X.getD n []).getD 0 0 = k at *
 generalize (X.getD n []).getD 1 0 = w at *
 generalize (ρ 6).tI = v at *
 rw [hs]
 refine ⟨fun hlt => ⟨by omega, by omega, ?_⟩, fun hge => ?_⟩
 ·repeat' (first | exact trivial | omega | apply And.intro | intro _)
  all_goals simp_all
  all_goals omega
 ·rw [show e = (n : Int) by omega, ZPY]
  repeat' (first | exact trivial | rfl | apply And.intro)
theorem ZM3 (S : Sig GG) (hS : RfSig S) : ZA S Tryz.prog 79 ZyU := by
 refine Zg S (C := ZOA) (fuel := 12) (ZU trivial ⟨⟨trivial, trivial⟩, trivial⟩ trivial) fun ρ => ?_
 rw [ZK6]
 simp only [ZNb, ZvS, ZC0, ZKg, ZJX, ZKC, ZJA, ZEV, ZsD, ZGH, hS.u503, hS.u504, VC.den, SX.den, Env.upd, ZX, ZE, beq_iff_eq, ZPQ, beq_eq_false_iff_ne, ne_eq, ZPP, ZPO, Int.reduceToNat, Nat.reduceEqDiff, reduceIte, sB, sC]
 generalize (ρ 4).tR = X
 generalize (ρ 2).tI = l
 generalize (ρ 6).tI = f
 generalize (ρ 7).tI = e
 intro h1 h2 h3 h4 h5 h6 h7
 rw [Zhq]
 refine ⟨by omega, by omega, by omega, fun i hi1 hi2 => by omega, fun x hx0 hx1 hx2 => ?_⟩
 obtain ⟨n, rfl⟩ := ZPJ (show 0 <= x by omega)
 simp only [ZPY]
 have no : ∀ k, (X.getD n []).getD 0 0 = k -> (n : Int) < e -> (k = 1 \/ k = 2 \/ k = 7) -> false = (decide (0 <= f) && Zn (ZKJ X f e)) := by
  intro k hk hn hq
  rw [ZD, Bool.and_false]
  intro hp
  have := hp n hx0 hn
  have hk : xk (xa X n) = k := hk
  rw [hk] at this
  omega
 refine ⟨fun hlt => ⟨by omega, by omega, by omega, fun q1 => ⟨fun q2 => ⟨fun q7 => ⟨no _ q7 hlt (by omega), trivial⟩, fun q7 => ⟨by omega, by omega, by omega, by omega, by omega, fun i hi1 hi2 => ?_, trivial⟩⟩, fun q2 => ⟨no _ q2 hlt (by omega), trivial⟩⟩, fun q1 => ⟨no _ q1 hlt (by omega), trivial⟩⟩, fun hge => ⟨?_, trivial⟩⟩
 ·rcases ZPL i n with h | h
  ·exact hx2 i hi1 (by omega)
  ·rw [show i = n by omega]; exact ⟨q1, q2, q7⟩
 ·have hp : ZKJ X f e := fun i hi1 hi2 => hx2 i hi1 (by omega)
  rw [ZC hp, Bool.and_true]; rfl
theorem ZM0 (S : Sig GG) (hS : RfSig S) : ZA S Tryz.prog 59 Zvf := by
 refine Zg S (C := ZO2) (fuel := 12) (ZU ⟨Zi (by decide) (ZLj S hS), Zi (by decide) (ZOq S hS), Zi (by decide) (ZM3 S hS), trivial⟩ trivial trivial) fun ρ => ?_
 rw [ZOw]
 simp only [ZMc, ZpA, ZGo, Zo5, ZsN, ZJK, ZEh, Zt5, ZHY, ZEJ, ZE4, ZxV, ZCg, Zqa, ZAd, hS.u500, hS.u501, hS.u502, hS.u503, hS.u505, VC.den, SX.den, Env.upd, ZX, ZE, beq_iff_eq, ZPQ, beq_eq_false_iff_ne, ne_eq, ZPP, ZPO, Int.reduceToNat, Nat.reduceEqDiff, reduceIte, sB, sC]
 generalize (ρ 4).tR = X
 generalize (ρ 2).tI = l
 generalize (ρ 6).tI = e
 intro h1 h2 h3 h4 h5 h6
 obtain ⟨n, rfl⟩ := ZPJ h5
 simp only [ZPY]
 refine ⟨by omega, fun x hx => ⟨by omega, ?_⟩⟩
 have hl := Zir X (xw (xa X n)) n
 have hs := ZgI X n
 unfold xk xw xa at hs hl
 generalize (X.getD n []).getD 0 0 = k at *
 generalize (X.getD n []).getD 1 0 = w at *
 generalize Zm5 X n = o at *
 generalize Yl X 1 w n = f1 at *
 generalize Yl X 5 w n = f5 at *
 generalize Zbs X w n = q at *
 obtain ⟨q1, q2⟩ := q
 simp only at hs hl ⊢
 generalize ZhL X q2 n = t at *
 unfold leB
 rw [hs]
 clear hs
 repeat' (first | exact trivial | apply And.intro | intro _)
 all_goals simp_all
 all_goals omega
theorem ZNz (S : Sig GG) (hS : RfSig S) : ZA S Tryz.prog 60 ZAc := by
 refine Zg S (C := ZO5) (fuel := 12) (ZU trivial ⟨⟨trivial, trivial⟩, trivial⟩ trivial) fun ρ => ?_
 rw [ZOX]
 simp only [ZOF, ZJH, ZJt, ZIN, ZsQ, ZIy, ZH8, ZJl, ZHl, ZKD, ZGZ, ZAu, ZyA, Zx2, hS.u506, hS.u507, hS.u511, VC.den, SX.den, Env.upd, ZX, ZE, beq_iff_eq, ZPQ, beq_eq_false_iff_ne, ne_eq, ZPP, ZPO, Int.reduceToNat, Nat.reduceEqDiff, reduceIte, sB, sC]
 generalize (ρ 4).tR = X
 generalize (ρ 2).tI = l
 generalize (ρ 6).tI = e
 intro h1 h2 h3 h4 h5 h6 hc
 obtain ⟨m, rfl⟩ := ZPJ h5
 have hc := (Zj (p := ∀ i < l.toNat, ZbL (xa X i) = true)).mp hc
 refine ⟨by omega, fun hk => ⟨?_, trivial⟩, fun hk => ⟨rfl, fun x hx0 hx1 => ?_⟩⟩
 ·unfold Znc
  rw [ZPY, decide_eq_false (show ¬ xk (xa X m) = 5 from hk)]; rfl
 ·obtain ⟨n, rfl⟩ := ZPJ hx0
  have e1 : ((n : Int) + 1).toNat = n + 1 := by omega
  have hb := ZFK (x := X) (n := n) fun i hi => hc i (by omega)
  simp only [e1, ZPY]
  refine ⟨fun hlt => ⟨by omega, by omega, fun q => ⟨by omega, by omega, by omega, by omega, by omega, ?_, trivial⟩, fun q => ⟨by omega, by omega, by omega, by omega, by omega, ?_, trivial⟩⟩, fun hge => ⟨by omega, ?_, trivial⟩⟩
  ·exact if_pos q
  ·exact if_neg q
  ·rw [show n = m by omega]
   unfold Znc
   rw [decide_eq_true (show xk (xa X m) = 5 from hk), Bool.true_and]; rfl
theorem ZOK (S : Sig GG) (hS : RfSig S) : ZA S Tryz.prog 29 ZvN := by
 refine Zg S (C := ZM5) (fuel := 12) (ZU ⟨Zi (by decide) (ZM0 S hS), Zi (by decide) (ZNz S hS), trivial⟩ ⟨⟨trivial, trivial⟩, trivial⟩ trivial) fun ρ => ?_
 rw [ZPx]
 simp only [ZMI, ZEA, ZKF, ZIX, Zs3, ZJu, hS.u505, hS.u507, hS.u508, hS.u509, hS.u511, VC.den, SX.den, Env.upd, ZX, ZE, beq_iff_eq, ZPQ, beq_eq_false_iff_ne, ne_eq, ZPP, ZPO, Int.reduceToNat, Nat.reduceEqDiff, reduceIte, sB, sC]
 generalize (ρ 4).tR = X
 generalize (ρ 2).tI = l
 intro h1 h2 h3 h4 hc
 refine ⟨rfl, fun x hx0 hx1 hx2 => ?_⟩
 obtain ⟨n, rfl⟩ := ZPJ hx0
 have e1 : ((n : Int) + 1).toNat = n + 1 := by omega
 simp only [e1, ZPY] at hx2 ⊢
 have hs := Zb2 X n
 rw [if_neg (by rw [hx2]; omega)] at hs
 refine ⟨fun hlt o ho => ⟨fun q => ?_, fun q w hw => ⟨fun r => ?_, fun r => ⟨by omega, by omega, by omega, by omega, by omega, ?_, trivial⟩⟩⟩, fun hge => ?_⟩
 ·rw [<- ho, q, if_pos rfl] at hs
  have := ZjE (x := X) (n := n + 1) (by rw [hs]; show (0 : Int) <= n; omega) (m := l.toNat) (by omega)
  rw [this, hs]; exact ⟨rfl, rfl, trivial⟩
 ·rw [<- ho, q, if_neg (by simp), <- hw, r, if_pos rfl] at hs
  have := ZjE (x := X) (n := n + 1) (by rw [hs]; show (0 : Int) <= n; omega) (m := l.toNat) (by omega)
  rw [this, hs]; exact ⟨rfl, rfl, trivial⟩
 ·rw [<- ho, q, if_neg (by simp), <- hw, r, if_neg (by simp)] at hs
  rw [hs]
 ·have hz := ZOY (x := X) (n := n) (by rw [hx2]; omega)
  rw [show l.toNat = n by omega, hz]; exact ⟨rfl, rfl, trivial⟩
theorem ZMZ (S : Sig GG) (hS : RfSig S) : ZA S Tryz.prog 58 Zq4 := by
 refine Zg S (C := ZO6) (fuel := 12) (ZU trivial trivial trivial) fun ρ => ?_
 rw [ZLi]
 simp only [ZNu, ZCL, ZnJ, Zek, ZC5, Zpf, ZDv, Zts, Zkv, ZDZ, ZaG, ZdT, Zfe, Zse, Zx4, ZqH, ZvX, ZlP, ZqJ, Zhc, Zi6, Zzo, ZCo, Zld, ZkU, Zu1, Zvd, Zyu, ZpC, ZyN, Zvq, Zyj, ZtH, ZBj, ZAJ, hS.u510, VC.den, SX.den, Env.upd, ZX, ZE, beq_iff_eq, ZPQ, beq_eq_false_iff_ne, ne_eq, ZPP, ZPO, Int.reduceToNat, Nat.reduceEqDiff, reduceIte, sB, sC]
 generalize (ρ 0).tI = k
 generalize (ρ 1).tI = w
 generalize (ρ 2).tB = a
 generalize (ρ 3).tB = b
 generalize (ρ 4).toBool = c
 generalize (ρ 5).tI = d
 unfold ZbL xk xw ZY Zao Zcb xt leB
 simp only [List.getD_cons_zero, List.getD_cons_succ, ZPY, Zm, Zey]
 intro _ _ _ _
 repeat' (first | exact trivial | apply And.intro | intro _)
 all_goals (try simp_all)
 all_goals (try omega)
 all_goals (first | (cases c <;> simp_all <;> omega) | (cases a <;> simp_all <;> omega))
theorem chk_ok (S : Sig GG) (hS : RfSig S) : ZA S Tryz.prog 28 Zxh := by
 refine Zg S (C := ZMY) (fuel := 12) (ZU ⟨Zi (by decide) (ZMZ S hS), trivial⟩ ⟨⟨trivial, trivial⟩, trivial⟩ trivial) fun ρ => ?_
 rw [ZOm]
 simp only [ZML, ZEc, Ztx, ZIb, hS.u510, hS.u511, hS.u523, VC.den, SX.den, Env.upd, ZX, ZE, beq_iff_eq, ZPQ, beq_eq_false_iff_ne, ne_eq, ZPP, ZPO, Int.reduceToNat, Nat.reduceEqDiff, reduceIte, sB, sC]
 generalize (ρ 4).tR = X
 generalize (ρ 2).tI = l
 intro h1 h2 h3 h4
 refine ⟨fun h => ⟨?_, trivial⟩, fun hl => ⟨ZC fun i hi => absurd hi (Nat.not_lt_zero _), fun x hx0 hx1 hx2 => ?_⟩⟩
 ·unfold Zb9; rw [if_pos (by omega)]
 obtain ⟨n, rfl⟩ := ZPJ hx0
 have e1 : ((n : Int) + 1).toNat = n + 1 := by omega
 simp only [e1, ZPY] at hx2 ⊢
 have hx2 := (Zj (p := ∀ i < n, ZbL (xa X i) = true)).mp hx2
 rw [may_nr']
 refine ⟨fun hlt => ⟨by omega, fun y hy => ⟨fun q => ⟨?_, trivial⟩, fun q => ⟨by omega, by omega, by omega, by omega, by omega, ZC fun i hi => ?_, trivial⟩⟩⟩, fun hge => ⟨?_, trivial⟩⟩
 ·unfold Zb9
  have hf : ZjV X X.length = false := ZD fun h => by
   have := h n (by omega)
   have hy : y = ZbL (xa X n) := hy
   rw [<- hy, q] at this; cases this
  rw [if_neg (by omega), hf]; rfl
 ·rcases ZPL i n with h | h
  ·exact hx2 i h
  ·rw [show i = n by omega]
   have hy : y = ZbL (xa X n) := hy
   rw [<- hy, q]
 ·unfold Zb9
  have hf : ZjV X X.length = true := ZC fun i hi => hx2 i (by omega)
  rw [if_neg (by omega), hf]; rfl
def lasW : SX := .us .int 512 (rA 4) (ai 6) (bA 7) (ai 8)
def ZBC : Ctr := ⟨hA ++ [.int, .bytes, .int], [.one (hS 0), .one (.int .i64 (ai 6)), .one (.str (bA 7)), .one (.int .i64 (ai 8))], [hC 0 0], hQ 0 ++ [eLe z0 (ai 8), eLe (ai 8) (ai 2)], [.int, .int, .bytes, .bytes, .bool, .int, .bool],
 .tup [(true, [.int .i64 (ai 9), .int .i64 (ai 10), .str (bA 11), .str (bA 12), .bool (qA 13), .int .i64 (ai 14)]), (false, [.bool (qA 15)])], [hC 0 0],
 [.f2 48 (qA 15) (eLe z0 lasW), .f2 45 (ai 9) (usI 525 (rA 4) lasW z0), eqS (bA 12) (usY 524 (rA 4) lasW z0)]⟩
def lasI : Inv := ⟨[.int, .int, .int, .bytes, .bytes, .bool, .int, .int], [(10, .one (.int .i64 (di 0))), (8, .one (.ptr (di 1) 0))], [.cel (di 1) 0 [.int .i64 (di 2), .int .i64 (di 7), .str (bA 1000003), .str (bA 1000004), .bool (qA 1000005), .int .i64 (di 6)]],
 [eLe (.int (-1)) (di 0), eLt (di 0) (ai 8), .f2 45 lasW (.us .int 512 (rA 4) (ai 6) (bA 7) (SX.mk2 40 (di 0) (.int 1)))], .f2 40 (di 0) (.int 1)⟩
def ZNY : Cx := { specs := [], anns := [(61, [(2, .inv lasI)])] }
def kS (b : Nat) : SC := .slice (ai b) (ai (b + 1)) z0 z0 (ai (b + 2)) (ai (b + 3)) 1
def kQ (b : Nat) : List SX := [eLe z0 (ai (b + 2)), .f2 45 (ai (b + 2)) (Zcs (iA (b + 4))), eLe (ai (b + 2)) (ai (b + 3)), eLe (ai (b + 2)) (.int 1099511627776)]
def kA : List Srt := [.int, .int, .int, .int, .ints, .int]
def ZCf : Ctr := ⟨hA ++ kA ++ [.bytes], [.one (hS 0), .one (kS 6), .one (.str (bA 12))], [hC 0 0, rdI 1 6], hQ 0 ++ kQ 6, [],
 .tup [(false, [.str (.us .bytes 513 (rA 4) (iA 10) (bA 12) (ai 8))]), (false, [.bool (.us .bool 514 (rA 4) (iA 10) (bA 12) (ai 8))])], [hC 0 0, rdI 1 6], []⟩
def leaI : Inv := ⟨[.int], [(8, .one (.int .i64 (di 0)))], [], [eLe (.int (-1)) (di 0), eLt (di 0) (ai 8), eqS (.us .bytes 513 (rA 4) (iA 10) (bA 12) (ai 8)) (.us .bytes 513 (rA 4) (iA 10) (bA 12) (SX.mk2 40 (di 0) (.int 1))),
 .f2 48 (.us .bool 514 (rA 4) (iA 10) (bA 12) (ai 8)) (.us .bool 514 (rA 4) (iA 10) (bA 12) (SX.mk2 40 (di 0) (.int 1)))], .f2 40 (di 0) (.int 1)⟩
def ZK2 : Cx := { specs := [(61, [ZBC])], anns := [(32, [(2, .inv leaI)])] }
def ZuX : Ctr := ⟨hA ++ [.int], [.one (hS 0), .one (.int .i64 (ai 6))], [hC 0 0], hQ 0 ++ [eLe z0 (ai 6), eLe (ai 6) (ai 2)], [.int, .int], .one (sl1 (ai 7) (Zcs (usN 515 (rA 4) (ai 6) z0)) (ai 8)), [hC 0 0, iAr (ai 7) (usN 515 (rA 4) (ai 6) z0) (ai 8)],
 [eLe (Zcs (usN 515 (rA 4) (ai 6) z0)) (ai 8), .f2 50 (eLe z0 (ai 7)) (.f2 45 (Zcs (usN 515 (rA 4) (ai 6) z0)) z0)]⟩
def kepW : SX := usN 515 (rA 4) (di 0) z0
def kepI : Inv := ⟨[.int, .int, .int], [(6, .one (.int .i64 (di 0))), (5, .one (sl1 (di 1) (Zcs kepW) (di 2)))], [iAr (di 1) kepW (di 2)], [eLe z0 (di 0), eLe (di 0) (ai 6), eLe (Zcs kepW) (di 2), .f2 50 (eLe z0 (di 1)) (.f2 45 (Zcs kepW) z0)], .f2 41 (ai 6) (di 0)⟩
def ZMo : Cx := { specs := [], anns := [(30, [(0, .ghost ZE8 []), (3, .inv kepI)])] }
def ZDY : SX := .f2 40 (a 8) (k (-1))
def ZlI : SX := .us .int 512 (r 4) (a 6) (b 7) (a 8)
def ZIl : SX := .f2 40 (a 10) (k 1)
def ZC8 : SX := .f3 112 (r 4) (a 10) z
def ZKf : SX := e ZC8 (k 3)
def ZH6 : SX := e ZC8 (k 4)
def ZDw : SX := e (.f3 112 (r 4) (a 10) (k 1)) (a 6)
def ZDc : SX := .f2 150 (.f1 36 (.f3 112 (r 4) (a 10) (k 2))) (b 7)
def ZH5 : SX := l z ZlI
def ZKn : SX := .f2 48 (.bool true) ZH5
def ZA8 : SX := d 525 (r 4) ZlI
def Zxz : SX := e ZC8 ZA8
def Zzj : SX := wB 524 (r 4) ZlI
def ZyE : SX := .f2 155 (.f1 36 (.f3 112 (r 4) (a 10) (k 3))) Zzj
def ZxP : SX := .f1 2 ZDc
def Zra : SX := .f2 40 (a 10) (k (-1))
def Zi2 : SX := .f1 23 Zra
def ZiF : SX := t (a 10) ZIl
def Zip : SX := l (k (-1)) Zra
def ZiW : SX := t Zra (a 8)
def Zi4 : SX := e ZlI (.us .int 512 (r 4) (a 6) (b 7) (a 10))
def ZvO : SX := .f1 2 ZDw
def ZMU : VC := i (l z (a 2)) (i (e (a 2) (.f1 32 (r 4))) (i (l (a 2) (a 3)) (i (l (a 2) k0) (i (l z (a 8)) (i (l (a 8) (a 2)) (u 9 .int (i (l z (a 9)) (n (.f1 23 ZDY) (n (l (k (-1)) ZDY) (n (t ZDY (a 8)) (n (e ZlI ZlI) (u 10 .int (u 11 .int (u 12 .int (u 13 .bytes (u 14 .bytes (u 15 .bool (u 16 .int (u 17 .int (i (l (k (-1)) (a 10)) (i (t (a 10) (a 8)) (i (e ZlI (.us .int 512 (r 4) (a 6) (b 7) ZIl)) (.and (i (l z (a 10)) (n (t (a 10) (a 2)) (n (t (a 10) (.f1 32 (r 4))) (.and (i (.f1 2 ZKf) (.and (i ZH6 (.and (i ZDw (.and (i ZDc (n ZKn (n Zxz (n ZyE .tt)))) (i ZxP (n Zi2 (n ZiF (n Zip (n ZiW (n Zi4 .tt)))))))) (i ZvO (n Zi2 (n ZiF (n Zip (n ZiW (n Zi4 .tt)))))))) (i (.f1 2 ZH6) (n Zi2 (n ZiF (n Zip (n ZiW (n Zi4 .tt)))))))) (i ZKf (.and (i ZDw (.and (i ZDc (n ZKn (n Zxz (n ZyE .tt)))) (i ZxP (n Zi2 (n ZiF (n Zip (n ZiW (n Zi4 .tt)))))))) (i ZvO (n Zi2 (n ZiF (n Zip (n ZiW (n Zi4 .tt)))))))))))) (i (t (a 10) z) (n (.f2 48 (.bool false) ZH5) (n (e z ZA8) (n (.f2 155 (.byt []) Zzj) .tt)))))))))))))))))))))))))))
theorem ZNi : YV Tryz.prog ZNY 12 61 ZBC = ZMU := by kernel_rfl
def ZDh : SX := .f2 40 (a 8) (k (-1))
def Zo9 : SX := .us .bytes 513 (r 4) (s 10) (b 12) (a 8)
def Zpa : SX := .us .bool 514 (r 4) (s 10) (b 12) (a 8)
def ZDb : SX := .f2 40 (a 13) (k 1)
def ZDK : SX := .us .int 512 (r 4) (.f2 110 (s 10) (a 13)) (b 12) (a 2)
def ZDA : SX := .f2 40 (a 13) (k (-1))
def ZN4 : VC := i (l z (a 2)) (i (e (a 2) (.f1 32 (r 4))) (i (l (a 2) (a 3)) (i (l (a 2) k0) (i (l z (a 8)) (i (e (a 8) (.f1 30 (s 10))) (i (l (a 8) (a 9)) (i (l (a 8) k0) (n (.f1 23 ZDh) (n (l (k (-1)) ZDh) (n (t ZDh (a 8)) (n (.f2 155 Zo9 Zo9) (n (.f2 48 Zpa Zpa) (u 13 .int (i (l (k (-1)) (a 13)) (i (t (a 13) (a 8)) (i (.f2 155 Zo9 (.us .bytes 513 (r 4) (s 10) (b 12) ZDb)) (i (.f2 48 Zpa (.us .bool 514 (r 4) (s 10) (b 12) ZDb)) (.and (i (l z (a 13)) (n (t (a 13) (.f1 30 (s 10))) (n (l (a 2) (a 2)) (u 14 .int (u 15 .int (u 16 .bytes (u 17 .bytes (u 18 .bool (u 19 .int (u 20 .bool (i (.f2 48 (q 20) (l z ZDK)) (i (e (a 14) (d 525 (r 4) ZDK)) (i (.f2 155 (b 17) (wB 524 (r 4) ZDK)) (u 21 .int (i (l z (a 21)) (.and (i (q 20) (n (.f2 155 Zpa (e (a 14) (k 3))) (n (.f2 155 Zo9 (b 17)) .tt))) (i (.f1 2 (q 20)) (n (.f1 23 ZDA) (n (t (a 13) ZDb) (n (l (k (-1)) ZDA) (n (t ZDA (a 8)) (n (.f2 155 Zo9 (.us .bytes 513 (r 4) (s 10) (b 12) (a 13))) (n (.f2 48 Zpa (.us .bool 514 (r 4) (s 10) (b 12) (a 13))) .tt))))))))))))))))))))))) (i (t (a 13) z) (n (.f2 155 Zpa (.bool false)) (n (.f2 155 Zo9 (.byt [])) .tt)))))))))))))))))))))
theorem ZLU : YV Tryz.prog ZK2 12 32 ZCf = ZN4 := by kernel_rfl
def ZJG : SX := o 515 (r 4)
def ZGS : SX := .f1 30 ZJG
def ZHK : SX := e ZGS z
def ZB2 : SX := wN 515 (r 4) (a 7)
def Zlj : SX := .f1 30 ZB2
def ZD2 : SX := l z (a 8)
def ZGh : SX := e (.f3 112 (r 4) (a 7) z) (k 5)
def ZBp : SX := .f2 40 Zlj (k 1)
def ZKd : SX := l z (a 11)
def Zs7 : SX := .f2 40 (a 7) (k 1)
def Zt2 : SX := .f1 23 Zs7
def ZxU : SX := .f2 41 (a 6) Zs7
def ZxC : SX := l z ZxU
def Zyl : SX := t ZxU (.f2 41 (a 6) (a 7))
def Zu4 : SX := l z Zs7
def ZtT : SX := l Zs7 (a 6)
def ZqN : SX := wN 515 (r 4) Zs7
def ZiG : SX := .f1 30 ZqN
def Zva : SX := e ZiG z
def Zxe : SX := wN 515 (r 4) (a 6)
def Zqw : SX := .f1 30 Zxe
def ZMW : VC := i (l z (a 2)) (i (e (a 2) (.f1 32 (r 4))) (i (l (a 2) (a 3)) (i (l (a 2) k0) (i (l z (a 6)) (i (l (a 6) (a 2)) (n (l ZGS z) (n (.f2 50 (.bool false) ZHK) (n (.f2 155 ZJG (.f1 152 z)) (n ZHK (u 7 .int (u 8 .int (u 9 .int (i (l z (a 7)) (i (l (a 7) (a 6)) (i (l Zlj (a 9)) (i (.f2 50 ZD2 (e Zlj z)) (.and (i (t (a 7) (a 6)) (n (t (a 7) (a 2)) (n (t (a 7) (.f1 32 (r 4))) (.and (i ZGh (u 10 .int (i (l z (a 10)) (n (l Zlj Zlj) (n (l (.f2 42 ZBp (k 8)) k1) (u 11 .int (u 12 .int (i (l ZBp (a 12)) (i (.f2 50 ZKd (e ZBp z)) (n Zt2 (n ZxC (n Zyl (n Zu4 (n ZtT (n (l ZiG (a 12)) (n (.f2 50 ZKd Zva) (n (.f2 155 ZqN (.f2 119 ZB2 (.f2 122 (.f3 112 (r 4) (a 7) (k 1)) (.f1 152 z)))) (n (e ZiG ZBp) .tt)))))))))))))))))) (i (.f1 2 ZGh) (n Zt2 (n ZxC (n Zyl (n Zu4 (n ZtT (n (l ZiG (a 9)) (n (.f2 50 ZD2 Zva) (n (.f2 155 ZqN ZB2) (n (e ZiG Zlj) .tt)))))))))))))) (i (l (a 6) (a 7)) (n (l Zqw (a 9)) (n (.f2 50 ZD2 (e Zqw z)) (n (.f2 155 Zxe ZB2) (n (e Zqw Zlj) .tt))))))))))))))))))))))
theorem ZNV : YV Tryz.prog ZMo 12 30 ZuX = ZMW := by kernel_rfl
theorem ZNH (S : Sig GG) (hS : RfSig S) : ZA S Tryz.prog 61 ZBC := by
 refine Zg S (C := ZNY) (fuel := 12) (ZU trivial ⟨⟨trivial, trivial⟩, trivial⟩ trivial) fun ρ => ?_
 rw [ZNi]
 simp only [ZMU, ZDY, ZlI, ZIl, ZC8, ZKf, ZH6, ZDw, ZDc, ZH5, ZKn, ZA8, Zxz, Zzj, ZyE, ZxP, Zra, Zi2, ZiF, Zip, ZiW, Zi4, ZvO, hS.u512, hS.u524, hS.u525, ZFx, VC.den, SX.den, Ze6, Env.upd, Zfb, ZX, ZDe, Zql, Zp5, Zj8, Zkj, Zjf, ZkJ, ZjW, Zkz, Zrf, ZkI, Zjq, ZrD, Zr2, Zjs, Zkq, ZjB, beq_iff_eq, ZPQ, beq_eq_false_iff_ne, ne_eq, ZPP, U.tMi, ZPO, Int.reduceToNat, Nat.reduceEqDiff, reduceIte, Zj, Za, Zes, sB]
 generalize (ρ 4).tR = X
 generalize (ρ 2).tI = l
 generalize (ρ 8).tI = e
 generalize (ρ 7).tB = key
 generalize (ρ 6).tI = v
 intro h1 h2 h3 h4 h5 h6 _ _
 refine ⟨by omega, by omega, by omega, trivial, fun i a1 a2 a3 a4 a5 a6 a7 hi1 hi2 hi3 => ⟨fun hi => ?_, fun hi => ?_⟩⟩
 ·obtain ⟨n, rfl⟩ := ZPJ hi
  have e1 : ((n : Int) + 1).toNat = n + 1 := by omega
  simp only [e1, ZPY] at hi3 ⊢
  rw [hi3, ZbE]
  unfold lasV lasK xk xw ZY Zao xa
  generalize YF X v key n = p at *
  generalize hk : (X.getD n []).getD 0 0 = k at *
  generalize (X.getD n []).getD 1 0 = w at *
  generalize Yc ((X.getD n []).getD 2 0).toNat = q at *
  generalize hv : Yc ((X.getD n []).getD 3 0).toNat = z at *
  clear hi3
  refine ⟨by omega, by omega, ?_⟩
  have found : (k = 3 \/ k = 4) /\ w = v /\ q = key -> true = leB 0 (if (k = 3 \/ k = 4) /\ w = v /\ q = key then (n : Int) else p) ∧
    (k = if 0 <= (if (k = 3 \/ k = 4) /\ w = v /\ q = key then (n : Int) else p) then (X.getD (if (k = 3 \/ k = 4) /\ w = v /\ q = key then (n : Int) else p).toNat []).getD 0 0 else 0) ∧
    (z = if 0 <= (if (k = 3 \/ k = 4) /\ w = v /\ q = key then (n : Int) else p) then Yc ((X.getD (if (k = 3 \/ k = 4) /\ w = v /\ q = key then (n : Int) else p).toNat []).getD 3 0).toNat else []) /\ True := by
   intro hc
   rw [if_pos hc, if_pos (by omega), if_pos (by omega), ZPY, hk, hv]
   exact ⟨by unfold leB; simp, rfl, rfl, trivial⟩
  have nf : ¬ ((k = 3 \/ k = 4) /\ w = v /\ q = key) -> (if (k = 3 \/ k = 4) /\ w = v /\ q = key then (n : Int) else p) = p := fun hc => if_neg hc
  repeat' (first | exact trivial | apply And.intro | intro _)
  all_goals first
   | omega
   | exact (found ⟨by omega, by assumption, by assumption⟩).1
   | exact (found ⟨by omega, by assumption, by assumption⟩).2.1
   | exact (found ⟨by omega, by assumption, by assumption⟩).2.2.1
   | exact nf (fun ⟨c1, c2, c3⟩ => by first | contradiction | omega)
 ·have : (i + 1).toNat = 0 := by omega
  rw [hi3, this]
  exact ⟨rfl, rfl, rfl, trivial⟩
theorem ZNw (S : Sig GG) (hS : RfSig S) : ZA S Tryz.prog 32 ZCf := by
 refine Zg S (C := ZK2) (fuel := 12) (ZU ⟨Zi (by decide) (ZNH S hS), trivial⟩ ⟨⟨trivial, trivial⟩, trivial⟩ trivial) fun ρ => ?_
 rw [ZLU]
 simp only [ZN4, ZDh, Zo9, Zpa, ZDb, ZDK, ZDA, hS.u512, hS.u513, hS.u514, hS.u524, hS.u525, ZFx, VC.den, SX.den, Ze6, Env.upd, Zfb, ZX, ZDe, Zql, Zp5, Zj8, Zkj, Zjf, ZkJ, ZjW, Zkz, Zrf, ZkI, Zjq, ZrD, Zr2, Zjs, Zkq, ZjB, beq_iff_eq, ZPQ, beq_eq_false_iff_ne, ne_eq, ZPP, U.tMi, ZPO, Int.reduceToNat, Nat.reduceEqDiff, reduceIte, Zj, Za, Zes, sB]
 generalize (ρ 4).tR = X
 generalize (ρ 10).tN = K
 generalize (ρ 2).tI = l
 generalize (ρ 8).tI = m
 generalize (ρ 12).tB = key
 intro h1 h2 h3 h4 h5 h6 h7 h8
 refine ⟨by omega, by omega, by omega, trivial, trivial, fun i hi1 hi2 hi3 hi4 => ⟨fun hi => ⟨by omega, by omega, fun a1 a2 a3 a4 a5 a6 a7 ha7 ha1 ha4 _ _ => ?_⟩, fun hi => ?_⟩⟩
 ·obtain ⟨n, rfl⟩ := ZPJ hi
  have e1 : ((n : Int) + 1).toNat = n + 1 := by omega
  simp only [e1, ZPY] at hi3 hi4 ha7 ha1 ha4 ⊢
  rw [hi3, hi4, Zc4]
  rw [show l.toNat = X.length by omega] at ha7 ha1 ha4
  unfold lasV at ha4
  unfold lasK at ha1
  generalize YF X (K.getD n 0) key X.length = j at *
  refine ⟨fun q => ?_, fun q => ?_⟩
  ·have hj : 0 <= j := Za.1 (ha7 ▸ q)
   rw [if_pos hj] at ha1 ha4 ⊢
   rw [ha1, ha4]
   exact ⟨by simp only; rw [Bool.eq_iff_iff]; simp, rfl, trivial⟩
  ·have hj : ¬ 0 <= j := fun h => by rw [q, Za.2 h] at ha7; cases ha7
   rw [if_neg hj]
   exact ⟨by omega, by omega, by omega, by omega, rfl, rfl, trivial⟩
 ·have : (i + 1).toNat = 0 := by omega
  rw [hi3, hi4, this]
  exact ⟨rfl, rfl, trivial⟩
theorem ZNv (S : Sig GG) (hS : RfSig S) : ZA S Tryz.prog 30 ZuX := by
 refine Zg S (C := ZMo) (fuel := 12) (ZU trivial ⟨⟨⟨by decide, ZiZ S⟩, trivial, trivial⟩, trivial⟩ trivial) fun ρ => ?_
 rw [ZNV]
 simp only [ZMW, ZJG, ZGS, ZHK, ZB2, Zlj, ZD2, ZGh, ZBp, ZKd, Zs7, Zt2, ZxU, ZxC, Zyl, Zu4, ZtT, ZqN, ZiG, Zva, Zxe, Zqw, hS.u515, ZFx, VC.den, SX.den, Ze6, Env.upd, Zfb, ZX, ZDe, Zql, Zp5, Zj8, Zkj, Zjf, ZkJ, ZjW, Zkz, Zrf, ZkI, Zjq, ZrD, Zr2, Zjs, Zkq, ZjB, beq_iff_eq, ZPQ, beq_eq_false_iff_ne, ne_eq, ZPP, U.tMi, ZPO, Int.reduceToNat, Nat.reduceEqDiff, reduceIte, Zj, Za, Zes, sB]
 generalize (ρ 4).tR = X
 generalize (ρ 2).tI = l
 generalize (ρ 6).tI = m
 intro h1 h2 h3 h4 h5 h6
 refine ⟨by show ((0 : Nat) : Int) <= 0; omega, .inr rfl, rfl, rfl, fun x b c hx0 hx1 hx2 hx3 => ?_⟩
 obtain ⟨n, rfl⟩ := ZPJ hx0
 have e1 : ((n : Int) + 1).toNat = n + 1 := by omega
 have hl := Zxx X n
 simp only [e1, ZPY] at hx2 hx3 ⊢
 refine ⟨fun hlt => ⟨by omega, by omega, fun hk _ _ => ⟨by omega, by omega, fun b' c' hc' hb' => ?_⟩, fun hk => ?_⟩, fun hge => ?_⟩
 ·have hs : ZM X (n + 1) = ZM X n ++ [xw (xa X n)] := if_pos hk
  rw [hs, ZPW, ZPF]
  exact ⟨by omega, by omega, by omega, by omega, by omega, by omega, by omega, rfl, by omega, trivial⟩
 ·have hs : ZM X (n + 1) = ZM X n := if_neg hk
  rw [hs]
  exact ⟨by omega, by omega, by omega, by omega, by omega, hx2, hx3, rfl, rfl, trivial⟩
 ·rw [show m.toNat = n by omega]
  exact ⟨hx2, hx3, rfl, rfl, trivial⟩
def kc (r : Ent) : Int := (Zr (ZY r) : Nat)
def nr (r : Ent) : Ent := [xk r, xw r, (Zr (ZY r) : Nat), (Zr (Zao r) : Nat), b01 (Zcb r), xt r]
def Z3 (m : List (Int × Int)) (r : Ent) : Bool :=
 (Zcb r == (Zx m (kc r) && decide ((YB 0 m (kc r)).tmod 2 = 0))) && (!Zcb r || Zao r == Yc ((YB 0 m (kc r)).tdiv 2).toNat)
def vw (c : Int) : List UInt8 × Bool := (Yc (c.tdiv 2).toNat, decide (c.tmod 2 = 0))
def ZwI (m1 m2 m3 : List (Int × Int)) : Prop := ∀ k, Zx m3 k = (Zx m1 k || Zx m2 k) /\ vw (YB 0 m3 k) = if Zx m2 k = true then vw (YB 0 m2 k) else vw (YB 0 m1 k)
def layM (m1 m2 left m3 : List (Int × Int)) : Prop := (left.map (·.1)).Nodup /\ (∀ k, Zx left k = true -> Zx m2 k = true) ∧
 ∀ k, Zx m3 k = (Zx m1 k || (Zx m2 k && !Zx left k)) /\ vw (YB 0 m3 k) = if Zx m2 k = true /\ Zx left k = false then vw (YB 0 m2 k) else vw (YB 0 m1 k)
def ZkG : Ent := [-7, 0, 0, 0, 0, 0]
def ZqK (x : List Ent) (n : Nat) : List Ent := ((x.drop (x.length - n)).map nr).reverse
def eqE (r s : Ent) : Prop := nr r = nr s
structure JbSig (S : Sig GG) : Prop where
 rf : RfSig S
 u530 : ∀ a b c d, S.usr 530 a b c d = .bool (Z3 a.tM b.tN)
 u531 : ∀ a b c d, S.usr 531 a b c d = .bool (Zn (ZwI a.tM b.tM c.tM))
 u532 : ∀ a b c d, S.usr 532 a b c d = .bool (Zn (layM a.tM b.tM c.tM d.tM))
 u533 : ∀ a b c d, S.usr 533 a b c d = .rows (ZqK a.tR b.tI.toNat)
 u534 : ∀ a b c d, S.usr 534 a b c d = .rows ((a.tR.take c.tI.toNat).map nr ++ b.tR.drop c.tI.toNat)
 u536 : ∀ a b c d, S.usr 536 a b c d = .bool (Zn ((a.tM.map (·.1)).Nodup))
 u535 : ∀ a b c d, S.usr 535 a b c d = .bool (Zn (∀ i : Nat, b.tI <= (i : Int) -> (i : Int) < c.tI -> eqE (xa a.tR i) (xa d.tR i)))
theorem JbSig.of {S T : Sig GG} (h : JbSig S) (hu : T.usr = S.usr) : JbSig T := by
 constructor
 ·have := h.rf
  constructor
  all_goals (rw [hu]; first | exact this.u500 | exact this.u501 | exact this.u502 | exact this.u503 | exact this.u504 | exact this.u505 | exact this.u506 | exact this.u507 | exact this.u508 | exact this.u509 | exact this.u510 | exact this.u511 | exact this.u512 | exact this.u513 | exact this.u514 | exact this.u515 | exact this.u516 | exact this.u517 | exact this.u518 | exact this.u519 | exact this.u520 | exact this.u521 | exact this.u522 | exact this.u523 | exact this.u524 | exact this.u525)
 all_goals (rw [hu]; first | exact h.u530 | exact h.u531 | exact h.u532 | exact h.u533 | exact h.u534 | exact h.u535 | exact h.u536)
theorem ZGD (r : Ent) : xk (nr r) = xk r := rfl
theorem ZKz (r : Ent) : xw (nr r) = xw r := rfl
theorem ZHX (r : Ent) : xt (nr r) = xt r := rfl
theorem Zkm (r : Ent) : ZY (nr r) = ZY r := by
 show Yc (Int.toNat (Zr (ZY r) : Nat)) = _
 rw [ZPY, Zm]
theorem Zg3 (r : Ent) : Zao (nr r) = Zao r := by
 show Yc (Int.toNat (Zr (Zao r) : Nat)) = _
 rw [ZPY, Zm]
theorem ZgH (r : Ent) : Zcb (nr r) = Zcb r := by
 exact Zey _
theorem ZFv (r : Ent) : [r.getD 0 0, r.getD 1 0, (Zr (Yc (r.getD 2 0).toNat) : Nat), (Zr (Yc (r.getD 3 0).toNat) : Nat), b01 (!r.getD 4 0 == 0), r.getD 5 0] = nr r := rfl
theorem ZLP (r : Ent) : nr (nr r) = nr r := by
 unfold nr
 rw [show [xk r, xw r, (Zr (ZY r) : Nat), (Zr (Zao r) : Nat), b01 (Zcb r), xt r] = nr r from rfl, ZGD, ZKz, ZHX, Zkm, Zg3, ZgH]
 rfl
theorem Ztu {r s : Ent} (h : eqE r s) : xk r = xk s /\ xw r = xw s /\ ZY r = ZY s /\ Zao r = Zao s /\ Zcb r = Zcb s /\ xt r = xt s := by
 have h1 := congrArg xk h
 have h2 := congrArg xw h
 have h3 := congrArg ZY h
 have h4 := congrArg Zao h
 have h5 := congrArg Zcb h
 have h6 := congrArg xt h
 rw [ZGD, ZGD] at h1
 rw [ZKz, ZKz] at h2
 rw [Zkm, Zkm] at h3
 rw [Zg3, Zg3] at h4
 rw [ZgH, ZgH] at h5
 rw [ZHX, ZHX] at h6
 exact ⟨h1, h2, h3, h4, h5, h6⟩
theorem Zq1 {r s : Ent} (h : eqE r s) : true = (r.getD 0 0 == s.getD 0 0 && (r.getD 1 0 == s.getD 1 0 && (Yc (r.getD 2 0).toNat == Yc (s.getD 2 0).toNat && (Yc (r.getD 3 0).toNat == Yc (s.getD 3 0).toNat && ((!r.getD 4 0 == 0) == (!s.getD 4 0 == 0) && r.getD 5 0 == s.getD 5 0))))) := by
 obtain ⟨h1, h2, h3, h4, h5, h6⟩ := Ztu h
 have h1 : r.getD 0 0 = s.getD 0 0 := h1
 have h2 : r.getD 1 0 = s.getD 1 0 := h2
 have h3 : Yc (r.getD 2 0).toNat = Yc (s.getD 2 0).toNat := h3
 have h4 : Yc (r.getD 3 0).toNat = Yc (s.getD 3 0).toNat := h4
 have h5 : (!r.getD 4 0 == 0) = (!s.getD 4 0 == 0) := h5
 have h6 : r.getD 5 0 = s.getD 5 0 := h6
 rw [h1, h2, h3, h4, h5, h6]
 simp
theorem ZhF {x : List Ent} {n : Nat} (h : n <= x.length) : (ZqK x n).length = n := by
 unfold ZqK
 rw [List.length_reverse, ZP1, ZP5]; omega
theorem ZE3 {x : List Ent} {i : Nat} (h : i < x.length) : ZqK x (x.length - i) = ZqK x (x.length - (i + 1)) ++ [nr (x.getD i [])] := by
 unfold ZqK
 rw [show x.length - (x.length - i) = i by omega, show x.length - (x.length - (i + 1)) = i + 1 by omega, List.drop_eq_getElem_cons h, ZP0, List.reverse_cons, ZPR, ZPU h, ZPM]
theorem ZBl {x : List Ent} {i j : Nat} {r : Ent} (h : i ≠ j) : xa (x.set i r) j = xa x j := by
 unfold xa
 rw [ZPR, ZPR, List.getElem?_set_ne h]
theorem Zqj (m : List (Int × Int)) (k v q : Int) : Zx (Yw m k v) q = (decide (k = q) || Zx m q) := by
 induction m with
 | nil => simp [Yw, Zx]
 | cons p m ih =>
  obtain ⟨a, b⟩ := p
  unfold Yw
  by_cases h : a = k
  ·subst h; simp only [if_true, Zx]; by_cases hq : a = q <;> simp [hq]
  ·rw [if_neg h]
   simp only [Zx]
   by_cases hq : a = q
   ·simp [hq]
   ·rw [if_neg hq, if_neg hq, ih]
theorem Zrj (d : Int) (m : List (Int × Int)) (k v q : Int) : YB d (Yw m k v) q = if k = q then v else YB d m q := by
 induction m with
 | nil => simp [Yw, YB]
 | cons p m ih =>
  obtain ⟨a, b⟩ := p
  unfold Yw
  by_cases h : a = k
  ·subst h; simp only [if_true, YB]; by_cases hq : a = q <;> simp [hq]
  ·rw [if_neg h]
   simp only [YB]
   by_cases hq : a = q
   ·have : ¬ k = q := fun e => h (by rw [hq, e])
    simp [hq, this]
   ·rw [if_neg hq, if_neg hq, ih]
theorem Zbz {m : List (Int × Int)} (hn : (m.map (·.1)).Nodup) (k : Int) : ((Y0 m k).map (·.1)).Nodup := by
 induction m with
 | nil => exact hn
 | cons p m ih =>
  obtain ⟨a, b⟩ := p
  simp only [ZP0, List.nodup_cons] at hn
  unfold Y0
  split
  ·exact hn.2
  ·simp only [ZP0, List.nodup_cons]
   refine ⟨fun h => hn.1 ?_, ih hn.2⟩
   obtain ⟨q, hq, he⟩ := List.mem_map.1 h
   exact List.mem_map.2 ⟨q, Zko hq, he⟩
theorem Zdk {m : List (Int × Int)} {k : Int} (h : Zx m k = true) : (Y0 m k).length < m.length := by
 induction m with
 | nil => cases h
 | cons p m ih =>
  obtain ⟨a, b⟩ := p
  unfold Y0
  simp only [Zx] at h
  split
  ·simp
  ·rename_i hne; rw [if_neg hne] at h
   have := ih h
   simp only [ZQb]; omega
theorem ZMf (t : List UInt8) (b : Bool) : vw ((Zr t : Nat) * 2 + b01 b) = (t, !b) := by
 unfold vw b01
 cases b
 ·have h1 : (((Zr t : Nat) : Int) * 2 + if false = true then 1 else 0).tdiv 2 = (Zr t : Nat) := by
   rw [Int.tdiv_eq_ediv_of_nonneg (by split <;> omega)]; split <;> omega
  have h2 : (((Zr t : Nat) : Int) * 2 + if false = true then 1 else 0).tmod 2 = 0 := by
   rw [Int.tmod_eq_emod_of_nonneg (by split <;> omega)]; simp
  rw [h1, h2, ZPY, Zm]; rfl
 ·have h1 : (((Zr t : Nat) : Int) * 2 + if true = true then 1 else 0).tdiv 2 = (Zr t : Nat) := by
   rw [Int.tdiv_eq_ediv_of_nonneg (by split <;> omega)]; split <;> omega
  have h2 : (((Zr t : Nat) : Int) * 2 + if true = true then 1 else 0).tmod 2 = 1 := by
   rw [Int.tmod_eq_emod_of_nonneg (by split <;> omega)]; simp
  rw [h1, h2, ZPY, Zm]; rfl
theorem ZaD {m : List (Int × Int)} (hn : (m.map (·.1)).Nodup) (k q : Int) : Zx (Y0 m k) q = (!decide (k = q) && Zx m q) := by
 induction m with
 | nil => simp [Y0, Zx]
 | cons p m ih =>
  obtain ⟨a, b⟩ := p
  simp only [ZP0, List.nodup_cons] at hn
  have no : Zx m a = false := by
   cases h : Zx m a
   ·rfl
   ·exfalso; apply hn.1
    clear ih hn
    induction m with
    | nil => cases h
    | cons p m ih2 =>
     obtain ⟨c, e⟩ := p
     simp only [Zx] at h
     split at h
     ·rename_i hc; simp [hc]
     ·simp [ih2 h]
  unfold Y0
  by_cases h : a = k
  ·subst h
   rw [if_pos rfl]
   simp only [Zx]
   by_cases hq : a = q
   ·subst hq; simp [no]
   ·simp [hq]
  ·rw [if_neg h]
   simp only [Zx]
   by_cases hq : a = q
   ·have : ¬ k = q := fun e => h (by rw [hq, e])
    simp [hq, this]
   ·rw [if_neg hq, if_neg hq, ih hn.2]
def scC (b m : SX) : Ch := .map .str .sb b m
def ndmC : Ctr := ⟨[.int, .amap], [.one (.map (ai 0))], [scC (ai 0) (mA 1)], [], [], .tup [], [scC (ai 0) (mA 1)], [usB 536 (mA 1) z0 z0]⟩
theorem ZLS (S : Sig GG) (hS : JbSig S) : YH S ndmC := by
 refine ZL S fun T w0 ρ h hu hp hd hr hpre => ⟨ρ, Ext.refl _ _, hpre, ?_⟩
 have hT := hS.of hu
 intro x hx
 simp only [ndmC, ZPK] at hx
 subst hx
 have e1 : hpDen T ρ w0 ndmC.pre = Zd ((scC (ai 0) (mA 1)).den T ρ w0) emp := rfl
 rw [e1, Zc] at hpre
 obtain ⟨_, es, clock, ⟨_, hn, _⟩, _⟩ := hpre
 simp only [usB, SX.den, hT.u536, YQ, U.tPi, U.tQi, Zj]
 exact hn
def ZyL : Ctr := Zq4
def ZMR : Cx := { specs := [], anns := [] }
def ZuP : Ctr := ⟨hA, [.one (hS 0), .one (.fn 51)], [hC 0 0], [eLe z0 (ai 2), eLe (ai 2) (Zh (rA 4)), eLe (ai 2) (ai 3), eLe (ai 2) (.int 1099511627776)], [.bool], .one (.bool (qA 6)), [hC 0 0], [.f2 48 (qA 6) (.f1 2 (usB 511 (rA 4) (ai 2) z0))]⟩
def cfnI : Inv := ⟨[.int], [(8, .one (.int .i64 (di 0)))], [], [eLe z0 (di 0), eLe (di 0) (ai 2), usB 511 (rA 4) (di 0) z0], .f2 41 (ai 2) (di 0)⟩
def ZLt : Cx := { specs := [(52, [ZyL])], anns := [(75, [(2, .inv cfnI)])] }
def entY : SX := Zbm (ai 2) (ai 3) (.f1 35 (bA 4)) (.f1 35 (bA 5)) (.f1 3 (qA 6)) (ai 7)
def ZiU : Ctr := ⟨[.int, .amap, .int, .int, .bytes, .bytes, .bool, .int], [.one (.map (ai 0)), .agg [.int .i64 (ai 2), .int .i64 (ai 3), .str (bA 4), .str (bA 5), .bool (qA 6), .int .i64 (ai 7)]], [scC (ai 0) (mA 1)], [eLe z0 (ai 0)], [.bool],
 .one (.bool (qA 8)), [scC (ai 0) (mA 1)], [.f2 48 (qA 8) (usB 530 (mA 1) entY z0)]⟩
def ZLc : Cx := { specs := [], anns := [] }
def ZmM : Ctr := ⟨[.int, .amap, .int, .amap], [.one (.map (ai 0)), .one (.map (ai 2))], [scC (ai 0) (mA 1), scC (ai 2) (mA 3)], [eLe z0 (ai 0), eLe z0 (ai 2)], [.amap], .tup [], [scC (ai 0) (mA 4), scC (ai 2) (mA 3)], [usB 531 (mA 1) (mA 3) (mA 4)]⟩
def layI : Inv := ⟨[.amap, .ints, .amap], [], [.itr .str .sb (ai 2) (mA 3) (ai 4) (mA 1000000) (iA 1000001), scC (ai 0) (mA 1000002)], [.us .bool 532 (mA 1) (mA 3) (mA 1000000) (mA 1000002)], .f1 33 (mA 1000000)⟩
def ZLO : Cx := { specs := [], anns := [(56, [(0, .ghost ndmC [.tmp 1]), (1, .inv layI)])] }
def mkX : SX := Zbm (.int (-7)) z0 z0 z0 z0 z0
def mksX : SX := Zu mkX (Zu mkX (Zu mkX Zbn))
def ZBK : Ctr := ⟨hA, [.one (hS 0)], [hC 0 0], hQ 0, [.int, .int], .one (slC (ai 6) (ai 2) (ai 7) 6), [hC 0 0, .arr hE (ai 6) (.f2 121 (rA 4) mksX) (ai 7)], [eLe (SX.mk2 40 (ai 2) (.int 3)) (ai 7), eLe z0 (ai 6)]⟩
def ZMM : Cx := { specs := [], anns := [] }
def ZAx : Ctr := ⟨hA, [.one (hS 0)], [hC 0 0], hQ 0, [.int, .int], .one (slC (ai 6) (ai 2) (ai 7) 6), [hC 0 0, .arr hE (ai 6) (usR 533 (rA 4) (ai 2) z0) (ai 7)], [eLe (ai 2) (ai 7), .f2 50 (eLe z0 (ai 6)) (.f2 45 (ai 2) z0)]⟩
def trnW : SX := usR 533 (rA 4) (.f2 41 (ai 2) (SX.mk2 40 (di 0) (.int 1))) z0
def trnI : Inv := ⟨[.int, .int, .int], [(4, .one (.int .i64 (di 0))), (3, .one (slC (di 1) (Zh trnW) (di 2) 6))], [.arr hE (di 1) trnW (di 2)], [eLe (.int (-1)) (di 0), eLt (di 0) (ai 2), eLe (Zh trnW) (di 2), .f2 50 (eLe z0 (di 1)) (.f2 45 (Zh trnW) z0)], .f2 40 (di 0) (.int 1)⟩
def emHC : Ctr := ⟨[], [], [], [], [], .tup [], [.arr hE (.int (-1)) Zbn z0], []⟩
theorem ZLn {G : Type} (S : Sig G) : YH S emHC := by
 refine ZL S fun T w0 ρ h hu hp hd hr hpre => ⟨ρ, Ext.refl _ _, ?_, by intro x hx; exact nomatch hx⟩
 have e1 : hpDen T ρ w0 emHC.pre = emp := rfl
 have e2 : hpDen T ρ w0 emHC.post = Zd (rAD hE (-1) [] 0) emp := rfl
 rw [e1] at hpre
 rw [e2, Zc, hE, Zci]; exact hpre
def ZLb : Cx := { specs := [], anns := [(9, [(0, .ghost emHC []), (3, .inv trnI)])] }
def Zxd : Ctr := ⟨[.int, .rows, .int, .int, .int] ++ hA, [.one (slC (ai 0) (ai 2) (ai 3) 6), .one (hS 5)], [.arr hE (ai 0) (rA 1) (ai 4), hC 0 5], [eLe z0 (ai 2), eLe (ai 2) (Zh (rA 1)), eLe (ai 2) (ai 3), .f2 45 (ai 2) (ai 7)] ++ hQ 5, [], .tup [],
 [.arr hE (ai 0) (usR 534 (rA 9) (rA 1) (ai 2)) (ai 4), hC 0 5], []⟩
def ovrI : Inv := ⟨[.int], [(4, .one (.int .i64 (di 0)))], [.arr hE (ai 0) (usR 534 (rA 9) (rA 1) (di 0)) (ai 4)], [eLe z0 (di 0), eLe (di 0) (ai 2)], .f2 41 (ai 2) (di 0)⟩
def ZPj : Cx := { specs := [], anns := [(10, [(1, .inv ovrI)])] }
def ZuD : Ctr := ⟨[.int, .rows, .int, .int, .int] ++ hA, [.one (slC (ai 0) (ai 2) (ai 3) 6), .one (hS 5)], [.arr hE (ai 0) (rA 1) (ai 4), hC 0 5], [eLe z0 (ai 2), .f2 45 (Zh (rA 1)) (SX.mk2 40 (ai 2) (.int 3)), eLe (SX.mk2 40 (ai 2) (.int 3)) (ai 3), .f2 45 (ai 2) (ai 7), .us .bool 535 (rA 1) z0 (ai 2) (rA 9), .us .bool 535 (rA 1) (ai 2) (SX.mk2 40 (ai 2) (.int 3)) (.f2 121 (rA 9) mksX)] ++ hQ 5, [.bool], .one (.bool (qA 11)), [hC 0 5], [qA 11]⟩
def aslI : Inv := ⟨[.int, .rows], [(7, .one (.int .i64 (di 0))), (6, .one (.bool (.bool true)))], [.arr hE (ai 0) (rA 1000001) (ai 4)], [eLe z0 (di 0), eLe (di 0) (SX.mk2 40 (ai 2) (.int 3)), .f2 45 (Zh (rA 1000001)) (Zh (rA 1)), .us .bool 535 (rA 1000001) (di 0) (SX.mk2 40 (ai 2) (.int 3)) (rA 1)], .f2 41 (SX.mk2 40 (ai 2) (.int 3)) (di 0)⟩
def ZLv : Cx := { specs := [], anns := [(11, [(6, .inv aslI)])] }
def ZHO : SX := e (a 0) (k 2)
def ZA3 : SX := .f2 150 (b 2) (b 2)
def ZGM : SX := .f2 150 (b 3) (b 3)
def ZEP : SX := e (a 5) z
def ZG3 : SX := .f2 49 (.f2 48 (q 4) (q 4)) ZEP
def ZHi : SX := .f2 49 ZA3 (.f2 49 ZGM ZG3)
def ZJo : SX := l z (a 1)
def ZCR : SX := .f2 150 (b 2) (.byt [])
def ZsP : SX := p 510 (.f2 122 (a 0) (.f2 122 (a 1) (.f2 122 (.f1 35 (b 2)) (.f2 122 (.f1 35 (b 3)) (.f2 122 (.f1 3 (q 4)) (.f2 122 (a 5) (.f1 152 z)))))))
def ZzR : SX := .f2 48 (.f1 2 ZCR) ZsP
def ZyY : SX := t (a 1) z
def ZaM : SX := .f2 48 (.bool false) ZsP
def Zp4 : SX := .f2 150 (b 3) (.byt [])
def ZzE : SX := .f2 49 ZA3 (.f2 49 Zp4 ZG3)
def Zzz : SX := e (a 0) (k 3)
def ZA2 : SX := .f2 49 ZA3 (.f2 49 ZGM (.f2 49 (.f2 48 (q 4) (.bool true)) ZEP))
def Zk0 : SX := t z (a 1)
def Zr6 : SX := l (a 1) z
def Zu2 : SX := e (a 0) (k 4)
def ZuO : SX := .f2 48 (q 4) (.bool false)
def ZxL : SX := .f2 49 Zp4 (.f2 49 ZuO ZEP)
def ZyJ : SX := .f2 49 ZA3 ZxL
def Zt3 : SX := e (a 0) (k 5)
def Zzd : SX := .f2 49 ZCR (.f2 49 Zp4 ZuO)
def Zru : SX := e (a 0) (k 1)
def Zl7 : SX := .f2 49 ZCR ZxL
def Zzb : SX := .f2 48 Zk0 ZsP
def Zyb : SX := .f1 2 Zl7
def Zy7 : SX := e (a 0) (k 6)
def Zp7 : SX := e (a 0) (k 7)
def ZO3 : VC := u 6 .int (i (l z (a 6)) (u 7 .int (i (l z (a 7)) (.and (i ZHO (.and (i (q 4) (.and (i ZHi (.and (i ZJo (n ZzR .tt)) (i ZyY (n ZaM .tt)))) (i (.f1 2 ZHi) (n ZaM .tt)))) (i (.f1 2 (q 4)) (.and (i ZzE (.and (i ZJo (n ZzR .tt)) (i ZyY (n ZaM .tt)))) (i (.f1 2 ZzE) (n ZaM .tt)))))) (i (.f1 2 ZHO) (.and (i Zzz (.and (i ZA2 (.and (i Zk0 (n ZzR .tt)) (i Zr6 (n ZaM .tt)))) (i (.f1 2 ZA2) (n ZaM .tt)))) (i (.f1 2 Zzz) (.and (i Zu2 (.and (i ZyJ (.and (i Zk0 (n ZzR .tt)) (i Zr6 (n ZaM .tt)))) (i (.f1 2 ZyJ) (n ZaM .tt)))) (i (.f1 2 Zu2) (.and (i Zt3 (.and (i Zzd (.and (i Zk0 (.and (i (l (k 1) (a 5)) (n (.f2 48 (l (a 5) k0) ZsP) .tt)) (i (t (a 5) (k 1)) (n ZaM .tt)))) (i Zr6 (n ZaM .tt)))) (i (.f1 2 Zzd) (n ZaM .tt)))) (i (.f1 2 Zt3) (.and (i Zru (.and (i Zru (.and (i Zl7 (n Zzb .tt)) (i Zyb (n ZaM .tt)))) .tt)) (i (.f1 2 Zru) (.and (i Zy7 (.and (i Zl7 (n Zzb .tt)) (i Zyb (n ZaM .tt)))) (i (.f1 2 Zy7) (.and (i Zp7 (n (.f2 48 (.f2 49 Zp7 (.f2 49 (e (a 1) z) Zl7)) ZsP) .tt)) (i (.f1 2 Zp7) (n ZaM .tt))))))))))))))))))
theorem ZOd : YV Tryz.prog ZMR 12 52 ZyL = ZO3 := by kernel_rfl
def ZIS : SX := l z (a 6)
def ZIV : SX := .f1 2 (c 511 (r 4) (a 2))
def Zth : SX := .f2 40 (a 6) (k 1)
def ZGL : SX := .f2 41 (a 2) Zth
def ZLZ : VC := i (l z (a 2)) (i (l (a 2) (.f1 32 (r 4))) (i (l (a 2) (a 3)) (i (l (a 2) k0) (n (p 511 (r 4)) (u 6 .int (i ZIS (i (l (a 6) (a 2)) (i (c 511 (r 4) (a 6)) (.and (i (t (a 6) (a 2)) (n (t (a 6) (.f1 32 (r 4))) (u 7 .int (i (l z (a 7)) (u 8 .bool (i (.f2 48 (q 8) (p 510 (.f2 122 (.f3 112 (r 4) (a 6) z) (.f2 122 (.f3 112 (r 4) (a 6) (k 1)) (.f2 122 (.f1 35 (.f1 36 (.f3 112 (r 4) (a 6) (k 2)))) (.f2 122 (.f1 35 (.f1 36 (.f3 112 (r 4) (a 6) (k 3)))) (.f2 122 (.f1 3 (.f1 2 (e (.f3 112 (r 4) (a 6) (k 4)) z))) (.f2 122 (.f3 112 (r 4) (a 6) (k 5)) (.f1 152 z))))))))) (.and (i (.f1 2 (q 8)) (n (.f2 48 ZIS ZIV) .tt)) (i (.f1 2 (.f1 2 (q 8))) (n (.f1 23 Zth) (n (l z ZGL) (n (t ZGL (.f2 41 (a 2) (a 6))) (n (l z Zth) (n (l Zth (a 2)) (n (c 511 (r 4) Zth) .tt)))))))))))))) (i (l (a 2) (a 6)) (n (.f2 48 (.bool false) ZIV) .tt)))))))))))
theorem ZNG : YV Tryz.prog ZLt 12 50 ZuP = ZLZ := by kernel_rfl
def ZJI : SX := .f2 141 (m 1) (.f1 35 (b 4))
def ZHs : SX := .f3 140 z (m 1) (.f1 35 (b 4))
def ZKm : SX := .f2 48 (q 6) (e (.f2 44 ZHs (k 2)) z)
def ZGT : SX := .f1 2 (.f1 2 (q 6))
def ZDM : SX := c 530 (m 1) (.f2 122 (a 2) (.f2 122 (a 3) (.f2 122 (.f1 35 (b 4)) (.f2 122 (.f1 35 (b 5)) (.f2 122 (.f1 3 (q 6)) (.f2 122 (a 7) (.f1 152 z)))))))
def ZKe : SX := .f2 48 (.f2 150 (b 5) (.f1 36 (.f2 43 ZHs (k 2)))) ZDM
def ZKx : SX := .f2 48 (.bool true) ZDM
def ZIu : SX := .f2 48 (.bool false) ZDM
def ZH2 : SX := .f2 48 (q 6) (.bool false)
def ZO8 : VC := i (l z (a 0)) (u 8 .int (i (l z (a 8)) (u 9 .int (i (l z (a 9)) (.and (i ZJI (.and (i ZKm (.and (i ZGT (n ZKe .tt)) (i (.f1 2 (q 6)) (n ZKx .tt)))) (i (.f1 2 ZKm) (n ZIu .tt)))) (i (.f1 2 ZJI) (.and (i ZH2 (.and (i ZGT (n ZKe .tt)) (i (.f1 2 (q 6)) (n ZKx .tt)))) (i (.f1 2 ZH2) (n ZIu .tt)))))))))
theorem ZL4 : YV Tryz.prog ZLc 12 47 ZiU = ZO8 := by kernel_rfl
def ZIv : SX := .f2 143 (m 5) (.f1 35 (b 8))
def ZGc : SX := .f3 140 z (m 3) (.f1 35 (b 8))
def ZPg : VC := i (l z (a 0)) (i (l z (a 2)) (i (p 536 (m 3)) (u 4 .int (i (l z (a 4)) (n (.us .bool 532 (m 1) (m 3) (m 3) (m 1)) (u 5 .amap (u 6 .ints (u 7 .amap (i (.us .bool 532 (m 1) (m 3) (m 5) (m 7)) (.and (i (e (.f1 33 (m 5)) z) (n (y 531 (m 1) (m 3) (m 7)) .tt)) (u 8 .bytes (i (.f2 141 (m 5) (.f1 35 (b 8))) (u 9 .int (i (l z (a 9)) (n (t (.f1 33 ZIv) (.f1 33 (m 5))) (n (.us .bool 532 (m 1) (m 3) ZIv (.f3 142 (m 7) (.f1 35 (b 8)) (.f2 40 (.f2 42 (.f1 35 (.f1 36 (.f2 43 ZGc (k 2)))) (k 2)) (.f1 3 (.f1 2 (e (.f2 44 ZGc (k 2)) z)))))) .tt))))))))))))))))
theorem ZND : YV Tryz.prog ZLO 12 26 ZmM = ZPg := by kernel_rfl
def ZKi : SX := .f2 115 (r 4) (a 2)
def ZnP : SX := .f2 40 (a 2) (k 1)
def ZHQ : SX := .f2 115 ZKi (a 2)
def Zno : SX := .f2 40 (a 2) (k 2)
def ZKp : SX := .f2 122 z (.f2 122 z (.f1 152 z))
def ZCV : SX := .f2 124 (.f2 122 (k (-7)) (.f2 122 z (.f2 122 (.f1 35 (.byt [])) (.f2 122 (.f1 35 (.byt [])) ZKp)))) (.f1 154 z)
def ZHb : SX := .f2 115 (.f2 121 ZHQ ZCV) ZnP
def Zvv : SX := .f2 40 (a 2) (k 3)
def ZGv : SX := l z (a 15)
def ZEQ : SX := .f2 122 (k (-7)) (.f2 122 z (.f2 122 z (.f2 122 z ZKp)))
def ZOT : VC := i (l z (a 2)) (i (e (a 2) (.f1 32 (r 4))) (i (l (a 2) (a 3)) (i (l (a 2) k0) (n (l (.f2 42 (a 2) (k 64)) k1) (n (l (a 2) (.f1 32 (r 4))) (u 6 .int (u 7 .int (i (l (a 2) (a 7)) (i (.f2 50 (l z (a 6)) (e (a 2) z)) (u 8 .int (i (l z (a 8)) (n (l (a 2) (.f1 32 ZKi)) (n (l (.f2 42 ZnP (k 64)) k1) (u 9 .int (u 10 .int (i (l ZnP (a 10)) (i (.f2 50 (l z (a 9)) (e ZnP z)) (u 11 .int (i (l z (a 11)) (n (l z ZnP) (n (l ZnP (.f2 40 (.f1 32 ZHQ) (k 1))) (n (l (.f2 42 Zno (k 64)) k1) (u 12 .int (u 13 .int (i (l Zno (a 13)) (i (.f2 50 (l z (a 12)) (e Zno z)) (u 14 .int (i (l z (a 14)) (n (l z Zno) (n (l Zno (.f2 40 (.f1 32 ZHb) (k 1))) (n (l (.f2 42 Zvv (k 64)) k1) (u 15 .int (u 16 .int (i (l Zvv (a 16)) (i (.f2 50 ZGv (e Zvv z)) (n (l z Zvv) (n (l z (a 16)) (n (l (a 2) (a 16)) (n ZGv (n (.f2 155 (.f2 121 (r 4) (.f2 124 ZEQ (.f2 124 ZEQ (.f2 124 ZEQ (.f1 154 z))))) (.f2 121 (.f2 115 (.f2 121 ZHb ZCV) Zno) ZCV)) .tt))))))))))))))))))))))))))))))))))))))))
theorem ZNC : YV Tryz.prog ZMM 12 7 ZBK = ZOT := by kernel_rfl
def ZFd : SX := .f2 40 (a 2) (k (-1))
def ZHq : SX := wR 533 (r 4) (.f2 41 (a 2) (a 2))
def ZIz : SX := .f1 32 ZHq
def ZJT : SX := e ZIz z
def ZGQ : SX := .f2 40 (a 6) (k 1)
def ZE0 : SX := wR 533 (r 4) (.f2 41 (a 2) ZGQ)
def Zn0 : SX := .f1 32 ZE0
def ZIo : SX := l z (a 7)
def ZwW : SX := .f2 40 Zn0 (k 1)
def ZJF : SX := l z (a 10)
def Zrp : SX := .f2 40 (a 6) (k (-1))
def ZBx : SX := wR 533 (r 4) (.f2 41 (a 2) (a 6))
def Zrs : SX := .f1 32 ZBx
def ZNy : VC := i (l z (a 2)) (i (e (a 2) (.f1 32 (r 4))) (i (l (a 2) (a 3)) (i (l (a 2) k0) (n (.f1 23 ZFd) (n (l (k (-1)) ZFd) (n (t ZFd (a 2)) (n (l ZIz z) (n (.f2 50 (.bool false) ZJT) (n (.f2 155 ZHq (.f1 154 z)) (n ZJT (u 6 .int (u 7 .int (u 8 .int (i (l (k (-1)) (a 6)) (i (t (a 6) (a 2)) (i (l Zn0 (a 8)) (i (.f2 50 ZIo (e Zn0 z)) (.and (i (l z (a 6)) (n (t (a 6) (.f1 32 (r 4))) (u 9 .int (i (l z (a 9)) (n (l Zn0 Zn0) (n (l (.f2 42 ZwW (k 64)) k1) (u 10 .int (u 11 .int (i (l ZwW (a 11)) (i (.f2 50 ZJF (e ZwW z)) (n (.f1 23 Zrp) (n (t (a 6) ZGQ) (n (l (k (-1)) Zrp) (n (t Zrp (a 2)) (n (l Zrs (a 11)) (n (.f2 50 ZJF (e Zrs z)) (n (.f2 155 ZBx (.f2 121 ZE0 (.f2 124 (.f2 122 (.f3 112 (r 4) (a 6) z) (.f2 122 (.f3 112 (r 4) (a 6) (k 1)) (.f2 122 (.f1 35 (.f1 36 (.f3 112 (r 4) (a 6) (k 2)))) (.f2 122 (.f1 35 (.f1 36 (.f3 112 (r 4) (a 6) (k 3)))) (.f2 122 (.f1 3 (.f1 2 (e (.f3 112 (r 4) (a 6) (k 4)) z))) (.f2 122 (.f3 112 (r 4) (a 6) (k 5)) (.f1 152 z))))))) (.f1 154 z)))) (n (e Zrs ZwW) .tt)))))))))))))))))) (i (t (a 6) z) (n (l (a 2) (a 8)) (n (.f2 50 ZIo (e (a 2) z)) (n (.f2 155 (wR 533 (r 4) (a 2)) ZE0) (n (e (a 2) Zn0) .tt)))))))))))))))))))))))
theorem ZM8 : YV Tryz.prog ZLb 12 9 ZAx = ZNy := by kernel_rfl
def ZE6 : SX := hR0 534 (r 9) (r 1) (a 11)
def Ztg : SX := .f2 40 (a 11) (k 1)
def ZKs : SX := .f2 41 (a 2) Ztg
def ZNm : VC := i (l z (a 2)) (i (l (a 2) (.f1 32 (r 1))) (i (l (a 2) (a 3)) (i (e (a 2) (a 7)) (i (l z (a 7)) (i (e (a 7) (.f1 32 (r 9))) (i (l (a 7) (a 8)) (i (l (a 7) k0) (n (.f2 155 (wR 534 (r 9) (r 1)) (r 1)) (u 11 .int (i (l z (a 11)) (i (l (a 11) (a 2)) (.and (i (t (a 11) (a 2)) (n (t (a 11) (a 7)) (n (t (a 11) (.f1 32 (r 9))) (n (t (a 11) (.f1 32 ZE6)) (n (.f1 23 Ztg) (n (l z ZKs) (n (t ZKs (.f2 41 (a 2) (a 11))) (n (l z Ztg) (n (l Ztg (a 2)) (n (.f2 155 (hR0 534 (r 9) (r 1) Ztg) (.f3 132 ZE6 (a 11) (.f2 122 (.f3 112 (r 9) (a 11) z) (.f2 122 (.f3 112 (r 9) (a 11) (k 1)) (.f2 122 (.f1 35 (.f1 36 (.f3 112 (r 9) (a 11) (k 2)))) (.f2 122 (.f1 35 (.f1 36 (.f3 112 (r 9) (a 11) (k 3)))) (.f2 122 (.f1 3 (.f1 2 (e (.f3 112 (r 9) (a 11) (k 4)) z))) (.f2 122 (.f3 112 (r 9) (a 11) (k 5)) (.f1 152 z))))))))) .tt)))))))))) (i (l (a 2) (a 11)) (n (.f2 155 (hR0 534 (r 9) (r 1) (a 2)) ZE6) .tt))))))))))))))
theorem ZPn : YV Tryz.prog ZPj 12 10 Zxd = ZNm := by kernel_rfl
def Zfx : SX := .f2 40 (a 2) (k 3)
def ZIA : SX := e (a 2) (a 7)
def ZKy : SX := .f2 122 z (.f2 122 z (.f1 152 z))
def ZDH : SX := .f2 122 (k (-7)) (.f2 122 z (.f2 122 z (.f2 122 z ZKy)))
def ZsI : SX := .f2 40 (a 7) (k 3)
def ZJO : SX := t (a 11) (.f1 32 (r 12))
def Zsx : SX := .f2 40 (a 11) (k 1)
def ZH1 : SX := .f1 23 Zsx
def ZHG : SX := .f2 41 Zfx Zsx
def ZF3 : SX := l z ZHG
def ZxI : SX := t ZHG (.f2 41 Zfx (a 11))
def ZAK : SX := l z Zsx
def Zxu : SX := l Zsx Zfx
def ZBW : SX := .us .bool 535 (.f3 132 (r 12) (a 11) (.f2 122 (k (-8)) (.f2 122 z (.f2 122 (.f1 35 (.byt [])) (.f2 122 (.f1 35 (.byt [])) ZKy))))) Zsx Zfx (r 1)
def ZBb : SX := .f3 112 (r 12) (a 11) z
def Zyf : SX := .f3 112 (r 12) (a 11) (k 1)
def ZBQ : SX := .f1 36 (.f3 112 (r 12) (a 11) (k 2))
def ZvM : SX := .f1 36 (.f3 112 (r 12) (a 11) (k 3))
def ZxQ : SX := .f1 2 (e (.f3 112 (r 12) (a 11) (k 4)) z)
def ZxG : SX := .f3 112 (r 12) (a 11) (k 5)
def ZOl : VC := i (l z (a 2)) (i (e (.f1 32 (r 1)) Zfx) (i (l Zfx (a 3)) (i ZIA (i (.us .bool 535 (r 1) z (a 2) (r 9)) (i (.us .bool 535 (r 1) (a 2) Zfx (.f2 121 (r 9) (.f2 124 ZDH (.f2 124 ZDH (.f2 124 ZDH (.f1 154 z)))))) (i (l z (a 7)) (i (e (a 7) (.f1 32 (r 9))) (i (l (a 7) (a 8)) (i (l (a 7) k0) (.and .tt (i ZIA (n (.f1 23 ZsI) (n (l z (a 3)) (n (l z ZsI) (n (l ZsI (a 3)) (n (l z Zfx) (n (e (.f1 32 (r 1)) (.f1 32 (r 1))) (n (.us .bool 535 (r 1) z Zfx (r 1)) (u 11 .int (u 12 .rows (i (l z (a 11)) (i (l (a 11) Zfx) (i (e (.f1 32 (r 12)) (.f1 32 (r 1))) (i (.us .bool 535 (r 12) (a 11) Zfx (r 1)) (.and (i (t (a 11) ZsI) (u 13 .int (i (l z (a 13)) (.and (i (t (a 11) (a 7)) (n (t (a 11) (.f1 32 (r 9))) (n ZJO (n ZH1 (n ZF3 (n ZxI (n ZAK (n Zxu (n ZBW (n (.f2 155 (.bool true) (.f2 49 (e ZBb (.f3 112 (r 9) (a 11) z)) (.f2 49 (e Zyf (.f3 112 (r 9) (a 11) (k 1))) (.f2 49 (.f2 150 ZBQ (.f1 36 (.f3 112 (r 9) (a 11) (k 2)))) (.f2 49 (.f2 150 ZvM (.f1 36 (.f3 112 (r 9) (a 11) (k 3)))) (.f2 49 (.f2 48 ZxQ (.f1 2 (e (.f3 112 (r 9) (a 11) (k 4)) z))) (e ZxG (.f3 112 (r 9) (a 11) (k 5))))))))) .tt)))))))))) (i (l (a 7) (a 11)) (n ZJO (n ZH1 (n ZF3 (n ZxI (n ZAK (n Zxu (n ZBW (n (.f2 155 (.bool true) (.f2 49 (e ZBb (k (-7))) (.f2 49 (e Zyf z) (.f2 49 (.f2 150 ZBQ (.byt [])) (.f2 49 (.f2 150 ZvM (.byt [])) (.f2 49 (.f2 48 ZxQ (.bool false)) (e ZxG z))))))) .tt))))))))))))) (i (l ZsI (a 11)) .tt))))))))))))))))))))))))))
theorem ZMG : YV Tryz.prog ZLv 12 11 ZuD = ZOl := by kernel_rfl
theorem ZMO (S : Sig GG) (hS : JbSig S) : ZA S Tryz.prog 52 ZyL := by
 refine Zg S (C := ZMR) (fuel := 12) (ZU trivial trivial trivial) fun ρ => ?_
 rw [ZOd]
 simp only [ZO3, ZHO, ZA3, ZGM, ZEP, ZG3, ZHi, ZJo, ZCR, ZsP, ZzR, ZyY, ZaM, Zp4, ZzE, Zzz, ZA2, Zk0, Zr6, Zu2, ZuO, ZxL, ZyJ, Zt3, Zzd, Zru, Zl7, Zzb, Zyb, Zy7, Zp7, hS.rf.u510, VC.den, SX.den, Env.upd, ZX, ZE, beq_iff_eq, ZPQ, beq_eq_false_iff_ne, ne_eq, ZPP, ZPO, Int.reduceToNat, Nat.reduceEqDiff, reduceIte, sB, sC]
 generalize (ρ 0).tI = k
 generalize (ρ 1).tI = w
 generalize (ρ 2).tB = a
 generalize (ρ 3).tB = b
 generalize (ρ 4).toBool = c
 generalize (ρ 5).tI = d
 unfold ZbL xk xw ZY Zao Zcb xt leB ltB
 simp only [List.getD_cons_zero, List.getD_cons_succ, ZPY, Zm, Zey]
 have hw : ∀ x y : Int, (x == y) = decide (x = y) := fun x y => by rw [Bool.eq_iff_iff]; simp
 have ha : ∀ x : List UInt8, (x == x) = true := fun x => by simp
 have hc : (c == c) = true := by simp
 simp only [hw, ha, hc, Bool.true_and]
 generalize (a == []) = A
 generalize (b == []) = B
 intro _ _ _ _
 repeat' (first | exact trivial | apply And.intro | intro _)
 all_goals (try simp_all)
 all_goals (first | omega | (cases A <;> cases B <;> cases c <;> simp_all))
theorem ZMd (S : Sig GG) (hS : JbSig S) : ZA S Tryz.prog 50 ZuP := by
 refine Zg S (C := ZLt) (fuel := 12) (ZU ⟨Zi (by decide) (ZMO S hS), trivial⟩ ⟨⟨trivial, trivial⟩, trivial⟩ trivial) fun ρ => ?_
 rw [ZNG]
 simp only [ZLZ, ZIS, ZIV, Zth, ZGL, hS.rf.u510, hS.rf.u511, VC.den, SX.den, Env.upd, ZX, ZE, beq_iff_eq, ZPQ, beq_eq_false_iff_ne, ne_eq, ZPP, ZPO, Int.reduceToNat, Nat.reduceEqDiff, reduceIte, sB, sC]
 generalize (ρ 4).tR = X
 generalize (ρ 2).tI = l
 intro h1 h2 h3 h4
 refine ⟨ZC fun i hi => absurd hi (Nat.not_lt_zero _), fun x hx0 hx1 hx2 => ?_⟩
 obtain ⟨n, rfl⟩ := ZPJ hx0
 have e1 : ((n : Int) + 1).toNat = n + 1 := by omega
 simp only [e1, ZPY] at hx2 ⊢
 have hx2 := (Zj (p := ∀ i < n, ZbL (xa X i) = true)).mp hx2
 rw [may_nr']
 refine ⟨fun hlt => ⟨by omega, fun _ _ y hy => ⟨fun q => ⟨?_, trivial⟩, fun q => ⟨by omega, by omega, by omega, by omega, by omega, ZC fun i hi => ?_, trivial⟩⟩⟩, fun hge => ⟨?_, trivial⟩⟩
 ·have hf : ZjV X l.toNat = false := ZD fun h => by
   have := h n (by omega)
   have hy : y = ZbL (xa X n) := hy
   rw [<- hy, q] at this; cases this
  rw [hf, Za.2 (by omega)]; rfl
 ·rcases ZPL i n with h | h
  ·exact hx2 i h
  ·rw [show i = n by omega]
   have hy : y = ZbL (xa X n) := hy
   rw [<- hy, q]
 ·have hf : ZjV X l.toNat = true := ZC fun i hi => hx2 i (by omega)
  rw [hf]; rfl
theorem Zqi (S : Sig GG) (hS : JbSig S) : ZA S Tryz.prog 47 ZiU := by
 refine Zg S (C := ZLc) (fuel := 12) (ZU trivial trivial trivial) fun ρ => ?_
 rw [ZL4]
 simp only [ZO8, ZJI, ZHs, ZKm, ZGT, ZDM, ZKe, ZKx, ZIu, ZH2, hS.u530, VC.den, SX.den, Env.upd, ZX, ZE, beq_iff_eq, ZPQ, beq_eq_false_iff_ne, ne_eq, ZPP, ZPO, Int.reduceToNat, Nat.reduceEqDiff, reduceIte, sB, sC]
 generalize (ρ 1).tM = M
 generalize (ρ 2).tI = k
 generalize (ρ 3).tI = w
 generalize (ρ 4).tB = a
 generalize (ρ 5).tB = b
 generalize (ρ 6).toBool = c
 generalize (ρ 7).tI = d
 unfold Z3 kc ZY Zao Zcb
 simp only [List.getD_cons_zero, List.getD_cons_succ, ZPY, Zm, Zey]
 generalize Zx M (Zr a : Nat) = h
 generalize YB 0 M (Zr a : Nat) = g
 have hd : (g.tmod 2 == 0) = decide (g.tmod 2 = 0) := by rw [Bool.eq_iff_iff]; simp
 rw [hd]
 generalize decide (g.tmod 2 = 0) = e
 generalize (b == Yc (g.tdiv 2).toNat) = f
 intro _ _ _ _ _
 cases h <;> cases c <;> cases e <;> cases f <;> simp
theorem Zyx (S : Sig GG) (hS : JbSig S) : ZA S Tryz.prog 26 ZmM := by
 refine Zg S (C := ZLO) (fuel := 12) (ZU trivial ⟨⟨⟨by decide, ZLS S hS⟩, trivial, trivial⟩, trivial⟩ trivial) fun ρ => ?_
 rw [ZND]
 simp only [ZPg, ZIv, ZGc, hS.u531, hS.u532, hS.u536, VC.den, SX.den, Env.upd, ZX, ZE, beq_iff_eq, ZPQ, beq_eq_false_iff_ne, ne_eq, ZPP, ZPO, Int.reduceToNat, Nat.reduceEqDiff, reduceIte, sB, sC]
 generalize (ρ 1).tM = M
 generalize (ρ 3).tM = N
 intro h1 h2 h3 _ _
 refine ⟨⟨h3, fun k hk => hk, fun k => ⟨?_, ?_⟩⟩, fun L _ R hL => ⟨fun hz => ⟨?_, trivial⟩, fun t ht _ _ => ⟨by have := Zdk ht; omega, ?_, trivial⟩⟩⟩
 ·cases Zx N k <;> simp
 ·rw [if_neg (by rintro ⟨a, b⟩; rw [a] at b; cases b)]
 ·have hz : L = [] := ZP6 (by omega)
  subst hz
  obtain ⟨_, _, hl⟩ := hL
  intro k
  obtain ⟨a, b⟩ := hl k
  have hm : Zx [] k = false := rfl
  rw [hm] at a b
  refine ⟨by rw [a]; simp, ?_⟩
  rw [b]
  by_cases q : Zx N k = true
  ·rw [if_pos ⟨q, rfl⟩, if_pos q]
  ·rw [if_neg (fun h => q h.1), if_neg q]
 ·obtain ⟨l1, l2, l3⟩ := hL
  refine ⟨Zbz l1 _, fun k hk => ?_, fun k => ?_⟩
  ·rw [ZaD l1] at hk
   exact l2 k (by simp at hk; exact hk.2)
  ·obtain ⟨a, b⟩ := l3 k
   have hN := l2 _ ht
   rw [Zqj, Zrj, ZaD l1, a]
   by_cases hk : ((Zr t : Nat) : Int) = k
   ·subst hk
    refine ⟨by rw [hN]; simp, ?_⟩
    rw [if_pos rfl, if_pos ⟨hN, by simp⟩, ZMf]
    unfold vw
    have hd : ((YB 0 N ((Zr t : Nat) : Int)).tmod 2 == 0) = decide ((YB 0 N ((Zr t : Nat) : Int)).tmod 2 = 0) := by rw [Bool.eq_iff_iff]; simp
    rw [ZPP, hd]
   ·rw [if_neg hk, b]
    simp [hk]
theorem ZK0 (S : Sig GG) (hS : JbSig S) : ZA S Tryz.prog 7 ZBK := by
 refine Zg S (C := ZMM) (fuel := 12) (ZU trivial trivial trivial) fun ρ => ?_
 rw [ZNC]
 simp only [ZOT, ZKi, ZnP, ZHQ, Zno, ZKp, ZCV, ZHb, Zvv, ZGv, ZEQ, VC.den, SX.den, Env.upd, ZX, ZE, beq_iff_eq, ZPQ, beq_eq_false_iff_ne, ne_eq, ZPP, ZPO, Int.reduceToNat, Nat.reduceEqDiff, reduceIte, sB, sC]
 generalize (ρ 4).tR = X
 generalize (ρ 2).tI = l
 intro h1 h2 h3 h4
 have m0 : ([-7, 0, ((Zr [] : Nat) : Int), ((Zr [] : Nat) : Int), 0, 0] : List Int) = ZkG := rfl
 have ht : X.take l.toNat = X := ZP3 (by omega)
 have ht2 : (X ++ [ZkG]).take (l + 1).toNat = X ++ [ZkG] := ZP3 (by rw [ZPW, ZPF]; omega)
 have ht3 : (X ++ [ZkG] ++ [ZkG]).take (l + 2).toNat = X ++ [ZkG] ++ [ZkG] := ZP3 (by rw [ZPW, ZPW, ZPF]; omega)
 simp only [m0, ht, ht2, ht3, ZPW, ZPF]
 repeat' (first | exact trivial | omega | apply And.intro | intro _)
 simp [ZkG]
theorem ZLD (S : Sig GG) (hS : JbSig S) : ZA S Tryz.prog 9 ZAx := by
 refine Zg S (C := ZLb) (fuel := 12) (ZU trivial ⟨⟨⟨by decide, ZLn S⟩, trivial, trivial⟩, trivial⟩ trivial) fun ρ => ?_
 rw [ZM8]
 simp only [ZNy, ZFd, ZHq, ZIz, ZJT, ZGQ, ZE0, Zn0, ZIo, ZwW, ZJF, Zrp, ZBx, Zrs, hS.u533, VC.den, SX.den, Env.upd, ZX, ZE, beq_iff_eq, ZPQ, beq_eq_false_iff_ne, ne_eq, ZPP, ZPO, Int.reduceToNat, Nat.reduceEqDiff, reduceIte, sB, sC]
 simp only [ZFv]
 generalize (ρ 4).tR = X
 generalize (ρ 2).tI = l
 intro h1 h2 h3 h4
 have z : ZqK X (l - l).toNat = [] := ZP6 (by rw [ZhF (by omega)]; omega)
 rw [z]
 refine ⟨by omega, by omega, by omega, by show ((0 : Nat) : Int) <= 0; omega, .inr rfl, rfl, rfl, fun x b c hx0 hx1 hx2 hx3 => ⟨fun hx => ?_, fun hx => ?_⟩⟩
 ·obtain ⟨n, rfl⟩ := ZPJ hx
  have e1 : (l - ((n : Int) + 1)).toNat = X.length - (n + 1) := by omega
  have e2 : (l - (n : Int)).toNat = X.length - n := by omega
  have hs := ZE3 (x := X) (i := n) (by omega)
  have l1 := ZhF (x := X) (n := X.length - (n + 1)) (by omega)
  have l2 := ZhF (x := X) (n := X.length - n) (by omega)
  simp only [e1, e2, ZPY, l1, l2] at hx2 hx3 ⊢
  refine ⟨by omega, fun _ _ => ⟨by omega, by omega, fun b' c' hc' hb' => ⟨by omega, by omega, by omega, by omega, by omega, by omega, hs, by omega, trivial⟩⟩⟩
 ·have e1 : (l - (x + 1)).toNat = l.toNat := by omega
  rw [e1] at hx2 hx3 ⊢
  have l2 := ZhF (x := X) (n := l.toNat) (by omega)
  rw [l2] at hx2 hx3 ⊢
  exact ⟨by omega, by omega, rfl, by omega, trivial⟩
theorem ZPs (S : Sig GG) (hS : JbSig S) : ZA S Tryz.prog 10 Zxd := by
 refine Zg S (C := ZPj) (fuel := 12) (ZU trivial ⟨⟨trivial, trivial⟩, trivial⟩ trivial) fun ρ => ?_
 rw [ZPn]
 simp only [ZNm, ZE6, Ztg, ZKs, hS.u534, VC.den, SX.den, Env.upd, ZX, ZE, beq_iff_eq, ZPQ, beq_eq_false_iff_ne, ne_eq, ZPP, ZPO, Int.reduceToNat, Nat.reduceEqDiff, reduceIte, sB, sC]
 generalize (ρ 9).tR = H
 generalize (ρ 1).tR = X
 generalize (ρ 2).tI = l
 intro h1 h2 h3 h4 h5 h6 h7 h8
 refine ⟨by simp, fun x hx0 hx1 => ?_⟩
 obtain ⟨n, rfl⟩ := ZPJ hx0
 have e1 : ((n : Int) + 1).toNat = n + 1 := by omega
 simp only [e1, ZPY]
 refine ⟨fun hlt => ⟨by omega, by omega, ?_, by omega, by omega, by omega, by omega, by omega, ?_, trivial⟩, fun hge => ⟨by rw [show l.toNat = n by omega], trivial⟩⟩
 ·simp only [ZPW, ZP1, ZPT, ZP5]; omega
 ·rw [ZFv]
  have hnl : n < H.length := by omega
  have hnx : n < X.length := by omega
  have e2 : H.take (n + 1) = H.take n ++ [H.getD n []] := by
   rw [ZPR, ZPU hnl, ZPM]
   exact (List.take_append_getElem hnl).symm
  have e3 : X.drop n = X[n] :: X.drop (n + 1) := List.drop_eq_getElem_cons hnx
  rw [e2, e3, ZP7, ZQf]
  rw [List.set_append_right _ _ (by simp; omega)]
  simp only [ZP1, ZPT]
  rw [show n - min n H.length = 0 by omega]
  rfl
theorem ZLI (S : Sig GG) (hS : JbSig S) : ZA S Tryz.prog 11 ZuD := by
 refine Zg S (C := ZLv) (fuel := 12) (ZU trivial ⟨⟨trivial, trivial⟩, trivial⟩ trivial) fun ρ => ?_
 rw [ZMG]
 simp only [ZOl, Zfx, ZIA, ZKy, ZDH, ZsI, ZJO, Zsx, ZH1, ZHG, ZF3, ZxI, ZAK, Zxu, ZBW, ZBb, Zyf, ZBQ, ZvM, ZxQ, ZxG, hS.u535, VC.den, SX.den, Env.upd, ZX, ZE, beq_iff_eq, ZPQ, beq_eq_false_iff_ne, ne_eq, ZPP, ZPO, Int.reduceToNat, Nat.reduceEqDiff, reduceIte, sB, sC]
 generalize (ρ 9).tR = H
 generalize (ρ 1).tR = X
 generalize (ρ 2).tI = l
 generalize (ρ 7).tI = m
 intro h1 h2 h3 h4 h5 h6 h7 h8 h9 h10
 subst h4
 refine ⟨trivial, fun _ => ⟨by omega, by omega, by omega, by omega, by omega, trivial, fun i _ _ => rfl, fun x Y hx0 hx1 hY hE => ⟨fun hlt _ _ => ?_, fun _ => trivial⟩⟩⟩
 obtain ⟨n, rfl⟩ := ZPJ hx0
 simp only [ZPY]
 have hset : ∀ r : Ent, ∀ i : Nat, (n : Int) + 1 <= i -> (i : Int) < l + 3 -> eqE (xa (Y.set n r) i) (xa X i) := fun r i hi1 hi2 => by
  rw [ZBl (by omega)]; exact hE i (by omega) hi2
 have hn := hE n (by omega) (by omega)
 refine ⟨fun hl => ⟨by omega, by omega, by omega, by omega, by omega, by omega, by omega, fun i hi1 hi2 => hset _ i hi1 hi2, Zq1 (hn.trans (h5 n (by omega) hl)), trivial⟩, fun hl => ⟨by omega, by omega, by omega, by omega, by omega, by omega, fun i hi1 hi2 => hset _ i hi1 hi2, ?_, trivial⟩⟩
 have hq := hn.trans (h6 n hl (by omega))
 have hm : xa (H ++ [[-7, 0, 0, 0, 0, 0], [-7, 0, 0, 0, 0, 0], [-7, 0, 0, 0, 0, 0]]) n = ZkG := by
  unfold xa
  rw [ZPR, ZQa (by omega)]
  have : n - H.length = 0 \/ n - H.length = 1 \/ n - H.length = 2 := by omega
  rcases this with e | e | e <;> rw [e] <;> rfl
 rw [hm] at hq
 exact Zq1 hq
structure Bk where
 txs : List Tx
 kept : List Nat
 out : List Ent
 fal : List Nat
 fault : Int
 what : Int
def bk0 : Bk := ⟨[], [], [], [], -1, 0⟩
def ixL (w : Int) : List Tx -> Nat
 | [] => 0
 | t :: l => bif t.who == w then 0 else ixL w l + 1
def rdT (t : Tx) (i : Int) (x : Ent) : Tx := if Zx t.ch (kc x) = true then (if Z3 t.ch x = true then t else { t with bad := t.bad ++ [i] }) else { t with rds := t.rds ++ [i :: nr x] }
def Bk.flt (B : Bk) (i w : Int) : Bk := { B with fault := i, what := w }
def Zm4 : List Tx -> Nat -> List Nat
 | [], _ => []
 | t :: l, n => bif t.opn then n :: Zm4 l (n + 1) else Zm4 l (n + 1)
def Zag (B : Bk) (i : Int) (x : Ent) : Bk :=
 let j := ixL (xw x) B.txs
 let t := B.txs.getD j tx0
 let op := decide (j < B.txs.length) && t.opn
 if xk x = 1 then (if j < B.txs.length then B.flt i 1 else { B with txs := B.txs ++ [⟨xw x, i, -1, true, [], [], []⟩], fal := [] })
 else if xk x = 2 then (if xw x = 0 then { B with out := B.out ++ [i :: nr x], fal := [] } else if op = true then { B with txs := B.txs.set j (rdT t i x), fal := [] } else B.flt i 1)
 else if xk x = 3 \/ xk x = 4 then (if op = true then { B with txs := B.txs.set j { t with ch := Yw t.ch (kc x) ((Zr (Zao x) : Nat) * 2 + b01 (xk x == 4)) } } else B.flt i 1)
 else if xk x = 6 then (if op = true then { B with txs := B.txs.set j { t with opn := false } } else B.flt i 1)
 else if xk x = 5 then (if (op = false /\ ¬ j ∈ B.fal) \/ 0 <= t.com then B.flt i 1 else if ¬ xt x = B.kept.length + 1 then B.flt i 2 else { B with txs := B.txs.set j { t with opn := false, com := i }, kept := B.kept ++ [j] })
 else if xk x = 7 then { B with txs := B.txs.map fun t => { t with opn := false }, fal := Zm4 B.txs 0 }
 else B
def Z7 (h : List Ent) : Nat -> Bk
 | 0 => bk0
 | n + 1 => if 0 <= (Z7 h n).fault then Z7 h n else Zag (Z7 h n) n (xa h n)
/-! ### In memory -/
def g3 (r : List Int) : Int := r.getD 3 0
def g4 (r : List Int) : Int := r.getD 4 0
def g5 (r : List Int) : Int := r.getD 5 0
def rE : En := .rows (.int .i64 :: hF)
def mapV (b : Int) : Value := .map (if b < 0 then none else some b.toNat)
def ZFM (b : Int) (who beg com : Int) (opn : Bool) (mb rb rl rc bb bl bc : Int) : HProp := fun h => (0 <= b \/ False) /\ row b.toNat 0 [.int .i64 who, .int .i64 beg, .int .i64 com, .bool opn, mapV mb, slV rb rl rc, slV bb bl bc] true h
def ZvG (b : Int) (m : List (Int × Int)) : HProp := fun h => 0 <= b /\ ∃ es clock, Zfu .str .sb es clock m /\ ZeD b.toNat (.map es clock) h
def Zc6 (r : List Int) (t : Tx) : HProp := Zd (ZFM (g0 r) t.who t.beg t.com t.opn (g1 r) (g2 r) (t.rds.length : Nat) (g3 r) (g4 r) (t.bad.length : Nat) (g5 r)) (Zd (ZvG (g1 r) t.ch) (Zd (rAD rE (g2 r) t.rds (g3 r)) (iAD (g4 r) t.bad (g5 r))))
def Zeq : List (List Int) -> List Tx -> HProp
 | [], [] => emp
 | r :: rs, t :: ts => Zd (Zc6 r t) (Zeq rs ts)
 | _, _ => fun _ => False
def ZNN (i : Int) (R : List (List Int)) (L : List Tx) : HProp := Zd (Zeq (R.take i.toNat) (L.take i.toNat)) (Zeq (R.drop (i.toNat + 1)) (L.drop (i.toNat + 1)))
def ZCC (R : List (List Int)) (i : Int) (r : List Int) : List (List Int) := R.take i.toNat ++ r :: R.drop (i.toNat + 1)
def setT (L : List Tx) (i : Int) (t : Tx) : List Tx := L.take i.toNat ++ t :: L.drop (i.toNat + 1)
def plOk (R : List (List Int)) (L : List Tx) : Prop := R.length = L.length /\ (R.map g0).Nodup /\ ∀ r ∈ R, 0 <= g0 r
def ZeQ (R : List (List Int)) (L : List Tx) : List (Int × Int) := (L.zip R).map fun p => (p.1.who, g0 p.2)
def Zbk (R : List (List Int)) (ks : List Nat) : List (List Int) := ks.map fun k => [g0 (R.getD k [])]
def Zs6 (t : Tx) (m : List (Int × Int)) (p : List Int) : Tx := { t with ch := m, com := p.getD 0 0, opn := p.getD 1 0 == 1 }
def ZAB (t : Tx) (r : List Ent) (b : List Int) : Tx := { t with rds := r, bad := b }
def Zc2 (l : Int) : List (List Int) -> Nat
 | [] => 0
 | r :: R => bif g0 r == l then 0 else Zc2 l R + 1
def Zo7 (R : List (List Int)) (b : Int) : Prop := ∃ k, k < R.length /\ b = g0 (R.getD k [])
def ZhR (R : List (List Int)) (L : List Tx) (i : Nat) : HProp := ZFM (g0 (R.getD i [])) (L.getD i tx0).who (L.getD i tx0).beg (L.getD i tx0).com (L.getD i tx0).opn (g1 (R.getD i [])) (g2 (R.getD i [])) ((L.getD i tx0).rds.length : Nat) (g3 (R.getD i [])) (g4 (R.getD i [])) ((L.getD i tx0).bad.length : Nat) (g5 (R.getD i []))
def ZKO (v y : Int) (R : List (List Int)) (L : List Tx) : HProp := fun h => ∀ h', Hl.Disj h h' -> Zd (ZhR R L (Zc2 v R)) (ZhR R L (Zc2 y R)) h' -> Zeq R L (Hl.un h h')
def atT (L : List Tx) (i : Int) : Tx := L.getD i.toNat tx0
def Zcf (L : List Tx) (left : List (Int × Int)) : List Tx := L.map fun t => if Zx left t.who = true then t else { t with opn := false }
def Zcc (left : List (Int × Int)) : List Tx -> Nat -> List Nat
 | [], _ => []
 | t :: l, n => if t.opn = true /\ Zx left t.who = false then n :: Zcc left l (n + 1) else Zcc left l (n + 1)
def ZMq (b : Int) (m : List (Int × Int)) : HProp := fun h => 0 <= b /\ ∃ es clock, Zfu (.int .i64) (.one .ptr) es clock m /\ ZeD b.toNat (.map es clock) h
def celB (b ma kb kl kc ob ol oc ft wt : Int) : HProp := fun h => (0 <= b \/ False) /\ row b.toNat 0 [mapV ma, slV kb kl kc, slV ob ol oc, .int .i64 ft, .int .i64 wt] true h
def bookB (b : Int) (B : Bk) : HProp := fun h => ∃ (ma kb kc ob oc : Int) (R : List (List Int)), Zd (celB b ma kb (B.kept.length : Nat) kc ob (B.out.length : Nat) oc B.fault B.what)
 (Zd (ZMq ma (ZeQ R B.txs)) (Zd (rAD (.rows [.ptr]) kb (Zbk R B.kept) kc) (Zd (rAD rE ob B.out oc) (Zeq R B.txs)))) h
def ZsX (b : Int) (x : List Ent) : HProp := if b < 0 then emp else bookB b (Z7 x x.length)
structure JtSig (S : Sig GG) : Prop where
 jb : JbSig S
 p100 : ∀ w0 k x, S.prd 100 w0 k x = Zeq k.tR (ZO x)
 p101 : ∀ w0 k x, S.prd 101 w0 k x = ZNN (g0 (k.tR.getD 0 [])) (k.tR.drop 1) (ZO x)
 p103 : ∀ w0 k x, S.prd 103 w0 k x = ZsX (g0 (k.tR.getD 0 [])) (k.tR.drop 1)
 u568 : ∀ a b c d, S.usr 568 a b c d = .g (.tx (Zcf (ZO a) b.tM))
 u571 : ∀ a b c d, S.usr 571 a b c d = .bool (Zn ((a.tM.map (·.1)).Nodup /\ ∀ k, Zx a.tM k = true -> Zx b.tM k = true))
 u569 : ∀ a b c d, S.usr 569 a b c d = .bool (Zn (a.tR.map g0 = b.tR.map g0))
 u570 : ∀ a b c d, S.usr 570 a b c d = .bool (Zn (d.tR.Perm (Zbk c.tR (Zcc b.tM (ZO a) 0))))
 p102 : ∀ w0 k x, S.prd 102 w0 k x = ZKO (g0 (k.tR.getD 0 [])) (g1 (k.tR.getD 0 [])) (k.tR.drop 1) (ZO x)
 u565 : ∀ a b c d, S.usr 565 a b c d = .bool (Zn (Zo7 a.tR b.tI))
 u566 : ∀ a b c d, S.usr 566 a b c d = .int (Zc2 b.tI a.tR : Nat)
 u540 : ∀ a b c d, S.usr 540 a b c d = .int (atT (ZO a) b.tI).who
 u541 : ∀ a b c d, S.usr 541 a b c d = .int (atT (ZO a) b.tI).beg
 u542 : ∀ a b c d, S.usr 542 a b c d = .int (atT (ZO a) b.tI).com
 u543 : ∀ a b c d, S.usr 543 a b c d = .bool (atT (ZO a) b.tI).opn
 u544 : ∀ a b c d, S.usr 544 a b c d = .amap (atT (ZO a) b.tI).ch
 u545 : ∀ a b c d, S.usr 545 a b c d = .rows (atT (ZO a) b.tI).rds
 u546 : ∀ a b c d, S.usr 546 a b c d = .ints (atT (ZO a) b.tI).bad
 u547 : ∀ a b c d, S.usr 547 a b c d = .amap (ZeQ a.tR (ZO b))
 u548 : ∀ a b c d, S.usr 548 a b c d = .rows (Zbk c.tR (Z7 a.tR b.tI.toNat).kept)
 u549 : ∀ a b c d, S.usr 549 a b c d = .rows (Z7 a.tR b.tI.toNat).out
 u550 : ∀ a b c d, S.usr 550 a b c d = .int (Z7 a.tR b.tI.toNat).fault
 u551 : ∀ a b c d, S.usr 551 a b c d = .int (Z7 a.tR b.tI.toNat).what
 u552 : ∀ a b c d, S.usr 552 a b c d = .int ((ZO a).length : Nat)
 u553 : ∀ a b c d, S.usr 553 a b c d = .int (ixL b.tI (ZO a) : Nat)
 u554 : ∀ a b c d, S.usr 554 a b c d = .rows (ZCC a.tR b.tI c.tN)
 u555 : ∀ a b c d, S.usr 555 a b c d = .g (.tx (setT (ZO a) b.tI (Zs6 (atT (ZO a) b.tI) c.tM d.tN)))
 u556 : ∀ a b c d, S.usr 556 a b c d = .g (.tx (setT (ZO a) b.tI (ZAB (atT (ZO a) b.tI) c.tR d.tN)))
 u557 : ∀ a b c d, S.usr 557 a b c d = .g (.tx (ZO a ++ [⟨b.tI, c.tI, -1, true, [], [], []⟩]))
 u558 : ∀ a b c d, S.usr 558 a b c d = .bool (Zn (plOk a.tR (ZO b)))
 u559 : ∀ a b c d, S.usr 559 a b c d = .bool (Zn (d.tR.Perm (Zbk c.tR (Z7 a.tR b.tI.toNat).fal)))
 u560 : ∀ a b c d, S.usr 560 a b c d = .bool (Zn (∀ r ∈ a.tR, ∃ b', r = [b'] /\ Zo7 b.tR b'))
 u561 : ∀ a b c d, S.usr 561 a b c d = .g (.tx (Z7 a.tR b.tI.toNat).txs)
 u562 : ∀ a b c d, S.usr 562 a b c d = .bool (Zn ([b.tI] ∈ a.tR))
 u563 : ∀ a b c d, S.usr 563 a b c d = .rows (if Zx a.tM (kc b.tN) = true then c.tR else c.tR ++ [d.tI :: nr b.tN])
 u564 : ∀ a b c d, S.usr 564 a b c d = .ints (if Zx a.tM (kc b.tN) = true /\ Z3 a.tM b.tN = false then c.tN ++ [d.tI] else c.tN)
theorem JtSig.of {S T : Sig GG} (h : JtSig S) (hu : T.usr = S.usr) (hp : T.prd = S.prd) : JtSig T := by
 constructor
 ·exact h.jb.of hu
 all_goals first | (rw [hp]; first | exact h.p100 | exact h.p101 | exact h.p102 | exact h.p103) | (rw [hu]; first | exact h.u568 | exact h.u569 | exact h.u570 | exact h.u571 | exact h.u565 | exact h.u566 | exact h.u540 | exact h.u541 | exact h.u542 | exact h.u543 | exact h.u544 | exact h.u545 | exact h.u546 | exact h.u547 | exact h.u548 | exact h.u549 | exact h.u550 | exact h.u551 | exact h.u552 | exact h.u553 | exact h.u554 | exact h.u555 | exact h.u556 | exact h.u557 | exact h.u558 | exact h.u559 | exact h.u560 | exact h.u561 | exact h.u562 | exact h.u563 | exact h.u564)
def txC (R g : SX) : Ch := .prd 100 R g
def txO (i R g : SX) : Ch := .prd 101 (Zu (ZoV i) R) g
def usM (k : Nat) (a b : SX) : SX := .us .amap k a b z0 z0
def rAr (b x c : SX) : Ch := .arr rE b x c
def ZDg (who beg com : SX) (opn : SX) (mb rb rl rc bb bl bc : SX) : List SC := [.int .i64 who, .int .i64 beg, .int .i64 com, .bool opn, .map mb, slC rb rl rc 7, sl1 bb bl bc]
def txQ (R g i : SX) : List SC := ZDg (usI 540 g i z0) (usI 541 g i z0) (usI 542 g i z0) (usB 543 g i z0) (nt R i 1) (nt R i 2) (Zh (usR 545 g i z0)) (nt R i 3) (nt R i 4) (Zcs (usN 546 g i z0)) (nt R i 5)
def txP (b R g i : SX) : List Ch := [.cel b 0 (txQ R g i), scC (nt R i 1) (usM 544 g i), rAr (nt R i 2) (usR 545 g i z0) (nt R i 3), iAr (nt R i 4) (usN 546 g i z0) (nt R i 5)]
def ixW (g w : SX) : SX := usI 553 g w z0
def ZPd (R g i : SX) : List SX := [eLe (Zh (usR 545 g i z0)) (nt R i 3), eLe (Zcs (usN 546 g i z0)) (nt R i 5), .f2 50 (eLe z0 (nt R i 2)) (.f2 45 (Zh (usR 545 g i z0)) z0), .f2 50 (eLe z0 (nt R i 4)) (.f2 45 (Zcs (usN 546 g i z0)) z0), eLe z0 (nt R i 1), eLe z0 (nt R i 0), .f2 45 (Zh R) (usI 552 g z0 z0)]
def ZDa : Ctr := ⟨[.int, .int, .rows, .g], [.one (.ptr (ai 0) 0), .one (.int .i64 (ai 1))], [txC (rA 2) (gA 3)], [eLt (ixW (gA 3) (ai 1)) (usI 552 (gA 3) z0 z0), .f2 45 (ai 0) (nt (rA 2) (ixW (gA 3) (ai 1)) 0)], [], .tup [],
 txP (ai 0) (rA 2) (gA 3) (ixW (gA 3) (ai 1)) ++ [txO (ixW (gA 3) (ai 1)) (rA 2) (gA 3)], ZPd (rA 2) (gA 3) (ixW (gA 3) (ai 1))⟩
def ZkN : Ctr := ⟨[.int, .int, .rows, .g], [.one (.ptr (ai 0) 0)], txO (ai 1) (rA 2) (gA 3) :: txP (ai 0) (rA 2) (gA 3) (ai 1), [.f2 45 (Zh (rA 2)) (usI 552 (gA 3) z0 z0), eLe z0 (ai 1), eLt (ai 1) (usI 552 (gA 3) z0 z0), .f2 45 (ai 0) (nt (rA 2) (ai 1) 0)], [], .tup [], [txC (rA 2) (gA 3)], []⟩
def ZnY : Ctr := ⟨[.int, .int, .rows, .g, .int, .int, .int, .bool, .int, .int, .int, .int, .int, .amap, .rows, .ints, .int, .int], [.one (.ptr (ai 0) 0)],
 [txO (ai 1) (rA 2) (gA 3), .cel (ai 0) 0 (ZDg (ai 4) (ai 5) (ai 6) (qA 7) (ai 8) (ai 9) (ai 16) (ai 10) (ai 11) (ai 17) (ai 12)), scC (ai 8) (mA 13), rAr (ai 9) (rA 14) (ai 10), iAr (ai 11) (iA 15) (ai 12)],
 [.f2 45 (Zh (rA 2)) (usI 552 (gA 3) z0 z0), eLe z0 (ai 1), eLt (ai 1) (usI 552 (gA 3) z0 z0), .f2 45 (ai 4) (usI 540 (gA 3) (ai 1) z0), .f2 45 (ai 5) (usI 541 (gA 3) (ai 1) z0), .f2 45 (ai 16) (Zh (rA 14)), .f2 45 (ai 17) (Zcs (iA 15))], [], .tup [],
 [txC (usR 554 (rA 2) (ai 1) (Zbm (ai 0) (ai 8) (ai 9) (ai 10) (ai 11) (ai 12))) (.us .g 556 (.us .g 555 (gA 3) (ai 1) (mA 13) (ZN (ai 6) (.f1 3 (qA 7)))) (ai 1) (rA 14) (iA 15))], []⟩
def adTC : Ctr := ⟨[.int, .rows, .g, .int, .int, .int], [.one (.ptr (ai 0) 0)],
 [.cel (ai 0) 0 [.int .i64 (ai 3), .int .i64 (ai 4), .int .i64 (.int (-1)), .bool (.bool true), .map (ai 5), slC (.int (-1)) z0 z0 1, sl1 (.int (-1)) z0 z0], scC (ai 5) (.f1 155 z0), txC (rA 1) (gA 2)], [], [], .tup [],
 [txC (.f2 121 (rA 1) (Zu (Zbm (ai 0) (ai 5) (.int (-1)) z0 (.int (-1)) z0) Zbn)) (usG 557 (gA 2) (ai 3) (ai 4))], []⟩
def pE : En := .rows [.ptr]
def ixB (R b : SX) : SX := usI 566 R b z0
def twC (v y R g : SX) : Ch := .prd 102 (Zu (ZN v y) R) g
def ZD4 : Ctr := ⟨[.int, .int, .int, .int, .int, .rows, .int, .rows, .g], [.one (slC (ai 0) (ai 1) (ai 2) 1), .one (.int .i64 (ai 3)), .one (.ptr (ai 4) 0)], [.arr pE (ai 0) (rA 5) (ai 6), txC (rA 7) (gA 8)],
 [usB 565 (rA 7) (ai 4) z0, usB 565 (rA 7) (nt (rA 5) (ai 3) 0) z0, .f1 2 (.f2 45 (ai 4) (nt (rA 5) (ai 3) 0))], [], .tup [],
 [.arr pE (ai 0) (rA 5) (ai 6), .cel (ai 4) 0 (txQ (rA 7) (gA 8) (ixB (rA 7) (ai 4))), .cel (nt (rA 5) (ai 3) 0) 0 (txQ (rA 7) (gA 8) (ixB (rA 7) (nt (rA 5) (ai 3) 0))), twC (ai 4) (nt (rA 5) (ai 3) 0) (rA 7) (gA 8)], []⟩
def ZDy : Ctr := ⟨[.int, .int, .rows, .g], [.one (.ptr (ai 0) 0)], [twC (ai 0) (ai 1) (rA 2) (gA 3), .cel (ai 0) 0 (txQ (rA 2) (gA 3) (ixB (rA 2) (ai 0))), .cel (ai 1) 0 (txQ (rA 2) (gA 3) (ixB (rA 2) (ai 1)))],
 [usB 565 (rA 2) (ai 0) z0, usB 565 (rA 2) (ai 1) z0], [], .tup [], [txC (rA 2) (gA 3)], []⟩
def ZM6 : Ctr := ⟨[.rows, .g], [], [txC (rA 0) (gA 1)], [], [], .tup [], [txC (rA 0) (gA 1)], [usB 558 (rA 0) (gA 1) z0]⟩
def ZrY : Ctr := ⟨[.int, .rows, .g], [.one (.ptr (ai 0) 0)], [txC (rA 1) (gA 2)], [usB 565 (rA 1) (ai 0) z0], [], .tup [],
 txP (ai 0) (rA 1) (gA 2) (ixB (rA 1) (ai 0)) ++ [txO (ixB (rA 1) (ai 0)) (rA 1) (gA 2)], .f2 45 (ai 0) (nt (rA 1) (ixB (rA 1) (ai 0)) 0) :: eLt (ixB (rA 1) (ai 0)) (usI 552 (gA 2) z0 z0) :: ZPd (rA 1) (gA 2) (ixB (rA 1) (ai 0))⟩
def pAr (b x c : SX) : Ch := .arr pE b x c
def ZFD : Ctr := ⟨[], [], [], [], [], .tup [], [pAr (.int (-1)) Zbn z0], []⟩
def ZK8 : Ctr := ⟨[], [], [], [], [], .tup [], [rAr (.int (-1)) Zbn z0], []⟩
def bkC (b x : SX) : Ch := .prd 103 (Zu (ZoV b) x) z0
def imC (b m : SX) : Ch := .map (.int .i64) (.one .ptr) b m
def bkQ (ma kb kl kc ob ol oc ft wt : SX) : List SC := [.map ma, slC kb kl kc 1, slC ob ol oc 7, .int .i64 ft, .int .i64 wt]
def xX : SX := tk (rA 4) (ai 2)
def ZKY : Ctr := ⟨hA ++ [.int], [.one (hS 0), .one (.ptr (ai 6) 0)], [hC 0 0], [eLt (ai 6) z0], [], .tup [], [hC 0 0, bkC (ai 6) xX], []⟩
def Ztn : Ctr := ⟨hA ++ [.int, .int, .int, .int, .int, .int, .int, .int, .int, .int, .rows, .g, .amap, .rows, .rows], [.one (hS 0), .one (.ptr (ai 6) 0)],
 [hC 0 0, .cel (ai 6) 0 (bkQ (ai 7) (ai 8) (ai 9) (ai 10) (ai 11) (ai 12) (ai 13) (ai 14) (ai 15)), imC (ai 7) (mA 18), pAr (ai 8) (rA 19) (ai 10), rAr (ai 11) (rA 20) (ai 13), txC (rA 16) (gA 17)],
 [eLe z0 (ai 6), eqS (gA 17) (usG 561 xX (Zh xX) z0), eqS (mA 18) (.us .amap 547 (rA 16) (gA 17) z0 z0), eqS (rA 19) (usR 548 xX (Zh xX) (rA 16)), eqS (rA 20) (usR 549 xX (Zh xX) z0), .f2 45 (ai 9) (Zh (rA 19)), .f2 45 (ai 12) (Zh (rA 20)),
  .f2 45 (ai 14) (usI 550 xX (Zh xX) z0), .f2 45 (ai 15) (usI 551 xX (Zh xX) z0)], [], .tup [], [hC 0 0, bkC (ai 6) xX], []⟩
def emTC : Ctr := ⟨[], [], [], [], [], .tup [], [txC Zbn (usG 561 Zbn z0 z0)], []⟩
theorem Za7 : ∀ {k : List (List Int)} {q : List Tx} {h : Hl}, Zeq k q h -> k.length = q.length
 | [], [], _, _ => rfl
 | r :: k, p :: q, h, hx => by
  obtain ⟨a, b, _, _, _, hb⟩ := hx
  rw [ZQb, ZQb, Za7 hb]
 | [], _ :: _, _, hx => hx.elim
 | _ :: _, [], _, hx => hx.elim
theorem ZdL : ∀ {a : List (List Int)} {c : List Tx} (b : List (List Int)) (d : List Tx), a.length = c.length -> Zeq (a ++ b) (c ++ d) = Zd (Zeq a c) (Zeq b d)
 | [], [], b, d, _ => by rw [List.nil_append, List.nil_append]; show _ = Zd emp _; rw [emp_star]
 | r :: a, p :: c, b, d, h => by
  rw [List.cons_append, List.cons_append]
  show Zd _ (Zeq (a ++ b) (c ++ d)) = Zd (Zd _ (Zeq a c)) (Zeq b d)
  rw [ZdL b d (by simpa using h), star_assoc]
 | [], _ :: _, _, _, h => by simp at h
 | _ :: _, [], _, _, h => by simp at h
theorem ZqP (r : List Int) (p : Tx) : Zeq [r] [p] = Zc6 r p := by
 show Zd _ emp = _
 rw [Zc]
theorem ZrM {R : List (List Int)} {L : List Tx} {i : Int} (hl : R.length = L.length) (h0 : 0 <= i) (hi : i < R.length) (r : List Int) (t : Tx) :
  Zeq (ZCC R i r) (setT L i t) = Zd (ZNN i R L) (Zc6 r t) := by
 unfold ZCC setT ZNN
 rw [<- List.singleton_append, <- List.singleton_append (l := L.drop _), ZdL _ _ (by rw [ZPT, ZPT]; omega), ZdL _ _ (show [r].length = [t].length from rfl), ZqP, star_assoc, Zy (Zc6 _ _)]
theorem Zrg {α : Type} {R : List α} {d : α} {i : Nat} (hi : i < R.length) : R.take i ++ R.getD i d :: R.drop (i + 1) = R := by
 have := ZbX (d := d) hi
 rw [List.singleton_append] at this
 exact this.symm
theorem ZhD {R : List (List Int)} {L : List Tx} {i : Int} (hl : R.length = L.length) (h0 : 0 <= i) (hi : i < R.length) : Zeq R L = Zd (ZNN i R L) (Zc6 (R.getD i.toNat []) (atT L i)) := by
 rw [<- ZrM hl h0 hi]
 unfold ZCC setT atT
 rw [Zrg (by omega), Zrg (by omega)]
theorem ZdZ (T : Sig GG) (ρ : Go.Eng.Env GG) (w0 : World) (b who beg com opn mb rb rl rc bb bl bc : SX) : (Ch.cel b 0 (ZDg who beg com opn mb rb rl rc bb bl bc)).den T ρ w0 =
  ZFM (b.den T ρ).tI (who.den T ρ).tI (beg.den T ρ).tI (com.den T ρ).tI (opn.den T ρ).toBool (mb.den T ρ).tI (rb.den T ρ).tI (rl.den T ρ).tI (rc.den T ρ).tI (bb.den T ρ).tI (bl.den T ρ).tI (bc.den T ρ).tI := by
 simp only [ZDg, Ch.den, ZP0, List.map_nil, sl1, ZcQ, SC.den, reduceCtorEq]
 rfl
theorem Znn (T : Sig GG) (ρ : Go.Eng.Env GG) (w0 : World) (b m : SX) : (scC b m).den T ρ w0 = ZvG (b.den T ρ).tI (m.den T ρ).tM := rfl
theorem ZjX (T : Sig GG) (ρ : Go.Eng.Env GG) (w0 : World) (b x c : SX) : (rAr b x c).den T ρ w0 = rAD rE (b.den T ρ).tI (x.den T ρ).tR (c.den T ρ).tI := rfl
theorem Zyv (T : Sig GG) (ρ : Go.Eng.Env GG) (w0 : World) (b x c : SX) : (iAr b x c).den T ρ w0 = iAD (b.den T ρ).tI (x.den T ρ).tN (c.den T ρ).tI := rfl
theorem Zhj (T : Sig GG) (ρ : Go.Eng.Env GG) (R i : SX) (k : Nat) : (nt R i k).den T ρ = .int (((R.den T ρ).tR.getD (i.den T ρ).tI.toNat []).getD k 0) := by
 show (ap3 112 (R.den T ρ) (i.den T ρ) (U.int (k : Int))) = _
 rw [ZaO]; rfl
theorem ZxO {T : Sig GG} (hT : JtSig T) (ρ : Go.Eng.Env GG) (w0 : World) (b R g i : SX) (hb : (b.den T ρ).tI = g0 ((R.den T ρ).tR.getD (i.den T ρ).tI.toNat [])) :
  hpDen T ρ w0 (txP b R g i) = Zc6 ((R.den T ρ).tR.getD (i.den T ρ).tI.toNat []) (atT (ZO (g.den T ρ)) (i.den T ρ).tI) := by
 have e : hpDen T ρ w0 (txP b R g i) = Zd ((Ch.cel b 0 (txQ R g i)).den T ρ w0) (Zd ((scC (nt R i 1) (usM 544 g i)).den T ρ w0) (Zd ((rAr (nt R i 2) (usR 545 g i z0) (nt R i 3)).den T ρ w0) (Zd ((iAr (nt R i 4) (usN 546 g i z0) (nt R i 5)).den T ρ w0) emp))) := rfl
 rw [e, Zc, txQ, ZdZ, Znn, ZjX, Zyv]
 simp only [Zhj, usI, usB, usR, usN, usM, Zh, Zcs, SX.den, hT.u540, hT.u541, hT.u542, hT.u543, hT.u544, hT.u545, hT.u546, Zp, YQ, Ze6, Zw, Zj6, Zfb, Yd, U.tIi, U.tQi, U.tMi, U.tRi, U.tNi]
 rw [hb]
 rfl
theorem Zdm {r : List Int} {t : Tx} {h : Hl} (hi : Zc6 r t h) : ((t.rds.length : Nat) : Int) <= g3 r /\ ((t.bad.length : Nat) : Int) <= g5 r /\ (0 <= g2 r \/ ((t.rds.length : Nat) : Int) = 0) /\ (0 <= g4 r \/ ((t.bad.length : Nat) : Int) = 0) /\ 0 <= g1 r /\ 0 <= g0 r := by
 obtain ⟨a, b, _, _, ha, hb⟩ := hi
 obtain ⟨c, d, _, _, hc, hd⟩ := hb
 obtain ⟨e, f, _, _, he, hf⟩ := hd
 have h1 := ZlC (by decide) he
 have h2 := ZOJ hf
 refine ⟨h1, h2, ?_, ?_, hc.1, by simpa using ha.1⟩
 ·obtain ⟨_, _, _, q, _⟩ := he
  rcases q with q | q
  ·exact .inl q
  ·exact .inr (by have : g3 r = 0 := q; omega)
 ·obtain ⟨_, _, _, q, _⟩ := hf
  rcases q with q | q
  ·exact .inl q
  ·exact .inr (by have : g5 r = 0 := q; omega)
theorem ZEi {T : Sig GG} (hT : JtSig T) (ρ : Go.Eng.Env GG) (R g i : SX) {h : Hl} (hl : (R.den T ρ).tR.length = (ZO (g.den T ρ)).length) (hi : Zc6 ((R.den T ρ).tR.getD (i.den T ρ).tI.toNat []) (atT (ZO (g.den T ρ)) (i.den T ρ).tI) h) : ∀ e ∈ ZPd R g i, (e.den T ρ).tP := by
 obtain ⟨f1, f2, f3, f4, f5, f6⟩ := Zdm hi
 have w1 : ((Zh (usR 545 g i z0)).den T ρ).tI = ((atT (ZO (g.den T ρ)) (i.den T ρ).tI).rds.length : Nat) := by
  simp only [Zh, usR, SX.den, hT.u545, Zw, Yd, U.tIi, U.tRi]
 have w2 : ((Zcs (usN 546 g i z0)).den T ρ).tI = ((atT (ZO (g.den T ρ)) (i.den T ρ).tI).bad.length : Nat) := by
  simp only [Zcs, usN, SX.den, hT.u546, Zj6, Zfb, U.tIi, U.tNi]
 have n0 : ∀ k, ((nt R i k).den T ρ).tI = (((R.den T ρ).tR.getD (i.den T ρ).tI.toNat []).getD k 0) := fun k => by rw [Zhj]; rfl
 have z : (z0.den T ρ).tI = 0 := rfl
 intro e he
 simp only [ZPd, List.mem_cons, List.not_mem_nil, or_false] at he
 rcases he with rfl | rfl | rfl | rfl | rfl | rfl | rfl
 ·rw [Ze, w1, n0]; exact f1
 ·rw [Ze, w2, n0]; exact f2
 ·simp only [SX.den, p50]
  rcases f3 with q | q
  ·left; show ((eLe z0 (nt R i 2)).den T ρ).tP; rw [Ze, n0, z]; exact q
  ·right; show (ap2 45 ((Zh (usR 545 g i z0)).den T ρ) (z0.den T ρ)).tP; rw [p45, w1, z]; exact q
 ·simp only [SX.den, p50]
  rcases f4 with q | q
  ·left; show ((eLe z0 (nt R i 4)).den T ρ).tP; rw [Ze, n0, z]; exact q
  ·right; show (ap2 45 ((Zcs (usN 546 g i z0)).den T ρ) (z0.den T ρ)).tP; rw [p45, w2, z]; exact q
 ·rw [Ze, n0, z]; exact f5
 ·rw [Ze, n0, z]; exact f6
 ·simp only [Zh, usI, SX.den, hT.u552, p45, Yd, U.tIi, Zp]; rw [hl]
theorem ZxA {T : Sig GG} (hT : JtSig T) (ρ : Go.Eng.Env GG) (w0 : World) (b R g i : SX) {h : Hl} (h0 : 0 <= (i.den T ρ).tI) (h1 : (i.den T ρ).tI < ((ZO (g.den T ρ)).length : Nat))
  (hb : (b.den T ρ).tI = ((nt R i 0).den T ρ).tI) (hp : Zeq (R.den T ρ).tR (ZO (g.den T ρ)) h) : hpDen T ρ w0 (txP b R g i ++ [txO i R g]) h /\ ∀ e ∈ ZPd R g i, (e.den T ρ).tP := by
 have hl := Za7 hp
 rw [ZhD hl h0 (by omega)] at hp
 rw [Zhj] at hb
 have hb : (b.den T ρ).tI = g0 ((R.den T ρ).tR.getD (i.den T ρ).tI.toNat []) := hb
 have e : hpDen T ρ w0 (txP b R g i ++ [txO i R g]) = Zd (hpDen T ρ w0 (txP b R g i)) (Zd (T.prd 101 w0 ((Zu (ZoV i) R).den T ρ) (g.den T ρ)) emp) := by
  unfold hpDen; rw [ZP7, ZcR]; rfl
 rw [e, Zc, ZxO hT ρ w0 b R g i hb, hT.p101]
 have k2 : ((Zu (ZoV i) R).den T ρ).tR = [(i.den T ρ).tI] :: (R.den T ρ).tR := rfl
 rw [k2]
 refine ⟨by rw [Zy]; exact hp, ?_⟩
 obtain ⟨_, _, _, _, _, hi⟩ := hp
 exact ZEi hT ρ R g i hl hi
theorem Zm2 (S : Sig GG) (hS : JtSig S) : YH S ZDa := by
 refine ZL S fun T w0 ρ h hu hp hd hr hpre => ⟨ρ, Ext.refl _ _, ?_⟩
 have hT := hS.of hu hp
 have e1 : hpDen T ρ w0 ZDa.pre = Zd (T.prd 100 w0 ((rA 2).den T ρ) ((gA 3).den T ρ)) emp := rfl
 rw [e1, Zc, hT.p100] at hpre
 have r1 := hr (eLt (ixW (gA 3) (ai 1)) (usI 552 (gA 3) z0 z0)) (by simp [ZDa])
 have r2 := hr (.f2 45 (ai 0) (nt (rA 2) (ixW (gA 3) (ai 1)) 0)) (by simp [ZDa])
 have hix : ((ixW (gA 3) (ai 1)).den T ρ).tI = (ixL (ρ 1).tI (ZO ((gA 3).den T ρ)) : Nat) := by
  simp only [ixW, usI, SX.den, hT.u553, Zp, U.tIi]; rfl
 rw [ZI] at r1
 have e552 : ((usI 552 (gA 3) z0 z0).den T ρ).tI = ((ZO ((gA 3).den T ρ)).length : Nat) := by
  simp only [usI, SX.den, hT.u552, Zp, U.tIi]
 rw [e552] at r1
 have r2 : (ap2 45 ((ai 0).den T ρ) ((nt (rA 2) (ixW (gA 3) (ai 1)) 0).den T ρ)).tP := r2
 rw [p45] at r2
 exact ZxA hT ρ w0 (ai 0) (rA 2) (gA 3) (ixW (gA 3) (ai 1)) (by rw [hix]; omega) r1 r2 hpre
theorem Zcw (S : Sig GG) (hS : JtSig S) : YH S ZkN := by
 refine ZL S fun T w0 ρ h hu hp hd hr hpre => ⟨ρ, Ext.refl _ _, ?_, (fun x hx => nomatch hx)⟩
 have hT := hS.of hu hp
 have e1 : hpDen T ρ w0 ZkN.pre = Zd (T.prd 101 w0 ((Zu (ZoV (ai 1)) (rA 2)).den T ρ) ((gA 3).den T ρ)) (hpDen T ρ w0 (txP (ai 0) (rA 2) (gA 3) (ai 1))) := rfl
 have e2 : hpDen T ρ w0 ZkN.post = Zd (T.prd 100 w0 ((rA 2).den T ρ) ((gA 3).den T ρ)) emp := rfl
 have r0 := hr (eLe z0 (ai 1)) (by simp [ZkN])
 have r1 := hr (eLt (ai 1) (usI 552 (gA 3) z0 z0)) (by simp [ZkN])
 have r2 := hr (.f2 45 (ai 0) (nt (rA 2) (ai 1) 0)) (by simp [ZkN])
 rw [Ze] at r0
 rw [ZI] at r1
 simp only [usI, SX.den, hT.u552, Zp, U.tIi] at r1
 have r2 : (ap2 45 ((ai 0).den T ρ) ((nt (rA 2) (ai 1) 0).den T ρ)).tP := r2
 rw [p45, Zhj] at r2
 have k2 : ((Zu (ZoV (ai 1)) (rA 2)).den T ρ).tR = [((ai 1).den T ρ).tI] :: ((rA 2).den T ρ).tR := rfl
 rw [e1, hT.p101, k2, ZxO hT ρ w0 (ai 0) (rA 2) (gA 3) (ai 1) r2] at hpre
 rw [e2, Zc, hT.p100]
 have r0 : 0 <= ((ai 1).den T ρ).tI := r0
 have hl := hr (.f2 45 (Zh (rA 2)) (usI 552 (gA 3) z0 z0)) (by simp [ZkN])
 simp only [Zh, usI, SX.den, hT.u552, p45, Yd, U.tIi, Zp] at hl
 have hl : ((rA 2).den T ρ).tR.length = (ZO ((gA 3).den T ρ)).length := by omega
 rw [ZhD hl r0 (by omega)]
 exact hpre
theorem ZfE {L : List Tx} {i : Int} {t u : Tx} (h0 : 0 <= i) (hi : i < L.length) : setT (setT L i t) i u = setT L i u /\ atT (setT L i t) i = t := by
 have hl : (L.take i.toNat).length = i.toNat := by rw [ZPT]; omega
 have e1 : (L.take i.toNat ++ t :: L.drop (i.toNat + 1)).take i.toNat = L.take i.toNat := by
  rw [List.take_append_of_le_length (by omega), List.take_take, Nat.min_self]
 have e2 : (L.take i.toNat ++ t :: L.drop (i.toNat + 1)).drop (i.toNat + 1) = L.drop (i.toNat + 1) := by
  rw [List.drop_append, List.drop_of_length_le (by omega), hl, List.nil_append, show i.toNat + 1 - i.toNat = 1 by omega]; rfl
 unfold setT atT
 refine ⟨by rw [e1, e2], ?_⟩
 rw [ZPR, ZQa (by omega), hl, Nat.sub_self]; rfl
theorem ZkV (S : Sig GG) (hS : JtSig S) : YH S ZnY := by
 refine ZL S fun T w0 ρ h hu hp hd hr hpre => ⟨ρ, Ext.refl _ _, ?_, (fun x hx => nomatch hx)⟩
 have hT := hS.of hu hp
 have e1 : hpDen T ρ w0 ZnY.pre = Zd (T.prd 101 w0 ((Zu (ZoV (ai 1)) (rA 2)).den T ρ) ((gA 3).den T ρ)) (Zd ((Ch.cel (ai 0) 0 (ZDg (ai 4) (ai 5) (ai 6) (qA 7) (ai 8) (ai 9) (ai 16) (ai 10) (ai 11) (ai 17) (ai 12))).den T ρ w0) (Zd ((scC (ai 8) (mA 13)).den T ρ w0) (Zd ((rAr (ai 9) (rA 14) (ai 10)).den T ρ w0) (Zd ((iAr (ai 11) (iA 15) (ai 12)).den T ρ w0) emp)))) := rfl
 have e2 : hpDen T ρ w0 ZnY.post = Zd (T.prd 100 w0 ((usR 554 (rA 2) (ai 1) (Zbm (ai 0) (ai 8) (ai 9) (ai 10) (ai 11) (ai 12))).den T ρ) ((Go.Eng.SX.us .g 556 (.us .g 555 (gA 3) (ai 1) (mA 13) (ZN (ai 6) (.f1 3 (qA 7)))) (ai 1) (rA 14) (iA 15)).den T ρ)) emp := rfl
 have r0 := hr (eLe z0 (ai 1)) (by simp [ZnY])
 have r1 := hr (eLt (ai 1) (usI 552 (gA 3) z0 z0)) (by simp [ZnY])
 have r4 := hr (.f2 45 (ai 4) (usI 540 (gA 3) (ai 1) z0)) (by simp [ZnY])
 have r5 := hr (.f2 45 (ai 5) (usI 541 (gA 3) (ai 1) z0)) (by simp [ZnY])
 have r6 := hr (.f2 45 (ai 16) (Zh (rA 14))) (by simp [ZnY])
 have r7 := hr (.f2 45 (ai 17) (Zcs (iA 15))) (by simp [ZnY])
 have hl := hr (.f2 45 (Zh (rA 2)) (usI 552 (gA 3) z0 z0)) (by simp [ZnY])
 rw [Ze] at r0
 rw [ZI] at r1
 simp only [usI, SX.den, hT.u552, Zp, U.tIi] at r1
 simp only [Zh, Zcs, usI, SX.den, hT.u552, hT.u540, hT.u541, p45, Zfb, Yd, U.tIi, Zp] at hl r4 r5 r6 r7
 have hl : ((rA 2).den T ρ).tR.length = (ZO ((gA 3).den T ρ)).length := by omega
 have r0 : 0 <= ((ai 1).den T ρ).tI := r0
 have k2 : ((Zu (ZoV (ai 1)) (rA 2)).den T ρ).tR = [((ai 1).den T ρ).tI] :: ((rA 2).den T ρ).tR := rfl
 have k3 : ((usR 554 (rA 2) (ai 1) (Zbm (ai 0) (ai 8) (ai 9) (ai 10) (ai 11) (ai 12))).den T ρ).tR = ZCC ((rA 2).den T ρ).tR ((ai 1).den T ρ).tI [(ρ 0).tI, (ρ 8).tI, (ρ 9).tI, (ρ 10).tI, (ρ 11).tI, (ρ 12).tI] := by
  simp only [usR, SX.den, hT.u554, Zw, U.tRi]; try rfl
 have k4 : ZO ((Go.Eng.SX.us .g 556 (.us .g 555 (gA 3) (ai 1) (mA 13) (ZN (ai 6) (.f1 3 (qA 7)))) (ai 1) (rA 14) (iA 15)).den T ρ) =
   setT (ZO ((gA 3).den T ρ)) ((ai 1).den T ρ).tI (ZAB (Zs6 (atT (ZO ((gA 3).den T ρ)) ((ai 1).den T ρ).tI) (ρ 13).tM [(ρ 6).tI, b01 (ρ 7).toBool]) (ρ 14).tR (ρ 15).tN) := by
  have hw : ZO ((Go.Eng.SX.us .g 555 (gA 3) (ai 1) (mA 13) (ZN (ai 6) (.f1 3 (qA 7)))).den T ρ) = setT (ZO ((gA 3).den T ρ)) ((ai 1).den T ρ).tI (Zs6 (atT (ZO ((gA 3).den T ρ)) ((ai 1).den T ρ).tI) (ρ 13).tM [(ρ 6).tI, b01 (ρ 7).toBool]) := by
   simp only [SX.den, hT.u555, ZFx, ZQ]; rfl
  have hw2 : ∀ g : SX, ZO ((Go.Eng.SX.us .g 556 g (ai 1) (rA 14) (iA 15)).den T ρ) = setT (ZO (g.den T ρ)) ((ai 1).den T ρ).tI (ZAB (atT (ZO (g.den T ρ)) ((ai 1).den T ρ).tI) (ρ 14).tR (ρ 15).tN) := fun g => by
   simp only [SX.den, hT.u556, ZFx, ZQ]; rfl
  rw [hw2, hw, (ZfE r0 r1).1, (ZfE (u := tx0) r0 r1).2]
 rw [e1, hT.p101, k2, ZdZ, Znn, ZjX, Zyv, Zc] at hpre
 rw [e2, Zc, hT.p100, k3, k4, ZrM hl r0 (by omega)]
 have ei : Zc6 [(ρ 0).tI, (ρ 8).tI, (ρ 9).tI, (ρ 10).tI, (ρ 11).tI, (ρ 12).tI] (ZAB (Zs6 (atT (ZO ((gA 3).den T ρ)) ((ai 1).den T ρ).tI) (ρ 13).tM [(ρ 6).tI, b01 (ρ 7).toBool]) (ρ 14).tR (ρ 15).tN) =
   Zd (ZFM (ρ 0).tI (ρ 4).tI (ρ 5).tI (ρ 6).tI (b01 (ρ 7).toBool == 1) (ρ 8).tI (ρ 9).tI (ρ 16).tI (ρ 10).tI (ρ 11).tI (ρ 17).tI (ρ 12).tI) (Zd (ZvG (ρ 8).tI (ρ 13).tM) (Zd (rAD rE (ρ 9).tI (ρ 14).tR (ρ 10).tI) (iAD (ρ 11).tI (ρ 15).tN (ρ 12).tI))) := by
  have q4 : (ρ 4).tI = (atT (ZO ((gA 3).den T ρ)) ((ai 1).den T ρ).tI).who := r4
  have q5 : (ρ 5).tI = (atT (ZO ((gA 3).den T ρ)) ((ai 1).den T ρ).tI).beg := r5
  have q6 : (ρ 16).tI = ((ρ 14).tR.length : Nat) := r6
  have q7 : (ρ 17).tI = ((ρ 15).tN.length : Nat) := r7
  rw [q4, q5, q6, q7]; rfl
 rw [ei, show (b01 (ρ 7).toBool == 1) = (ρ 7).toBool from by cases (ρ 7).toBool <;> rfl]
 exact hpre
theorem ZLf (S : Sig GG) (hS : JtSig S) : YH S adTC := by
 refine ZL S fun T w0 ρ h hu hp hd hr hpre => ⟨ρ, Ext.refl _ _, ?_, (fun x hx => nomatch hx)⟩
 have hT := hS.of hu hp
 have e1 : hpDen T ρ w0 adTC.pre = Zd ((Ch.cel (ai 0) 0 (ZDg (ai 3) (ai 4) (.int (-1)) (.bool true) (ai 5) (.int (-1)) z0 z0 (.int (-1)) z0 z0)).den T ρ w0) (Zd ((scC (ai 5) (.f1 155 z0)).den T ρ w0) (Zd (T.prd 100 w0 ((rA 1).den T ρ) ((gA 2).den T ρ)) emp)) := by
  have q : (Ch.cel (ai 0) 0 (ZDg (ai 3) (ai 4) (.int (-1)) (.bool true) (ai 5) (.int (-1)) z0 z0 (.int (-1)) z0 z0)).den T ρ w0 = (Ch.cel (ai 0) 0 [.int .i64 (ai 3), .int .i64 (ai 4), .int .i64 (.int (-1)), .bool (.bool true), .map (ai 5), slC (.int (-1)) z0 z0 1, sl1 (.int (-1)) z0 z0]).den T ρ w0 := by
   rw [ZdZ]
   simp only [Ch.den, ZP0, List.map_nil, sl1, ZcQ, SC.den, reduceCtorEq]
   rfl
  rw [q]; rfl
 have e2 : hpDen T ρ w0 adTC.post = Zd (T.prd 100 w0 ((Go.Eng.SX.f2 121 (rA 1) (Zu (Zbm (ai 0) (ai 5) (.int (-1)) z0 (.int (-1)) z0) Zbn)).den T ρ) ((usG 557 (gA 2) (ai 3) (ai 4)).den T ρ)) emp := rfl
 rw [e1, ZdZ, Znn, Zc, hT.p100] at hpre
 have k3 : ((Go.Eng.SX.f2 121 (rA 1) (Zu (Zbm (ai 0) (ai 5) (.int (-1)) z0 (.int (-1)) z0) Zbn)).den T ρ).tR = ((rA 1).den T ρ).tR ++ [[(ρ 0).tI, (ρ 5).tI, -1, 0, -1, 0]] := rfl
 have k4 : ZO ((usG 557 (gA 2) (ai 3) (ai 4)).den T ρ) = ZO ((gA 2).den T ρ) ++ [⟨(ρ 3).tI, (ρ 4).tI, -1, true, [], [], []⟩] := by
  simp only [usG, SX.den, hT.u557, ZFx, ZQ]; rfl
 rw [e2, Zc, hT.p100, k3, k4]
 obtain ⟨a, b, d, rfl, ha, c, e, d2, rfl, hc, he⟩ := hpre
 rw [ZdL _ _ (Za7 he), ZqP]
 have ei : Zc6 [(ρ 0).tI, (ρ 5).tI, -1, 0, -1, 0] ⟨(ρ 3).tI, (ρ 4).tI, -1, true, [], [], []⟩ = Zd (ZFM (ρ 0).tI (ρ 3).tI (ρ 4).tI (-1) true (ρ 5).tI (-1) 0 0 (-1) 0 0) (ZvG (ρ 5).tI []) := by
  show Zd _ (Zd _ (Zd (rAD rE (-1) [] 0) (iAD (-1) [] 0))) = _
  rw [rE, Zci, Zz3, Zc, Zc]; rfl
 rw [ei, Zy, star_assoc]
 exact ⟨a, _, d, rfl, ha, c, e, d2, rfl, hc, he⟩
theorem ZC6 {b : Int} {w1 b1 c1 : Int} {o1 : Bool} {m1 r1 l1 q1 s1 t1 u1 w2 b2 c2 : Int} {o2 : Bool} {m2 r2 l2 q2 s2 t2 u2 : Int} {A : HProp} {h : Hl}
  (hs : Zd (ZFM b w1 b1 c1 o1 m1 r1 l1 q1 s1 t1 u1) (Zd (ZFM b w2 b2 c2 o2 m2 r2 l2 q2 s2 t2 u2) A) h) : False := by
 obtain ⟨x, y, d, rfl, ⟨_, hx⟩, z, v, d2, rfl, ⟨_, hz⟩, _⟩ := hs
 have e1 : x b.toNat 0 = some (.val (.int .i64 w1) true) := by rw [hx]; exact Zb3 (o := 0) (i := 0) (by simp)
 have e2 : z b.toNat 0 = some (.val (.int .i64 w2) true) := by rw [hz]; exact Zb3 (o := 0) (i := 0) (by simp)
 rcases d b.toNat 0 with q | q
 ·rw [e1] at q; cases q
 ·unfold Hl.un at q; rw [e2] at q; cases q
theorem ZpG {r : List Int} : ∀ {R : List (List Int)} {L : List Tx} {h : Hl}, r ∈ R -> Zeq R L h -> ∃ (t : Tx) (A : HProp), Zd (ZFM (g0 r) t.who t.beg t.com t.opn (g1 r) (g2 r) (t.rds.length : Nat) (g3 r) (g4 r) (t.bad.length : Nat) (g5 r)) A h
 | s :: R, t :: L, h, hm, hx => by
  rcases List.mem_cons.1 hm with rfl | hm
  ·have hx : Zd (Zc6 r t) (Zeq R L) h := hx
   unfold Zc6 at hx
   rw [star_assoc] at hx
   exact ⟨t, _, hx⟩
  ·obtain ⟨a, b, d, rfl, ha, hb⟩ := hx
   obtain ⟨u, A, hA⟩ := ZpG hm hb
   have : Zd (Zc6 s t) (Zd _ A) (Hl.un a b) := ⟨a, b, d, rfl, ha, hA⟩
   rw [Zo] at this
   exact ⟨u, _, this⟩
 | _ :: _, [], _, _, hx => hx.elim
 | [], _, _, hm, _ => by cases hm
theorem ZgN : ∀ {R : List (List Int)} {L : List Tx} {h : Hl}, Zeq R L h -> (R.map g0).Nodup /\ ∀ r ∈ R, 0 <= g0 r
 | [], [], _, _ => ⟨List.nodup_nil, fun r hr => by cases hr⟩
 | r :: R, t :: L, h, hx => by
  obtain ⟨a, b, d, rfl, ha, hb⟩ := hx
  obtain ⟨h1, h2⟩ := ZgN hb
  refine ⟨?_, fun s hs => ?_⟩
  ·rw [ZP0, List.nodup_cons]
   refine ⟨fun hm => ?_, h1⟩
   obtain ⟨s, hs, he⟩ := List.mem_map.1 hm
   obtain ⟨u, A, hA⟩ := ZpG hs hb
   have hq : Zd (Zc6 r t) (Zd _ A) (Hl.un a b) := ⟨a, b, d, rfl, ha, hA⟩
   unfold Zc6 at hq
   rw [star_assoc, he] at hq
   rw [Zo (A := Zd (ZvG _ _) _)] at hq
   exact ZC6 hq
  ·rcases List.mem_cons.1 hs with rfl | hs
   ·exact (Zdm ha).2.2.2.2.2
   ·exact h2 s hs
 | [], _ :: _, _, hx => hx.elim
 | _ :: _, [], _, hx => hx.elim
theorem ZbY {l : Int} : ∀ {R : List (List Int)}, Zc2 l R < R.length -> g0 (R.getD (Zc2 l R) []) = l
 | [], h => absurd h (Nat.not_lt_zero _)
 | r :: R, h => by
  unfold Zc2 at h ⊢
  cases hp : g0 r == l
  ·rw [hp] at h
   have h : Zc2 l R + 1 < R.length + 1 := h
   show g0 (R.getD (Zc2 l R) []) = l
   exact ZbY (by omega)
  ·exact beq_iff_eq.1 hp
theorem YY {R : List (List Int)} {b : Int} (h : Zo7 R b) : Zc2 b R < R.length := by
 obtain ⟨k, hk, rfl⟩ := h
 induction R generalizing k with
 | nil => exact absurd hk (Nat.not_lt_zero _)
 | cons r R ih =>
  unfold Zc2
  cases hp : g0 r == g0 ((r :: R).getD k [])
  ·cases k with
   | zero => have : (g0 r == g0 r) = false := hp; simp at this
   | succ k =>
    have := ih k (by simpa using hk)
    show Zc2 _ R + 1 < R.length + 1
    have e : (r :: R).getD (k + 1) [] = R.getD k [] := rfl
    rw [e]; omega
  ·exact Nat.zero_lt_succ _
theorem ZAQ (R : List (List Int)) (L : List Tx) (i : Nat) : ∃ A, Zc6 (R.getD i []) (L.getD i tx0) = Zd A (ZhR R L i) := ⟨_, Zy _ _⟩
theorem ZeA {T : Sig GG} (hT : JtSig T) (ρ : Go.Eng.Env GG) (w0 : World) (b R g i : SX) (I : Nat) (hi : (i.den T ρ).tI = (I : Nat)) (hb : (b.den T ρ).tI = g0 ((R.den T ρ).tR.getD I [])) :
  (Ch.cel b 0 (txQ R g i)).den T ρ w0 = ZhR (R.den T ρ).tR (ZO (g.den T ρ)) I := by
 rw [txQ, ZdZ]
 simp only [Zhj, usI, usB, usR, usN, usM, Zh, Zcs, SX.den, hT.u540, hT.u541, hT.u542, hT.u543, hT.u545, hT.u546, Zp, YQ, Ze6, Zw, Zj6, Zfb, Yd, U.tIi, U.tQi, U.tRi, U.tNi, hi, atT, ZPY]
 rw [hb]
 rfl
theorem ZrJ {R : List (List Int)} {L : List Tx} {j k : Nat} (hl : R.length = L.length) (hj : j < R.length) (hk : k < R.length) (hne : j ≠ k) : ∃ A, Zeq R L = Zd A (Zd (ZhR R L j) (ZhR R L k)) := by
 have pick : ∀ (R : List (List Int)) (L : List Tx) (k : Nat), R.length = L.length -> k < R.length -> ∃ A, Zeq R L = Zd A (ZhR R L k) := by
  intro R L k hl hk
  have h := ZhD (R := R) (L := L) (i := (k : Nat)) hl (by omega) (by omega)
  rw [ZPY] at h
  obtain ⟨A, hA⟩ := ZAQ R L k
  have e : atT L (k : Nat) = L.getD k tx0 := by unfold atT; rw [ZPY]
  rw [e, hA, <- star_assoc] at h
  exact ⟨_, h⟩
 have main : ∀ (j k : Nat), j < k -> k < R.length -> ∃ A, Zeq R L = Zd A (Zd (ZhR R L j) (ZhR R L k)) := by
  intro j k hjk hk
  have h : Zeq (R.take k ++ R.drop k) (L.take k ++ L.drop k) = _ := ZdL _ _ (by rw [ZPT, ZPT]; omega)
  rw [List.take_append_drop, List.take_append_drop] at h
  obtain ⟨A, hA⟩ := pick (R.take k) (L.take k) j (by rw [ZPT, ZPT]; omega) (by rw [ZPT]; omega)
  obtain ⟨B, hB⟩ := pick (R.drop k) (L.drop k) 0 (by rw [ZP5, ZP5]; omega) (by rw [ZP5]; omega)
  have e1 : ZhR (R.take k) (L.take k) j = ZhR R L j := by unfold ZhR; rw [Z5 hjk, Z5 hjk]
  have gd : ∀ {α : Type} (l : List α) (d : α), (l.drop k).getD 0 d = l.getD k d := fun l d => by
   rw [ZPR, ZPR, ZQg, Nat.add_zero]
  have e2 : ZhR (R.drop k) (L.drop k) 0 = ZhR R L k := by unfold ZhR; rw [gd, gd]
  rw [hA, hB, e1, e2] at h
  refine ⟨Zd A B, ?_⟩
  rw [h, star_assoc, star_assoc, Zo (ZhR R L j)]
 rcases ZPL j k with h | h
 ·exact main j k h hk
 ·obtain ⟨A, hA⟩ := main k j (by omega) hj
  exact ⟨A, by rw [hA, Zy (ZhR R L k)]⟩
theorem ZAU (S : Sig GG) (hS : JtSig S) : YH S ZD4 := by
 refine ZL S fun T w0 ρ h hu hp hd hr hpre => ⟨ρ, Ext.refl _ _, ?_, (fun x hx => nomatch hx)⟩
 have hT := hS.of hu hp
 have e1 : hpDen T ρ w0 ZD4.pre = Zd ((Ch.arr pE (ai 0) (rA 5) (ai 6)).den T ρ w0) (Zd (T.prd 100 w0 ((rA 7).den T ρ) ((gA 8).den T ρ)) emp) := rfl
 have e2 : hpDen T ρ w0 ZD4.post = Zd ((Ch.arr pE (ai 0) (rA 5) (ai 6)).den T ρ w0) (Zd ((Ch.cel (ai 4) 0 (txQ (rA 7) (gA 8) (ixB (rA 7) (ai 4)))).den T ρ w0) (Zd ((Ch.cel (nt (rA 5) (ai 3) 0) 0 (txQ (rA 7) (gA 8) (ixB (rA 7) (nt (rA 5) (ai 3) 0)))).den T ρ w0) (Zd (T.prd 102 w0 ((Zu (ZN (ai 4) (nt (rA 5) (ai 3) 0)) (rA 7)).den T ρ) ((gA 8).den T ρ)) emp))) := rfl
 have r0 := hr (usB 565 (rA 7) (ai 4) z0) (by simp [ZD4])
 have r1 := hr (usB 565 (rA 7) (nt (rA 5) (ai 3) 0) z0) (by simp [ZD4])
 have r2 := hr (.f1 2 (.f2 45 (ai 4) (nt (rA 5) (ai 3) 0))) (by simp [ZD4])
 have n0 := Zhj T ρ (rA 5) (ai 3) 0
 simp only [usB, SX.den, hT.u565, YQ, U.tPi, U.tQi, Zj] at r0 r1
 have r2 : (ap1 2 (ap2 45 ((ai 4).den T ρ) ((nt (rA 5) (ai 3) 0).den T ρ))).tP := r2
 rw [ZGK] at r2
 generalize hv : ((ai 4).den T ρ).tI = v at *
 generalize hy : ((nt (rA 5) (ai 3) 0).den T ρ).tI = y at *
 have ib : ∀ b : SX, ((ixB (rA 7) b).den T ρ).tI = (Zc2 (b.den T ρ).tI ((rA 7).den T ρ).tR : Nat) := fun b => by
  simp only [ixB, usI, SX.den, hT.u566, Zp, U.tIi]
 have k2 : ((Zu (ZN (ai 4) (nt (rA 5) (ai 3) 0)) (rA 7)).den T ρ).tR = [v, y] :: ((rA 7).den T ρ).tR := by
  show ([((ai 4).den T ρ).tI, ((nt (rA 5) (ai 3) 0).den T ρ).tI] :: ((rA 7).den T ρ).tR) = _
  rw [hv, hy]
 have a0 := ZbY (YY r0)
 have a1 := ZbY (YY r1)
 rw [e1, Zc, hT.p100] at hpre
 rw [e2, Zc, ZeA hT ρ w0 (ai 4) (rA 7) (gA 8) (ixB (rA 7) (ai 4)) (Zc2 v ((rA 7).den T ρ).tR) (by rw [ib, hv]) (by rw [a0, hv]),
  ZeA hT ρ w0 (nt (rA 5) (ai 3) 0) (rA 7) (gA 8) (ixB (rA 7) (nt (rA 5) (ai 3) 0)) (Zc2 y ((rA 7).den T ρ).tR) (by rw [ib, hy]) (by rw [a1, hy]), hT.p102, k2]
 generalize ((rA 7).den T ρ).tR = R at *
 generalize ZO ((gA 8).den T ρ) = L at *
 obtain ⟨p, q, d, rfl, hp1, hq⟩ := hpre
 have hl := Za7 hq
 have hne : Zc2 v R ≠ Zc2 y R := fun e => r2 (by rw [<- a0, <- a1, e])
 obtain ⟨A, hA⟩ := ZrJ hl (YY r0) (YY r1) hne
 have hq2 := hq
 rw [hA] at hq2
 obtain ⟨s, t, d2, rfl, hs, ht⟩ := hq2
 have hw : ZKO (g0 ([v, y] :: R |>.getD 0 [])) (g1 ([v, y] :: R |>.getD 0 [])) (([v, y] :: R).drop 1) L s := by
  intro h' hd' hh'
  show Zeq R L _
  rw [hA]
  exact ⟨s, h', hd', rfl, hs, hh'⟩
 refine ⟨p, _, d, rfl, hp1, ?_⟩
 have : Zd (Zd (ZhR R L (Zc2 v R)) (ZhR R L (Zc2 y R))) (ZKO (g0 ([v, y] :: R |>.getD 0 [])) (g1 ([v, y] :: R |>.getD 0 [])) (([v, y] :: R).drop 1) L) (Hl.un s t) := ⟨t, s, d2.symm, Hl.un_comm d2, ht, hw⟩
 rw [star_assoc] at this
 exact this
theorem ZrB (S : Sig GG) (hS : JtSig S) : YH S ZDy := by
 refine ZL S fun T w0 ρ h hu hp hd hr hpre => ⟨ρ, Ext.refl _ _, ?_, (fun x hx => nomatch hx)⟩
 have hT := hS.of hu hp
 have e1 : hpDen T ρ w0 ZDy.pre = Zd (T.prd 102 w0 ((Zu (ZN (ai 0) (ai 1)) (rA 2)).den T ρ) ((gA 3).den T ρ)) (Zd ((Ch.cel (ai 0) 0 (txQ (rA 2) (gA 3) (ixB (rA 2) (ai 0)))).den T ρ w0) (Zd ((Ch.cel (ai 1) 0 (txQ (rA 2) (gA 3) (ixB (rA 2) (ai 1)))).den T ρ w0) emp)) := rfl
 have e2 : hpDen T ρ w0 ZDy.post = Zd (T.prd 100 w0 ((rA 2).den T ρ) ((gA 3).den T ρ)) emp := rfl
 have r0 := hr (usB 565 (rA 2) (ai 0) z0) (by simp [ZDy])
 have r1 := hr (usB 565 (rA 2) (ai 1) z0) (by simp [ZDy])
 simp only [usB, SX.den, hT.u565, YQ, U.tPi, U.tQi, Zj] at r0 r1
 have ib : ∀ b : SX, ((ixB (rA 2) b).den T ρ).tI = (Zc2 (b.den T ρ).tI ((rA 2).den T ρ).tR : Nat) := fun b => by
  simp only [ixB, usI, SX.den, hT.u566, Zp, U.tIi]
 have k2 : ((Zu (ZN (ai 0) (ai 1)) (rA 2)).den T ρ).tR = [((ai 0).den T ρ).tI, ((ai 1).den T ρ).tI] :: ((rA 2).den T ρ).tR := rfl
 have a0 := ZbY (YY r0)
 have a1 := ZbY (YY r1)
 rw [e1, Zc, hT.p102, k2, ZeA hT ρ w0 (ai 0) (rA 2) (gA 3) (ixB (rA 2) (ai 0)) _ (by rw [ib]) (by rw [a0]),
  ZeA hT ρ w0 (ai 1) (rA 2) (gA 3) (ixB (rA 2) (ai 1)) _ (by rw [ib]) (by rw [a1])] at hpre
 rw [e2, Zc, hT.p100]
 obtain ⟨a, b, d, rfl, ha, hb⟩ := hpre
 exact ha b d hb
theorem ZFj (S : Sig GG) (hS : JtSig S) : YH S ZM6 := by
 refine ZL S fun T w0 ρ h hu hp hd hr hpre => ⟨ρ, Ext.refl _ _, hpre, ?_⟩
 have hT := hS.of hu hp
 have e1 : hpDen T ρ w0 ZM6.pre = Zd (T.prd 100 w0 ((rA 0).den T ρ) ((gA 1).den T ρ)) emp := rfl
 rw [e1, Zc, hT.p100] at hpre
 intro x hx
 simp only [ZM6, ZPK] at hx
 subst hx
 simp only [usB, SX.den, hT.u558, YQ, U.tPi, U.tQi, Zj]
 exact ⟨Za7 hpre, (ZgN hpre).1, (ZgN hpre).2⟩
theorem ZMl (S : Sig GG) (hS : JtSig S) : YH S emTC := by
 refine ZL S fun T w0 ρ h hu hp hd hr hpre => ⟨ρ, Ext.refl _ _, ?_, (fun x hx => nomatch hx)⟩
 have hT := hS.of hu hp
 have e1 : hpDen T ρ w0 emTC.pre = emp := rfl
 have e2 : hpDen T ρ w0 emTC.post = Zd (T.prd 100 w0 (Zbn.den T ρ) ((usG 561 Zbn z0 z0).den T ρ)) emp := rfl
 rw [e1] at hpre
 rw [e2, Zc, hT.p100]
 have k : ZO ((usG 561 Zbn z0 z0).den T ρ) = [] := by
  simp only [usG, SX.den, hT.u561, ZFx, ZQ]; rfl
 rw [k]
 exact hpre
def entZ : SX := Zbm (ai 2) (ai 3) (.f1 35 (bA 4)) (.f1 35 (bA 5)) (.f1 3 (qA 6)) (ai 7)
def reaW : SX := .us .rows 563 (mA 17) entZ (rA 18) (ai 1)
def reaV : SX := .us .ints 564 (mA 17) entZ (iA 19) (ai 1)
def mil : SX := .int 1000000
def ZBn : Ctr := ⟨[.int, .int, .int, .int, .bytes, .bytes, .bool, .int, .int, .int, .int, .bool, .int, .int, .int, .int, .int, .amap, .rows, .ints],
 [.one (.ptr (ai 0) 0), .one (.int .i64 (ai 1)), .agg [.int .i64 (ai 2), .int .i64 (ai 3), .str (bA 4), .str (bA 5), .bool (qA 6), .int .i64 (ai 7)]],
 [.cel (ai 0) 0 (ZDg (ai 8) (ai 9) (ai 10) (qA 11) (ai 12) (ai 13) (Zh (rA 18)) (ai 14) (ai 15) (Zcs (iA 19)) (ai 16)), scC (ai 12) (mA 17), rAr (ai 13) (rA 18) (ai 14), iAr (ai 15) (iA 19) (ai 16)],
 [eLe z0 (ai 12), eLe (Zh (rA 18)) (ai 14), eLe (Zcs (iA 19)) (ai 16), eLe (Zh (rA 18)) mil, eLe (Zcs (iA 19)) mil, .f2 50 (eLe z0 (ai 13)) (.f2 45 (Zh (rA 18)) z0), .f2 50 (eLe z0 (ai 15)) (.f2 45 (Zcs (iA 19)) z0)],
 [.int, .int, .int, .int], .tup [],
 [.cel (ai 0) 0 (ZDg (ai 8) (ai 9) (ai 10) (qA 11) (ai 12) (ai 20) (Zh reaW) (ai 21) (ai 22) (Zcs reaV) (ai 23)), scC (ai 12) (mA 17), rAr (ai 20) reaW (ai 21), iAr (ai 22) reaV (ai 23)],
 [eLe (Zh reaW) (ai 21), eLe (Zcs reaV) (ai 23), .f2 50 (eLe z0 (ai 20)) (.f2 45 (Zh reaW) z0), .f2 50 (eLe z0 (ai 22)) (.f2 45 (Zcs reaV) z0)]⟩
def ZM4 : Cx := { specs := [(47, [ZiU])], anns := [] }
def Zw5 : Ctr := ⟨[.int, .int, .int, .rows, .int, .rows, .g], [.one (slC (ai 0) (ai 1) (ai 2) 1), .one (.ptr (ai 4) 0)], [.arr pE (ai 0) (rA 3) (ai 2), txC (rA 5) (gA 6)],
 [.f2 45 (ai 1) (Zh (rA 3)), eLe (ai 1) (ai 2), eLe (ai 1) mil, usB 560 (rA 3) (rA 5) z0, .f2 50 (eLt (ai 4) z0) (usB 565 (rA 5) (ai 4) z0), usB 558 (rA 5) (gA 6) z0], [.bool], .one (.bool (qA 7)), [.arr pE (ai 0) (rA 3) (ai 2), txC (rA 5) (gA 6)], [.f2 48 (qA 7) (usB 562 (rA 3) (ai 4) z0)]⟩
def cntI : Inv := ⟨[.int], [(8, .one (.int .i64 (di 0)))], [], [eLe z0 (di 0), eLe (di 0) (ai 1), .f1 2 (usB 562 (tk (rA 3) (di 0)) (ai 4) z0)], .f2 41 (ai 1) (di 0)⟩
def cntE : SX := .f2 45 (ai 4) (nt (rA 3) (ai 7) 0)
def ZMV : Cx := { specs := [], anns := [(76, [(2, .inv cntI), (4, .split (eLt (ai 4) z0)), (4, .iff (eLe z0 (ai 4))), (4, .split cntE), (4, .iff (ZcP cntE)), (4, .ghost ZD4 [.tmp 0, .tmp 5, .tmp 1]), (500004, .iff (ZcP cntE)), (500004, .ghost ZDy [.tmp 1])])] }
def ZJx : SX := l z (a 13)
def ZJ8 : SX := l z (a 15)
def ZIt : SX := .f1 2 (.f2 141 (m 17) (.f1 35 (b 4)))
def ZxM : SX := .f2 40 (.f1 32 (r 18)) (k 1)
def ZD0 : SX := l z (a 23)
def ZzM : SX := .f2 122 (a 2) (.f2 122 (a 3) (.f2 122 (.f1 35 (b 4)) (.f2 122 (.f1 35 (b 5)) (.f2 122 (.f1 3 (q 6)) (.f2 122 (a 7) (.f1 152 z))))))
def ZFa : SX := .us .rows 563 (m 17) ZzM (r 18) (a 1)
def ZsT : SX := .f1 32 ZFa
def ZDJ : SX := .us .ints 564 (m 17) ZzM (s 19) (a 1)
def Ztf : SX := .f1 30 ZDJ
def ZwO : SX := l Ztf (a 16)
def ZBE : SX := e ZsT z
def ZA7 : SX := e Ztf z
def ZAe : SX := .f2 50 ZJ8 ZA7
def ZCm : SX := .f2 155 ZDJ (s 19)
def ZBT : SX := e Ztf (.f1 30 (s 19))
def ZmH : SX := .f2 40 (.f1 30 (s 19)) (k 1)
def ZAG : SX := l z (a 24)
def Zyc : SX := l ZsT (a 14)
def Zvo : SX := .f2 50 ZJx ZBE
def ZtX : SX := .f2 155 ZFa (r 18)
def ZBv : SX := e ZsT (.f1 32 (r 18))
def ZLy : VC := i (l z (a 12)) (i (l (.f1 32 (r 18)) (a 14)) (i (l (.f1 30 (s 19)) (a 16)) (i (l (.f1 32 (r 18)) (k 1000000)) (i (l (.f1 30 (s 19)) (k 1000000)) (i (.f2 50 ZJx (e (.f1 32 (r 18)) z)) (i (.f2 50 ZJ8 (e (.f1 30 (s 19)) z)) (u 20 .int (i (l z (a 20)) (u 21 .int (i (l z (a 21)) (.and (i ZIt (u 22 .int (i (l z (a 22)) (n (l (.f1 32 (r 18)) (.f1 32 (r 18))) (n (l (.f2 42 ZxM (k 72)) k1) (u 23 .int (u 24 .int (i (l ZxM (a 24)) (i (.f2 50 ZD0 (e ZxM z)) (n (l ZsT (a 24)) (n ZwO (n (.f2 50 ZD0 ZBE) (n ZAe (n ZCm (n (.f2 155 ZFa (.f2 121 (r 18) (.f2 124 (.f2 122 (a 1) ZzM) (.f1 154 z)))) (n ZBT (n (e ZsT ZxM) .tt))))))))))))))))) (i (.f1 2 ZIt) (u 22 .bool (i (.f2 48 (q 22) (c 530 (m 17) ZzM)) (.and (i (.f1 2 (q 22)) (u 23 .int (i ZD0 (n (l (.f1 30 (s 19)) (.f1 30 (s 19))) (n (l (.f2 42 ZmH (k 8)) k1) (u 24 .int (u 25 .int (i (l ZmH (a 25)) (i (.f2 50 ZAG (e ZmH z)) (n Zyc (n (l Ztf (a 25)) (n Zvo (n (.f2 50 ZAG ZA7) (n (.f2 155 ZDJ (.f2 119 (s 19) (.f2 122 (a 1) (.f1 152 z)))) (n ZtX (n (e Ztf ZmH) (n ZBv .tt))))))))))))))))) (i (.f1 2 (.f1 2 (q 22))) (n Zyc (n ZwO (n Zvo (n ZAe (n ZCm (n ZtX (n ZBT (n ZBv .tt))))))))))))))))))))))))
theorem ZOt : YV Tryz.prog ZM4 12 54 ZBn = ZLy := by kernel_rfl
def ZI6 : SX := t (a 4) z
def ZH9 : SX := c 565 (r 5) (a 4)
def ZF8 : SX := l z (a 7)
def ZDV : SX := t (a 7) (.f1 32 (r 3))
def ZDW : SX := .f3 112 (r 3) (a 7) z
def Zti : SX := .f2 40 (a 7) (k 1)
def ZJY : SX := .f1 23 Zti
def ZHa : SX := .f2 41 (a 1) Zti
def ZGa : SX := l z ZHa
def ZF6 : SX := t ZHa (.f2 41 (a 1) (a 7))
def ZBL : SX := l z Zti
def ZyW : SX := l Zti (a 1)
def ZCc : SX := .f1 2 (c 562 (.f2 115 (r 3) Zti) (a 4))
def Zwo : SX := e (a 4) ZDW
def Zzc : SX := c 562 (r 3) (a 4)
def ZOf : VC := i (e (a 1) (.f1 32 (r 3))) (i (l (a 1) (a 2)) (i (l (a 1) (k 1000000)) (i (c 560 (r 3) (r 5)) (i (.f2 50 ZI6 ZH9) (i (c 558 (r 5) (g 6)) (n (l z (a 1)) (n (.f1 2 (c 562 (.f2 115 (r 3) z) (a 4))) (u 7 .int (i ZF8 (i (l (a 7) (a 1)) (i (.f1 2 (c 562 (.f2 115 (r 3) (a 7)) (a 4))) (.and (i (t (a 7) (a 1)) (.and (i ZI6 (n ZDV (n (l z ZDW) (n ZJY (n ZGa (n ZF6 (n ZBL (n ZyW (n ZCc .tt))))))))) (i (l z (a 4)) (.and (i Zwo (n ZDV (n (.f2 48 ZF8 Zzc) .tt))) (i (.f1 2 Zwo) (n ZH9 (n (c 565 (r 5) ZDW) (n ZDV (n ZJY (n ZGa (n ZF6 (n ZBL (n ZyW (n ZCc .tt)))))))))))))) (i (l (a 1) (a 7)) (n (.f2 48 (.bool false) Zzc) .tt))))))))))))))
theorem ZM2 : YV Tryz.prog ZMV 12 55 Zw5 = ZOf := by kernel_rfl
theorem ZLg (S : Sig GG) (hS : JtSig S) : ZA S Tryz.prog 54 ZBn := by
 refine Zg S (C := ZM4) (fuel := 12) (ZU ⟨Zi (by decide) (Zqi S hS.jb), trivial⟩ trivial trivial) fun ρ => ?_
 rw [ZOt]
 simp only [ZLy, ZJx, ZJ8, ZIt, ZxM, ZD0, ZzM, ZFa, ZsT, ZDJ, Ztf, ZwO, ZBE, ZA7, ZAe, ZCm, ZBT, ZmH, ZAG, Zyc, Zvo, ZtX, ZBv, hS.jb.u530, hS.u563, hS.u564, ZQ, VC.den, SX.den, Env.upd, ZX, ZE, beq_iff_eq, ZPQ, beq_eq_false_iff_ne, ne_eq, ZPP, ZPO, Int.reduceToNat, Nat.reduceEqDiff, reduceIte, sB, sC]
 have hk : kc [(ρ 2).tI, (ρ 3).tI, ((Zr (ρ 4).tB : Nat) : Int), ((Zr (ρ 5).tB : Nat) : Int), b01 (ρ 6).toBool, (ρ 7).tI] = (Zr (ρ 4).tB : Nat) := by
  unfold kc ZY
  simp only [List.getD_cons_zero, List.getD_cons_succ, ZPY, Zm]
 have hn : nr [(ρ 2).tI, (ρ 3).tI, ((Zr (ρ 4).tB : Nat) : Int), ((Zr (ρ 5).tB : Nat) : Int), b01 (ρ 6).toBool, (ρ 7).tI] = [(ρ 2).tI, (ρ 3).tI, ((Zr (ρ 4).tB : Nat) : Int), ((Zr (ρ 5).tB : Nat) : Int), b01 (ρ 6).toBool, (ρ 7).tI] := by
  unfold nr xk xw ZY Zao Zcb xt
  simp only [List.getD_cons_zero, List.getD_cons_succ, ZPY, Zm, Zey]
 simp only [hk, hn]
 generalize ([(ρ 2).tI, (ρ 3).tI, ((Zr (ρ 4).tB : Nat) : Int), ((Zr (ρ 5).tB : Nat) : Int), b01 (ρ 6).toBool, (ρ 7).tI] : List Int) = E
 generalize ((Zr (ρ 4).tB : Nat) : Int) = K
 generalize (ρ 17).tM = M
 generalize (ρ 18).tR = X
 generalize (ρ 19).tN = Y
 generalize Z3 M E = s
 cases Zx M K
 ·simp only [Bool.false_eq_true, if_false, false_and, ZPW, ZPF]
  repeat' (first | exact trivial | rfl | omega | assumption | apply And.intro | intro _)
  all_goals simp_all
 ·cases s
  ·simp only [if_true, true_and, ZPW, ZPF]
   repeat' (first | exact trivial | rfl | omega | assumption | apply And.intro | intro _)
   all_goals simp_all
  ·simp only [if_true, Bool.true_eq_false, and_false, if_false]
   repeat' (first | exact trivial | rfl | omega | assumption | apply And.intro | intro _)
   all_goals simp_all
theorem ZLh (S : Sig GG) (hS : JtSig S) : ZA S Tryz.prog 55 Zw5 := by
 refine Zg S (C := ZMV) (fuel := 12) (ZU trivial ⟨⟨trivial, trivial, trivial, trivial, trivial, ⟨by decide, ZAU S hS⟩, trivial, ⟨by decide, ZrB S hS⟩, trivial⟩, trivial⟩ trivial) fun ρ => ?_
 rw [ZM2]
 simp only [ZOf, ZI6, ZH9, ZF8, ZDV, ZDW, Zti, ZJY, ZHa, ZGa, ZF6, ZBL, ZyW, ZCc, Zwo, Zzc, hS.u558, hS.u560, hS.u562, hS.u565, ZQ, VC.den, SX.den, Env.upd, ZX, ZE, beq_iff_eq, ZPQ, beq_eq_false_iff_ne, ne_eq, ZPP, ZPO, Int.reduceToNat, Nat.reduceEqDiff, reduceIte, sB, sC]
 generalize (ρ 3).tR = F
 generalize (ρ 5).tR = R
 generalize (ρ 4).tI = v
 generalize (ρ 1).tI = l
 generalize ZO _ = L
 intro h1 h2 h3 h4 h5 h6
 refine ⟨by omega, ZD (by rw [List.take_zero]; exact List.not_mem_nil), fun x hx0 hx1 hx2 => ?_⟩
 obtain ⟨n, rfl⟩ := ZPJ hx0
 have e1 : ((n : Int) + 1).toNat = n + 1 := by omega
 simp only [e1, ZPY] at hx2 ⊢
 have hx2 : ¬ [v] ∈ F.take n := fun h => by rw [ZC h] at hx2; cases hx2
 refine ⟨fun hlt => ?_, fun hge => ⟨?_, trivial⟩⟩
 ·have hn : n < F.length := by omega
  have hgt : F.getD n [] = F[n] := by rw [ZPR, ZPU hn, ZPM]
  have hm : F.getD n [] ∈ F := by rw [hgt]; exact ZQe hn
  obtain ⟨b, hb, hbl⟩ := h4 _ hm
  have e2 : F.take (n + 1) = F.take n ++ [F.getD n []] := by rw [hgt]; exact (List.take_append_getElem hn).symm
  rw [e2, hb]
  have hb0 : ([b] : List Int).getD 0 0 = b := rfl
  rw [hb0]
  have hpos : 0 <= b := by
   obtain ⟨k, hk, rfl⟩ := hbl
   refine h6.2.2 _ ?_
   rw [ZPR, ZPU hk, ZPM]; exact ZQe hk
  have no : ¬ v = b -> Zn ([v] ∈ F.take n ++ [[b]]) = false := fun hne => ZD fun h => by
   rcases List.mem_append.1 h with h | h
   ·exact hx2 h
   ·rw [ZPK] at h; injection h with h; exact hne h
  refine ⟨fun hv => ⟨by omega, hpos, by omega, by omega, by omega, by omega, by omega, no (by omega), trivial⟩, fun hv => ⟨fun he => ⟨by omega, ?_, trivial⟩, fun he => ⟨?_, hbl, by omega, by omega, by omega, by omega, by omega, by omega, no he, trivial⟩⟩⟩
  ·rw [ZC (by rw [he, <- hb]; exact hm), Za.2 (by omega)]
  ·rcases h5 with h | h
   ·omega
   ·exact h
 ·rw [ZP3 (by omega)] at hx2
  rw [ZD hx2]
theorem ZEa {G : Type} {S : Sig G} {P : Program} {f : Nat} {sp sq : Ctr} (hw : sp.wf = true) (h : ZA S P f sp) (hw2 : sq.wf = true) (h2 : ZA S P f sq) : ∀ q ∈ [sp, sq], q.wf = true /\ ZA S P f q := by
 intro q hq
 rcases List.mem_cons.1 hq with rfl | hq
 ·exact ⟨hw, h⟩
 ·rw [ZPK] at hq; subst hq; exact ⟨hw2, h2⟩
theorem ZcM (S : Sig GG) (hS : JtSig S) : YH S ZrY := by
 refine ZL S fun T w0 ρ h hu hp hd hr hpre => ⟨ρ, Ext.refl _ _, ?_⟩
 have hT := hS.of hu hp
 have e1 : hpDen T ρ w0 ZrY.pre = Zd (T.prd 100 w0 ((rA 1).den T ρ) ((gA 2).den T ρ)) emp := rfl
 rw [e1, Zc, hT.p100] at hpre
 have r0 := hr (usB 565 (rA 1) (ai 0) z0) (by simp [ZrY])
 simp only [usB, SX.den, hT.u565, YQ, U.tPi, U.tQi, Zj] at r0
 have hix : ((ixB (rA 1) (ai 0)).den T ρ).tI = (Zc2 ((ai 0).den T ρ).tI ((rA 1).den T ρ).tR : Nat) := by
  simp only [ixB, usI, SX.den, hT.u566, Zp, U.tIi]
 have r0 : Zo7 ((rA 1).den T ρ).tR ((ai 0).den T ρ).tI := r0
 have hlt := YY r0
 have hat := ZbY hlt
 have hl := Za7 hpre
 have hb : ((ai 0).den T ρ).tI = ((nt (rA 1) (ixB (rA 1) (ai 0)) 0).den T ρ).tI := by
  rw [Zhj, hix, ZPY]
  exact hat.symm
 obtain ⟨k1, k2⟩ := ZxA hT ρ w0 (ai 0) (rA 1) (gA 2) (ixB (rA 1) (ai 0)) (by rw [hix]; omega) (by rw [hix]; omega) hb hpre
 refine ⟨k1, fun e he => ?_⟩
 rcases List.mem_cons.1 he with rfl | he
 ·show (ap2 45 ((ai 0).den T ρ) ((nt (rA 1) (ixB (rA 1) (ai 0)) 0).den T ρ)).tP
  rw [p45]; exact hb
 ·rcases List.mem_cons.1 he with rfl | he
  ·rw [ZI, hix]
   have e552 : ((usI 552 (gA 2) z0 z0).den T ρ).tI = ((ZO ((gA 2).den T ρ)).length : Nat) := by
    simp only [usI, SX.den, hT.u552, Zp, U.tIi]
   rw [e552]; omega
  ·exact k2 e he
theorem ZlU {G : Type} (S : Sig G) : YH S ZFD := by
 refine ZL S fun T w0 ρ h hu hp hd hr hpre => ⟨ρ, Ext.refl _ _, ?_, by intro x hx; exact nomatch hx⟩
 have e1 : hpDen T ρ w0 ZFD.pre = emp := rfl
 have e2 : hpDen T ρ w0 ZFD.post = Zd (rAD pE (-1) [] 0) emp := rfl
 rw [e1] at hpre
 rw [e2, Zc, pE, Zci]; exact hpre
theorem ZFA {G : Type} (S : Sig G) : YH S ZK8 := by
 refine ZL S fun T w0 ρ h hu hp hd hr hpre => ⟨ρ, Ext.refl _ _, ?_, by intro x hx; exact nomatch hx⟩
 have e1 : hpDen T ρ w0 ZK8.pre = emp := rfl
 have e2 : hpDen T ρ w0 ZK8.post = Zd (rAD rE (-1) [] 0) emp := rfl
 rw [e1] at hpre
 rw [e2, Zc, rE, Zci]; exact hpre
theorem Zne {T : Sig GG} (hT : JtSig T) (ρ : Go.Eng.Env GG) (w0 : World) (b x : SX) : (bkC b x).den T ρ w0 = ZsX (b.den T ρ).tI (x.den T ρ).tR := by
 have e : (bkC b x).den T ρ w0 = T.prd 103 w0 ((Zu (ZoV b) x).den T ρ) (z0.den T ρ) := rfl
 rw [e, hT.p103]; rfl
theorem ZFH (S : Sig GG) (hS : JtSig S) : YH S ZKY := by
 refine ZL S fun T w0 ρ h hu hp hd hr hpre => ⟨ρ, Ext.refl _ _, ?_, (fun x hx => nomatch hx)⟩
 have hT := hS.of hu hp
 have e1 : hpDen T ρ w0 ZKY.pre = Zd ((hC 0 0).den T ρ w0) emp := rfl
 have e2 : hpDen T ρ w0 ZKY.post = Zd ((hC 0 0).den T ρ w0) (Zd ((bkC (ai 6) xX).den T ρ w0) emp) := rfl
 have r0 := hr (eLt (ai 6) z0) (by simp [ZKY])
 rw [ZI] at r0
 have r0 : ((ai 6).den T ρ).tI < 0 := r0
 rw [e1] at hpre
 rw [e2, Zne hT, ZsX, if_pos r0, Zc]; exact hpre
theorem Zy8 (T : Sig GG) (ρ : Go.Eng.Env GG) (w0 : World) (b ma kb kl kc ob ol oc ft wt : SX) : (Ch.cel b 0 (bkQ ma kb kl kc ob ol oc ft wt)).den T ρ w0 =
  celB (b.den T ρ).tI (ma.den T ρ).tI (kb.den T ρ).tI (kl.den T ρ).tI (kc.den T ρ).tI (ob.den T ρ).tI (ol.den T ρ).tI (oc.den T ρ).tI (ft.den T ρ).tI (wt.den T ρ).tI := by
 simp only [bkQ, Ch.den, ZP0, List.map_nil, sl1, ZcQ, SC.den, reduceCtorEq]
 rfl
theorem Zue (T : Sig GG) (ρ : Go.Eng.Env GG) (w0 : World) (b m : SX) : (imC b m).den T ρ w0 = ZMq (b.den T ρ).tI (m.den T ρ).tM := rfl
theorem ZuI (T : Sig GG) (ρ : Go.Eng.Env GG) (w0 : World) (b x c : SX) : (pAr b x c).den T ρ w0 = rAD (.rows [.ptr]) (b.den T ρ).tI (x.den T ρ).tR (c.den T ρ).tI := rfl
theorem ZL1 (S : Sig GG) (hS : JtSig S) : YH S Ztn := by
 refine ZL S fun T w0 ρ h hu hp hd hr hpre => ⟨ρ, Ext.refl _ _, ?_, (fun x hx => nomatch hx)⟩
 have hT := hS.of hu hp
 have e1 : hpDen T ρ w0 Ztn.pre = Zd ((hC 0 0).den T ρ w0) (Zd ((Ch.cel (ai 6) 0 (bkQ (ai 7) (ai 8) (ai 9) (ai 10) (ai 11) (ai 12) (ai 13) (ai 14) (ai 15))).den T ρ w0) (Zd ((imC (ai 7) (mA 18)).den T ρ w0) (Zd ((pAr (ai 8) (rA 19) (ai 10)).den T ρ w0)
  (Zd ((rAr (ai 11) (rA 20) (ai 13)).den T ρ w0) (Zd (T.prd 100 w0 ((rA 16).den T ρ) ((gA 17).den T ρ)) emp))))) := rfl
 have e2 : hpDen T ρ w0 Ztn.post = Zd ((hC 0 0).den T ρ w0) (Zd ((bkC (ai 6) xX).den T ρ w0) emp) := rfl
 have r0 := hr (eLe z0 (ai 6)) (by simp [Ztn])
 have r1 := hr (eqS (gA 17) (usG 561 xX (Zh xX) z0)) (by simp [Ztn])
 have r2 := hr (eqS (mA 18) (.us .amap 547 (rA 16) (gA 17) z0 z0)) (by simp [Ztn])
 have r3 := hr (eqS (rA 19) (usR 548 xX (Zh xX) (rA 16))) (by simp [Ztn])
 have r4 := hr (eqS (rA 20) (usR 549 xX (Zh xX) z0)) (by simp [Ztn])
 have r5 := hr (.f2 45 (ai 9) (Zh (rA 19))) (by simp [Ztn])
 have r6 := hr (.f2 45 (ai 12) (Zh (rA 20))) (by simp [Ztn])
 have r7 := hr (.f2 45 (ai 14) (usI 550 xX (Zh xX) z0)) (by simp [Ztn])
 have r8 := hr (.f2 45 (ai 15) (usI 551 xX (Zh xX) z0)) (by simp [Ztn])
 rw [Ze] at r0
 have hX : (xX.den T ρ).tR = ((rA 4).den T ρ).tR.take (ρ 2).tI.toNat := rfl
 have hL : ((Zh xX).den T ρ).tI.toNat = (xX.den T ρ).tR.length := by
  show ((((xX.den T ρ).tR.length : Nat) : Int)).toNat = _
  omega
 have w1 : ((usG 561 xX (Zh xX) z0).den T ρ) = .g (.tx (Z7 (xX.den T ρ).tR (xX.den T ρ).tR.length).txs) := by
  have : ((usG 561 xX (Zh xX) z0).den T ρ) = U.co T .g (T.usr 561 (xX.den T ρ) ((Zh xX).den T ρ) (z0.den T ρ) (z0.den T ρ)) := rfl
  rw [this, hT.u561, hL]; rfl
 have w2 : (Go.Eng.SX.us .amap 547 (rA 16) (gA 17) z0 z0).den T ρ = .amap (ZeQ ((rA 16).den T ρ).tR (ZO ((gA 17).den T ρ))) := by
  have : (Go.Eng.SX.us .amap 547 (rA 16) (gA 17) z0 z0).den T ρ = U.co T .amap (T.usr 547 ((rA 16).den T ρ) ((gA 17).den T ρ) (z0.den T ρ) (z0.den T ρ)) := rfl
  rw [this, hT.u547]; rfl
 have w3 : (usR 548 xX (Zh xX) (rA 16)).den T ρ = .rows (Zbk ((rA 16).den T ρ).tR (Z7 (xX.den T ρ).tR (xX.den T ρ).tR.length).kept) := by
  have : (usR 548 xX (Zh xX) (rA 16)).den T ρ = U.co T .rows (T.usr 548 (xX.den T ρ) ((Zh xX).den T ρ) ((rA 16).den T ρ) (z0.den T ρ)) := rfl
  rw [this, hT.u548, hL]; rfl
 have w4 : (usR 549 xX (Zh xX) z0).den T ρ = .rows (Z7 (xX.den T ρ).tR (xX.den T ρ).tR.length).out := by
  have : (usR 549 xX (Zh xX) z0).den T ρ = U.co T .rows (T.usr 549 (xX.den T ρ) ((Zh xX).den T ρ) (z0.den T ρ) (z0.den T ρ)) := rfl
  rw [this, hT.u549, hL]; rfl
 have w7 : (usI 550 xX (Zh xX) z0).den T ρ = .int (Z7 (xX.den T ρ).tR (xX.den T ρ).tR.length).fault := by
  have : (usI 550 xX (Zh xX) z0).den T ρ = U.co T .int (T.usr 550 (xX.den T ρ) ((Zh xX).den T ρ) (z0.den T ρ) (z0.den T ρ)) := rfl
  rw [this, hT.u550, hL]; rfl
 have w8 : (usI 551 xX (Zh xX) z0).den T ρ = .int (Z7 (xX.den T ρ).tR (xX.den T ρ).tR.length).what := by
  have : (usI 551 xX (Zh xX) z0).den T ρ = U.co T .int (T.usr 551 (xX.den T ρ) ((Zh xX).den T ρ) (z0.den T ρ) (z0.den T ρ)) := rfl
  rw [this, hT.u551, hL]; rfl
 have p155' : ∀ a b : SX, ((eqS a b).den T ρ).tP = (a.den T ρ = b.den T ρ) := fun a b => ZCF (a.den T ρ) (b.den T ρ)
 have p45' : ∀ a b : SX, ((Go.Eng.SX.f2 45 a b).den T ρ).tP = ((a.den T ρ).tI = (b.den T ρ).tI) := fun a b => p45 (a.den T ρ) (b.den T ρ)
 rw [p155', w1] at r1
 rw [p155', w2, r1] at r2
 rw [p155', w3] at r3
 rw [p155', w4] at r4
 rw [p45'] at r5 r6
 rw [p45', w7] at r7
 rw [p45', w8] at r8
 have q5 : ((ai 9).den T ρ).tI = ((((rA 19).den T ρ).tR.length : Nat) : Int) := r5
 have q6 : ((ai 12).den T ρ).tI = ((((rA 20).den T ρ).tR.length : Nat) : Int) := r6
 rw [e1, Zy8, Zue, ZuI, ZjX, Zc, hT.p100, q5, q6, r1, r2, r3, r4, r7, r8] at hpre
 simp only [U.tRi, U.tMi, U.tIi, ZQ] at hpre
 rw [e2, Zne hT, ZsX, if_neg (by have : 0 <= ((ai 6).den T ρ).tI := r0; omega), Zc]
 refine Zta hpre fun h' hh => ⟨((ai 7).den T ρ).tI, ((ai 8).den T ρ).tI, ((ai 10).den T ρ).tI, ((ai 11).den T ρ).tI, ((ai 13).den T ρ).tI, ((rA 16).den T ρ).tR, ?_⟩
 have hk : ∀ (R : List (List Int)) (ks : List Nat), (Zbk R ks).length = ks.length := fun R ks => by unfold Zbk; rw [ZP1]
 rw [hk] at hh
 exact hh
end
end Go.Proofs.YtidlngnhjffepaaGreat
