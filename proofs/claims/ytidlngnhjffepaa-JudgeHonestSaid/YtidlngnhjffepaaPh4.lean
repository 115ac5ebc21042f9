/- Part of a proof. -/
import Derived.Test.YtidlngnhjffepaaPh3
import Derived.ChangeSame
import Derived.Test.YtidlngnhjffepaaProg
import Derived.KernelRfl
set_option linter.unusedSimpArgs false
set_option linter.unusedVariables false
set_option maxRecDepth 20000
namespace Go.Eng
noncomputable section
abbrev LB := List (Nat × Int)
def LB.get : LB -> Nat -> Option Int
 | [], _ => none
 | (j, l) :: r, i => bif Nat.beq j i then some l else LB.get r i
mutual
def ZCI (lo hi : LB) : SX -> Option Int
 | .int n => some n
 | .at s i => (match s with | .int => LB.get lo i | _ => none)
 | .f1 f _ => (match f with | 30 | 31 | 32 | 33 => some 0 | _ => none)
 | .f2 f a b => (match f with
  | 40 => (match ZCI lo hi a, ZCI lo hi b with | some x, some y => some (x + y) | _, _ => none)
  | 41 => (match ZCI lo hi a, ZCM lo hi b with | some x, some y => some (x - y) | _, _ => none)
  | 111 => some 0
  | _ => none)
 | _ => none
def ZCM (lo hi : LB) : SX -> Option Int
 | .int n => some n
 | .at s i => (match s with | .int => (match LB.get hi i with | some x => some (-x) | none => none) | _ => none)
 | .f2 f a b => (match f with
  | 40 => (match ZCM lo hi a, ZCM lo hi b with | some x, some y => some (x + y) | _, _ => none)
  | 41 => (match ZCM lo hi a, ZCI lo hi b with | some x, some y => some (x - y) | _, _ => none)
  | 111 => some 255
  | _ => none)
 | _ => none
end
def LB.put (i : Nat) (c : Int) : LB -> LB
 | [] => [(i, c)]
 | (j, l) :: r => bif Nat.beq j i then (j, max l c) :: r else bif Nat.blt j i then (i, c) :: (j, l) :: r else (j, l) :: LB.put i c r
def ZxD (lo : LB) (e : SX) : LB :=
 match e with
 | .f2 f (.int c) (.at .int i) => (match f with | 47 => LB.put i c lo | 46 => LB.put i (c + 1) lo | _ => lo)
 | _ => lo
def ZvI (hi : LB) (e : SX) : LB :=
 match e with
 | .f2 f (.at .int i) (.int c) => (match f with | 47 => LB.put i (-c) hi | 46 => LB.put i (-(c - 1)) hi | _ => hi)
 | _ => hi
def ZIk : SX -> SX -> Bool
 | .f2 f x (.f2 g y (.int (.ofNat (_ + 1)))), .f2 f' x' y' => bif (bif Nat.beq f 41 then (bif Nat.beq g 40 then Nat.beq f' 41 else false) else false) then (bif SX.bq x x' then SX.bq y y' else false) else false
 | _, _ => false
def ZLk (lo hi : LB) : SX -> Bool
 | .bool b => b
 | .f1 f x => (match f with
  | 23 => (match ZCI lo hi x, ZCM lo hi x with | some l, some u => bif decide (-9223372036854775808 <= l) then decide (u <= 9223372036854775807) else false | _, _ => false)
  | _ => false)
 | .f2 f a b => (match f with
  | 47 => (match ZCM lo hi a, ZCI lo hi b with | some u, some l => decide (u <= l) | _, _ => false)
  | 46 => bif ZIk a b then true else (match ZCM lo hi a, ZCI lo hi b with | some u, some l => decide (u < l) | _, _ => false)
  | _ => false)
 | _ => false
def allB (c : Int) : List UInt8 -> Bool
 | [] => true
 | x :: l => bif ibq (.ofNat x.toNat) c then allB c l else false
def ZGo (lo hi : LB) : SX -> Bool
 | .bool b => !b
 | .f1 f x => (match f, x with
  | 2, .f2 45 (.f2 111 (.byt l) i) (.int c) => (match ZCI lo hi i, ZCM lo hi i with
   | some (.ofNat a), some (.ofNat b) => bif Nat.blt b l.length then allB c ((l.drop a).take (b + 1 - a)) else false
   | _, _ => false)
  | _, _ => false)
 | .f2 f a b => (match f with
  | 47 => (match ZCI lo hi a, ZCM lo hi b with | some l, some u => decide (u < l) | _, _ => false)
  | 46 => (match ZCI lo hi a, ZCM lo hi b with | some l, some u => decide (u <= l) | _, _ => false)
  | _ => false)
 | _ => false
def LB.below (n : Nat) : LB -> LB
 | [] => []
 | (j, l) :: r => bif Nat.blt j n then (j, l) :: r else LB.below n r
def VC.chk : LB -> LB -> VC -> Bool
 | _, _, .tt => true
 | _, _, .ff _ => false
 | lo, hi, .and a b => bif VC.chk lo hi a then VC.chk lo hi b else false
 | lo, hi, .imp e a => bif ZGo lo hi e then true else VC.chk (ZxD lo e) (ZvI hi e) a
 | lo, hi, .need e a => bif ZLk lo hi e then VC.chk (ZxD lo e) (ZvI hi e) a else false
 | lo, hi, .all n _ a => VC.chk (LB.below n lo) (LB.below n hi) a
section
variable {G : Type} (S : Sig G)
end
end
end Go.Eng
namespace Go.Eng
noncomputable section
section
variable {G : Type}
theorem p155 (a b : U G) : (ap2 155 a b).tP = (a = b) := by
 show (@decide (a = b) (Classical.propDecidable _) = true) = _
 exact propext ⟨fun h => @of_decide_eq_true _ (Classical.propDecidable _) h, fun h => @decide_eq_true _ (Classical.propDecidable _) h⟩
theorem ZLN (a : U G) : ap1 2 a = .bool (!a.toBool) := rfl
theorem ZNx (a : U G) : ap1 23 a = .bool (decide (IntKind.min .i64 <= a.tI) && decide (a.tI <= IntKind.max .i64)) := rfl
theorem ZmF (a : U G) : ap1 30 a = .int a.tN.length := rfl
theorem ZFy (a : U G) : ap1 31 a = .int a.tB.length := rfl
theorem Y5 (a : U G) : ap1 32 a = .int a.tR.length := rfl
theorem ZMm (a : U G) : ap1 33 a = .int a.tM.length := rfl
theorem ZF7 (a : U G) : ap1 152 a = .ints [] := rfl
theorem ZHm (a : U G) : ap1 153 a = .bytes [] := rfl
theorem ZH5 (a : U G) : ap1 154 a = .rows [] := rfl
theorem ZJy (a : U G) : ap1 155 a = .amap [] := rfl
theorem ZM0 (a : U G) : ap1 35 a = .int (Zj a.tB : Nat) := rfl
theorem ZNl (a : U G) : ap1 36 a = .bytes (Yp a.tI.toNat) := rfl
theorem ZE3 (a b : U G) : ap2 40 a b = .int (a.tI + b.tI) := rfl
theorem ZNr (a b : U G) : ap2 41 a b = .int (a.tI - b.tI) := rfl
theorem ZMK (a b : U G) : ap2 42 a b = .int (a.tI * b.tI) := rfl
theorem ZLf (a b : U G) : ap2 43 a b = .int (a.tI.tdiv b.tI) := rfl
theorem ZNz (a b : U G) : ap2 44 a b = .int (a.tI.tmod b.tI) := rfl
theorem ZrZ (a b : U G) : ap2 45 a b = .bool (a.tI == b.tI) := rfl
theorem ZKW (a b : U G) : ap2 48 a b = .bool (a.toBool == b.toBool) := rfl
theorem ZKu (a b : U G) : ap2 49 a b = .bool (a.toBool && b.toBool) := rfl
theorem ZK2 (a b : U G) : ap2 50 a b = .bool (a.toBool || b.toBool) := rfl
theorem ZIN (a b : U G) : ap2 110 a b = .int (a.tN.getD b.tI.toNat 0) := rfl
theorem ZFC (a b : U G) : ap2 111 a b = .int ((a.tB.getD b.tI.toNat 0).toNat : Nat) := rfl
theorem ZFM (a b : U G) : ap2 113 a b = .ints (a.tN.take b.tI.toNat) := rfl
theorem ZIf (a b : U G) : ap2 114 a b = .bytes (a.tB.take b.tI.toNat) := rfl
theorem ZGU (a b : U G) : ap2 115 a b = .rows (a.tR.take b.tI.toNat) := rfl
theorem ZHs (a b : U G) : ap2 117 a b = .bytes (a.tB.drop b.tI.toNat) := rfl
theorem ZGG (a b : U G) : ap2 118 a b = .rows (a.tR.drop b.tI.toNat) := rfl
theorem ZFE (a b : U G) : ap2 120 a b = .bytes (a.tB ++ b.tB) := rfl
theorem ZF5 (a b : U G) : ap2 121 a b = .rows (a.tR ++ b.tR) := rfl
theorem ZIx (a b : U G) : ap2 122 a b = .ints (a.tI :: b.tN) := rfl
theorem ZH7 (a b : U G) : ap2 123 a b = .bytes (UInt8.ofNat a.tI.toNat :: b.tB) := rfl
theorem ZHH (a b : U G) : ap2 124 a b = .rows (a.tN :: b.tR) := rfl
theorem ZJA (a b : U G) : ap2 126 a b = .bytes (List.replicate a.tI.toNat (UInt8.ofNat b.tI.toNat)) := rfl
theorem ZHr (a b : U G) : ap2 141 a b = .bool (Zv a.tM b.tI) := rfl
theorem ZJi (a b : U G) : ap2 143 a b = .amap (Zak a.tM b.tI) := rfl
theorem ZGa (a b : U G) : ap2 150 a b = .bool (a.tB == b.tB) := rfl
theorem ZFK (a b : U G) : ap2 153 a b = .bool (a.tN == b.tN) := rfl
theorem ZxH (a b c : U G) : ap3 112 a b c = .int ((a.tR.getD b.tI.toNat []).getD c.tI.toNat 0) := rfl
theorem ZIq (a b c : U G) : ap3 131 a b c = .bytes (a.tB.set b.tI.toNat (UInt8.ofNat c.tI.toNat)) := rfl
theorem ZGk (a b c : U G) : ap3 132 a b c = .rows (a.tR.set b.tI.toNat c.tN) := rfl
theorem ZGL (a b c : U G) : ap3 140 a b c = .int (YQ a.tI b.tM c.tI) := rfl
theorem ZI6 (a b c : U G) : ap3 142 a b c = .amap (YL a.tM b.tI c.tI) := rfl
def imin (x y : Int) : Int := if y < x then y else x
def imax (x y : Int) : Int := if y > x then y else x
theorem ZJm {G : Type} (a b : U G) : ap2 51 a b = .int (imin a.tI b.tI) := rfl
theorem ZH8 {G : Type} (a b : U G) : ap2 52 a b = .int (imax a.tI b.tI) := rfl
def leB (x y : Int) : Bool := decide (x <= y)
def ltB (x y : Int) : Bool := decide (x < y)
theorem t47 {G : Type} (a b : U G) : (ap2 47 a b).toBool = leB a.tI b.tI := rfl
theorem t46 {G : Type} (a b : U G) : (ap2 46 a b).toBool = ltB a.tI b.tI := rfl
theorem Za {x y : Int} : leB x y = true ↔ x <= y := by unfold leB; simp
theorem Zoy {x y : Int} : ltB x y = true ↔ x < y := by unfold ltB; simp
theorem Zgo {p : Prop} {i : Decidable p} : (@decide p i = true) = p := propext ⟨fun h => of_decide_eq_true h, fun h => decide_eq_true h⟩
theorem p45 {G : Type} (a b : U G) : (ap2 45 a b).tP = (a.tI = b.tI) := by simp [ZrZ]
theorem p153 {G : Type} (a b : U G) : (ap2 153 a b).tP = (a.tN = b.tN) := by simp [ZFK]
theorem p46 {G : Type} (a b : U G) : (ap2 46 a b).tP = (a.tI < b.tI) := Zgo
theorem p47 {G : Type} (a b : U G) : (ap2 47 a b).tP = (a.tI <= b.tI) := Zgo
theorem ZGe {G : Type} (a b : U G) : (ap1 2 (ap2 45 a b)).tP = ¬ (a.tI = b.tI) := by simp [ZLN, ZrZ]
theorem p50 {G : Type} (a b : U G) : (ap2 50 a b).tP = (a.toBool = true \/ b.toBool = true) := by simp [ZK2]
theorem b46 {G : Type} (a b : U G) : ((ap2 46 a b).toBool = true) = (a.tI < b.tI) := p46 a b
theorem b47 {G : Type} (a b : U G) : ((ap2 47 a b).toBool = true) = (a.tI <= b.tI) := p47 a b
theorem p23 {G : Type} (a : U G) : (ap1 23 a).tP = (IntKind.min .i64 <= a.tI /\ a.tI <= IntKind.max .i64) := by
 rw [ZNx, U.tPi, Bool.and_eq_true, Zgo, Zgo]
end
/-! ### Bits of words without sign, and the check sum -/
end
end Go.Eng
namespace Go.Eng
noncomputable section
open Go.RowKit (Below)
open Go.ChangeShapes Go.WideShapes
theorem ZjG {H : Type} {enc : TypeId × Value -> H} {P : Program} {f : Func} {s : ChangeSpec} {apart ZbT handsOn again : Bool} {W W' : World} {args : Array Value} {v : Value} {ds gs : List (DataW H)} {before pa pv : List MemPlace}
  (hW : DataW.Whole enc P f.params.toList s.vars apart W args.toList ds gs before)
  (hres : ∀ (b : Nat) (sp : Nat -> Bool) (hd : Bool), DataW.TrodAll enc P W' b sp hd f.resultTypes.toList (v.resultList f.resultTypes.size) (s.fn H (ds ++ gs)).results [])
  (hargs : ∀ sp : Nat -> Bool, (∀ p ∈ before, sp p.block = true) -> DataW.TrodAll enc P W' 0 sp true f.params.toList args.toList (s.fn H (ds ++ gs)).args pa)
  (hvars : ∀ sp : Nat -> Bool, (∀ p ∈ before, sp p.block = true) -> DataW.TrodVars enc P W' sp s.vars (s.fn H (ds ++ gs)).vars pv)
  (hps : before = pa ++ pv) (hb : Below W.heap.size W W')
  (hok : ∀ (j : Nat) (t : TypeId) (r : Value), f.resultTypes[j]? = some t -> (v.resultList f.resultTypes.size)[j]? = some r -> Value.okWide P W' .any 0 t r) :
  s.post enc P f apart ZbT handsOn again W args v W' := by
 have hlt := fun p (hp : p ∈ before) => hW.lt p hp
 have hold : ∀ p ∈ before, (fun b => decide (b < W.heap.size)) p.block = true := fun p hp => by simpa using hlt p hp
 refine ⟨ds, gs, before, [], pa, pv, hW, hres _ _ _, hargs _ hold, hvars _ hold, World.keptBut_mono (fun p hp => ⟨hp, ?_⟩) (hb.frame (· ∈ before)), fun _ => ?_⟩
 ·rw [hps, ZOe] at hp; exact Or.inr hp
 ·obtain ⟨_, _, _, _, _, hz, hn⟩ := hW
  refine ⟨hok, _, _, ([] ++ pa) ++ pv, ⟨[] ++ pa, pv, trodAll_append (hargs _ (fun _ _ => rfl)) (hres _ _ _), hvars _ (fun _ _ => rfl), rfl, fun b off hp => ?_, fun ha => ?_⟩, fun p hp _ => ?_⟩
  ·have hp' : MemPlace.cell b off ∈ before := by rw [hps]; simpa using hp
   have h1 := hlt _ hp'
   rw [hb.frozen (p := ⟨b, off, none⟩) h1]
   exact hz b off hp'
  ·have := hn ha
   rw [hps] at this
   simpa using this
  ·rw [hps]; simpa using hp
theorem ZsI (w : World) : Sat w (Zc emp emp) w := by
 rw [emp_star]
 exact ⟨Hl.none, rfl, ⟨fun _ _ _ _ h => (by cases h), fun _ _ _ h => (by cases h), Below.refl _ _⟩⟩
end
end Go.Eng
namespace Go.Proofs.Ytidlngnhjffepaa
noncomputable section
open Go.Eng
def ai (n : Nat) : SX := .at .int n
def di (n : Nat) : SX := .at .int (1000000 + n)
def rA (n : Nat) : SX := .at .rows n
def iA (n : Nat) : SX := .at .ints n
def gA (n : Nat) : SX := .at .g n
def bA (n : Nat) : SX := .at .bytes n
def mA (n : Nat) : SX := .at .amap n
def qA (n : Nat) : SX := .at .bool n
def z0 : SX := .int 0
def ZNy : SX := .f1 152 (.int 0)
def Zfu : SX := .f1 154 (.int 0)
def tk (x n : SX) : SX := .f2 115 x n
def Zg (x : SX) : SX := .f1 32 x
def ZbW (x : SX) : SX := .f1 30 x
def ZBg (x : SX) : SX := .f1 31 x
def eqS (a b : SX) : SX := .f2 155 a b
def usI (k : Nat) (a b c : SX) : SX := .us .int k a b c (.int 0)
def usB (k : Nat) (a b c : SX) : SX := .us .bool k a b c (.int 0)
def usR (k : Nat) (a b c : SX) : SX := .us .rows k a b c (.int 0)
def usN (k : Nat) (a b c : SX) : SX := .us .ints k a b c (.int 0)
def usG (k : Nat) (a b c : SX) : SX := .us .g k a b c (.int 0)
def ZJO (a : SX) : SX := SX.mk2 40 a (.int 1)
def Zae (a b : SX) : SX := .f2 124 a b
def ZtA (n : SX) : SX := .f2 122 n ZNy
def Zb7 (a b : SX) : SX := .f2 122 a (.f2 122 b ZNy)
def ints3 (a b c : SX) : SX := .f2 122 a (Zb7 b c)
def Zmo (a b c d : SX) : SX := .f2 122 a (ints3 b c d)
def ints5 (a b c d e : SX) : SX := .f2 122 a (Zmo b c d e)
def Zbm (a b c d e f : SX) : SX := .f2 122 a (ints5 b c d e f)
def nt (x i : SX) (k : Nat) : SX := .f3 112 x i (.int (k : Nat))
def slC (b n c : SX) (s : Nat) : SC := .slice b z0 z0 z0 n c s
def sl1 (b n c : SX) : SC := slC b n c 1
def iE : En := .ints .i64
def iAr (b x c : SX) : Ch := .arr iE b x c
def bAr (b x c : SX) : Ch := .arr .bytes b x c
def g0 (r : List Int) : Int := r.getD 0 0
def g1 (r : List Int) : Int := r.getD 1 0
def g2 (r : List Int) : Int := r.getD 2 0
def slV (b n c : Int) : Value := .slice (if b < 0 then none else some ⟨b.toNat, 0, none⟩) n.toNat c.toNat
def Zp (p : Prop) : Bool := @decide p (Classical.propDecidable p)
theorem Zi {p : Prop} : (Zp p = true) = p := propext ⟨fun h => @of_decide_eq_true p (Classical.propDecidable p) h, fun h => @decide_eq_true p (Classical.propDecidable p) h⟩
def sig0 : Sig Unit := { dg := (), ch := fun _ => true, usr := fun _ _ _ _ _ => .int 0, prd := fun _ _ _ _ => emp }
def bAD (b : Int) (x : List UInt8) (c : Int) : HProp := YU sig0 .bytes (.int b) (.bytes x) (.int c)
def iAD (b : Int) (x : List Int) (c : Int) : HProp := YU sig0 iE (.int b) (.ints x) (.int c)
def rAD (e : En) (b : Int) (x : List (List Int)) (c : Int) : HProp := YU sig0 e (.int b) (.rows x) (.int c)
section
variable {G : Type}
theorem Zds (S : Sig G) (ρ : Go.Eng.Env G) (b n c : SX) (s : Nat) : (slC b n c s).den S ρ = slV (b.den S ρ).tI (n.den S ρ).tI (c.den S ρ).tI := by
 simp [slC, SC.den, slV, z0, SX.den]
theorem Z4 (S : Sig G) (u : U G) : U.co S .int u = .int u.tI := rfl
theorem Yw (S : Sig G) (u : U G) : U.co S .bool u = .bool u.toBool := rfl
theorem ZkX (S : Sig G) (u : U G) : U.co S .ints u = .ints u.tN := rfl
theorem YJ (S : Sig G) (u : U G) : U.co S .rows u = .rows u.tR := rfl
theorem Zsa (S : Sig G) (u : U G) : U.co S .bytes u = .bytes u.tB := rfl
theorem Zmf (S : Sig G) (u : U G) : U.co S .amap u = .amap u.tM := rfl
theorem ZLU (S : Sig G) (x : G) : U.co S .g (.g x) = .g x := rfl
theorem i64lo : IntKind.min .i64 = -9223372036854775808 := rfl
theorem i64hi : IntKind.max .i64 = 9223372036854775807 := rfl
theorem ZwX (c d : Bool) : ((ap2 48 (.bool c) (.bool d)) : U G).tP = (c = d) := by
 apply propext
 simp only [ap2, U.tP, U.toBool, beq_iff_eq]
end
theorem Zdt {α : Type} {R : List α} {d : α} {n j : Nat} (h : j < n) : (R.take n).getD j d = R.getD j d := by
 rw [ZNT, ZNT, List.getElem?_take_of_lt h]
theorem Ys {G : Type} (S : Sig G) {sp : Ctr} (H : ∀ (T : Sig G) (w0 : World) (ρ : Go.Eng.Env G) (h : Hl), T.usr = S.usr -> T.prd = S.prd -> T.dg = S.dg -> (∀ e ∈ sp.reqs, (e.den T ρ).tP) -> hpDen T ρ w0 sp.pre h →
  ∃ ρ', Ext sp.ss.length ρ ρ' /\ hpDen T ρ' w0 sp.post h /\ ∀ x ∈ sp.facts, (x.den T ρ').tP) : Zbp S sp := by
 intro ch w0 F ρ w hr hs
 obtain ⟨x, ⟨a, b, d, rfl, ha, hb⟩, hi⟩ := hs
 have e : ∀ (e : SX) ρ, e.den (S.wc ch) ρ = e.den S ρ := fun e ρ => SX.den_wc S ρ ch e
 obtain ⟨ρ', h1, h2, h3⟩ := H (S.wc ch) w0 ρ a rfl rfl rfl (fun q hq => by rw [e]; exact hr q hq) ha
 exact ⟨ρ', h1, ⟨_, ⟨a, b, d, rfl, h2, hb⟩, hi⟩, fun q hq => by rw [<- e]; exact h3 q hq⟩
theorem ZjU {G : Type} {S : Sig G} {e : En} {b x c : U G} {h : Hl} (hd : YU S e b x c h) : (e.vals x).length <= c.tI.toNat * e.stride /\ 0 <= c.tI := by
 obtain ⟨sp, h1, h2, _⟩ := hd; exact ⟨by omega, h2⟩
theorem ZEx {G : Type} (fs : List Go.Eng.Fd) (x : List (List Int)) : ((En.rows fs).vals (.rows x : U G)).length = x.length * fs.length := by
 simp only [En.vals, U.tRi]
 induction x with
 | nil => simp
 | cons r x ih => rw [List.flatMap_cons, ZNY, ih, Z8, ZOd, Nat.add_mul]; omega
theorem ZfX {fs : List Go.Eng.Fd} (hf : 0 < fs.length) {b c : Int} {x : List (List Int)} {h : Hl} (hd : rAD (.rows fs) b x c h) : (x.length : Int) <= c := by
 obtain ⟨h1, h2⟩ := ZjU hd
 rw [ZEx] at h1
 have : x.length <= c.toNat := Nat.le_of_mul_le_mul_right h1 hf
 have h2 : 0 <= c := h2
 omega
theorem ZMQ {b c : Int} {x : List Int} {h : Hl} (hd : iAD b x c h) : (x.length : Int) <= c := by
 obtain ⟨h1, h2⟩ := ZjU hd
 have e1 : (iE.vals (.ints x : U Unit)).length = x.length := by simp [iE, En.vals]
 have e2 : iE.stride = 1 := rfl
 rw [e1, e2] at h1
 have h2 : 0 <= c := h2
 have h1 : x.length <= c.toNat * 1 := h1
 omega
theorem Ze6 (fs : List Go.Eng.Fd) : rAD (.rows fs) (-1) [] 0 = emp := by
 funext h
 have e0 : (En.rows fs).vals (.rows [] : U Unit) = [] := rfl
 refine propext ⟨fun hx => ?_, fun hx => ⟨[], by rw [e0]; simp, ZN4 0, .inr rfl, by rw [e0]; show row _ 0 [] true h; rw [Ze9]; exact hx⟩⟩
 obtain ⟨sp, l1, _, _, l4⟩ := hx
 have : sp = [] := ZN8 (by rw [e0] at l1; simpa using l1)
 subst this
 rw [e0] at l4
 have l4 : row _ 0 [] true h := l4
 rw [Ze9] at l4
 exact l4
theorem ZqM : iAD (-1) [] 0 = emp := by
 funext h
 refine propext ⟨fun hx => ?_, fun hx => ⟨[], rfl, ZN4 0, .inr rfl, by show row _ 0 [] true h; rw [Ze9]; exact hx⟩⟩
 obtain ⟨sp, l1, _, _, l4⟩ := hx
 have : sp = [] := ZN8 (by have : (iE.vals (.ints [] : U Unit)).length = 0 := rfl; rw [this] at l1; simpa using l1)
 subst this
 have l4 : row _ 0 [] true h := l4
 rw [Ze9] at l4
 exact l4
theorem ZuU {A B B' : HProp} {h : Hl} (hs : Zc A B h) (f : ∀ h, B h -> B' h) : Zc A B' h := Zq (fun _ x => x) f h hs
theorem ZeJ {A B : HProp} {h : Hl} (hs : Zc A B h) : ∃ a b, A a /\ B b := let ⟨a, b, _, _, x, y⟩ := hs; ⟨a, b, x, y⟩
theorem Zgz {α : Type} {k : List α} {d : α} {i : Nat} (hi : i < k.length) : k = k.take i ++ ([k.getD i d] ++ k.drop (i + 1)) := by
 rw [List.singleton_append, ZNT, ZNW hi, ZNO, <- List.drop_eq_getElem_cons hi, List.take_append_drop]
def ZEC : Ctr := ⟨[], [], [], [], [], .tup [], [iAr (.int (-1)) ZNy z0], []⟩
theorem ZjS {G : Type} (S : Sig G) : Zbp S ZEC := by
 refine Ys S fun T w0 ρ h hu hp hd hr hpre => ⟨ρ, Ext.refl _ _, ?_, by intro x hx; exact nomatch hx⟩
 have e1 : hpDen T ρ w0 ZEC.pre = emp := rfl
 have e2 : hpDen T ρ w0 ZEC.post = Zc (iAD (-1) [] 0) emp := rfl
 rw [e1] at hpre
 rw [e2, Zd, ZqM]; exact hpre
/-! ### What the run is told, piece by piece -/
section
variable {G : Type} (S : Sig G) (P : Program)
def Zlx : List (Nat × List Ctr) -> Prop
 | [] => True
 | p :: l => (∀ sp ∈ p.2, sp.wf = true /\ ZR S P p.1 sp) /\ Zlx l
def ZsR : List (Nat × List Ctr) -> Prop
 | [] => True
 | p :: l => (∀ sp ∈ p.2, sp.wf = true /\ ZoD S P p.1 sp) /\ ZsR l
def AnnOk : Ann -> Prop
 | .ghost sp _ => sp.wf = true /\ Zbp S sp
 | .inv _ => True
 | .split _ => True
 | .iff _ => True
 | .cut _ _ _ _ => True
def Zz6 : List (Nat × Ann) -> Prop
 | [] => True
 | p :: l => AnnOk S p.2 /\ Zz6 l
def Ztc : List (Nat × List (Nat × Ann)) -> Prop
 | [] => True
 | p :: l => Zz6 S p.2 /\ Ztc l
variable {S} {P}
theorem Zlx.get {f : Nat} {sps : List Ctr} : ∀ {l : List (Nat × List Ctr)}, Zlx S P l -> Zcp l f = some sps -> ∀ sp ∈ sps, sp.wf = true /\ ZR S P f sp
 | [], _, h => by cases h
 | (i, a) :: l, h1, h => by
  unfold Zcp at h
  cases hb : Nat.beq i f
  ·rw [hb] at h; exact h1.2.get h
  ·rw [hb] at h; cases h; rw [<- ZNU hb]; exact h1.1
theorem ZsR.get {f : Nat} {sps : List Ctr} : ∀ {l : List (Nat × List Ctr)}, ZsR S P l -> Zcp l f = some sps -> ∀ sp ∈ sps, sp.wf = true /\ ZoD S P f sp
 | [], _, h => by cases h
 | (i, a) :: l, h1, h => by
  unfold Zcp at h
  cases hb : Nat.beq i f
  ·rw [hb] at h; exact h1.2.get h
  ·rw [hb] at h; cases h; rw [<- ZNU hb]; exact h1.1
theorem Zz6.get {i : Nat} {sp : Ctr} {args : List Operand} : ∀ {l : List (Nat × Ann)}, Zz6 S l -> (i, Ann.ghost sp args) ∈ l -> sp.wf = true /\ Zbp S sp
 | [], _, h => by cases h
 | p :: l, h1, h => by
  rcases List.mem_cons.1 h with rfl | h
  ·exact h1.1
  ·exact h1.2.get h
theorem Ztc.get {f : Nat} {al : List (Nat × Ann)} : ∀ {l : List (Nat × List (Nat × Ann))}, Ztc S l -> Zcp l f = some al -> Zz6 S al
 | [], _, h => by cases h
 | (i, a) :: l, h1, h => by
  unfold Zcp at h
  cases hb : Nat.beq i f
  ·rw [hb] at h; exact h1.2.get h
  ·rw [hb] at h; cases h; exact h1.1
theorem YV {C : Cx} (h1 : Zlx S P C.specs) (h2 : Ztc S C.anns) (h3 : ZsR S P C.exts) : Zvi S P C :=
 ⟨fun f sps h => h1.get h, fun f l h i sp args hm => (h2.get h).get hm, fun f sps h => h3.get h⟩
theorem Zm {f : Nat} {sp : Ctr} (hw : sp.wf = true) (h : ZR S P f sp) : ∀ q ∈ [sp], q.wf = true /\ ZR S P f q := by
 intro q hq; rw [ZNM] at hq; subst hq; exact ⟨hw, h⟩
end
open Go.Eng
abbrev z : SX := .int 0
abbrev k (n : Int) : SX := .int n
abbrev e (a b : SX) : SX := .f2 45 a b
abbrev t (a b : SX) : SX := .f2 46 a b
abbrev l (a b : SX) : SX := .f2 47 a b
abbrev i (e : SX) (k : VC) : VC := .imp e k
abbrev n (e : SX) (k : VC) : VC := .need e k
abbrev u (n : Nat) (s : Srt) (k : VC) : VC := .all n s k
abbrev k0 : SX := .int 1099511627776
abbrev k1 : SX := .int 140737488355328
abbrev k2 : SX := .int 4294967296
abbrev k3 : SX := .int (-9223372036854775808)
abbrev a (n : Nat) : SX := .at .int n
abbrev v (k : Nat) (x : SX) : SX := .us .int k x z z z
abbrev d (k : Nat) (x y : SX) : SX := .us .int k x y z z
abbrev x (k : Nat) (x y w : SX) : SX := .us .int k x y w z
abbrev q (n : Nat) : SX := .at .bool n
abbrev p (k : Nat) (x : SX) : SX := .us .bool k x z z z
abbrev c (k : Nat) (x y : SX) : SX := .us .bool k x y z z
abbrev y (k : Nat) (x y w : SX) : SX := .us .bool k x y w z
abbrev g (n : Nat) : SX := .at .g n
abbrev w (k : Nat) (x : SX) : SX := .us .g k x z z z
abbrev f (k : Nat) (x y : SX) : SX := .us .g k x y z z
abbrev h (k : Nat) (x y w : SX) : SX := .us .g k x y w z
abbrev b (n : Nat) : SX := .at .bytes n
abbrev j (k : Nat) (x : SX) : SX := .us .bytes k x z z z
abbrev wB (k : Nat) (x y : SX) : SX := .us .bytes k x y z z
abbrev hB0 (k : Nat) (x y w : SX) : SX := .us .bytes k x y w z
abbrev s (n : Nat) : SX := .at .ints n
abbrev o (k : Nat) (x : SX) : SX := .us .ints k x z z z
abbrev wN (k : Nat) (x y : SX) : SX := .us .ints k x y z z
abbrev hN0 (k : Nat) (x y w : SX) : SX := .us .ints k x y w z
abbrev r (n : Nat) : SX := .at .rows n
abbrev vR (k : Nat) (x : SX) : SX := .us .rows k x z z z
abbrev wR (k : Nat) (x y : SX) : SX := .us .rows k x y z z
abbrev hR0 (k : Nat) (x y w : SX) : SX := .us .rows k x y w z
abbrev m (n : Nat) : SX := .at .amap n
abbrev vM (k : Nat) (x : SX) : SX := .us .amap k x z z z
abbrev wM0 (k : Nat) (x y : SX) : SX := .us .amap k x y z z
abbrev hM (k : Nat) (x y w : SX) : SX := .us .amap k x y w z
abbrev sB := (And.intro @U.bool.injEq (And.intro @U.bytes.injEq (And.intro @U.int.injEq (And.intro @U.ints.injEq (And.intro @U.rows.injEq (And.intro @U.tQi (And.intro @U.tBi (And.intro @U.tIi (And.intro @U.tNi (And.intro @U.tMi (And.intro @U.tPi (And.intro @U.tRi (And.intro @ZF7 (And.intro @ZHm (And.intro @ZH5 (And.intro @ZJy (And.intro @ZLN (And.intro @ZmF (And.intro @ZFy (And.intro @Y5 (And.intro @ZMm (And.intro @ZM0 (And.intro @ZNl (And.intro @ZIN (And.intro @ZFC (And.intro @ZFM (And.intro @ZIf (And.intro @ZGU (And.intro @ZHs (And.intro @ZFE (And.intro @ZF5 (And.intro @ZIx (And.intro @ZH7 (And.intro @ZHH (And.intro @ZJA (And.intro @ZHr (And.intro @ZJi (And.intro @ZGa (And.intro @ZE3 (And.intro @ZNr (And.intro @ZMK (And.intro @ZLf (And.intro @ZrZ (And.intro @ZJm (And.intro @ZH8 (And.intro @ZxH (And.intro @ZIq (And.intro @ZGk (And.intro @ZGL (And.intro @ZI6 (And.intro @b46 (And.intro @b47 (And.intro @Yw (And.intro @Zsa (And.intro @ZLU (And.intro @Z4 (And.intro @ZkX (And.intro @Zmf (And.intro @YJ (And.intro @i64hi (And.intro @i64lo (And.intro @Za (And.intro @Zoy (And.intro @p153 (And.intro @p155 (And.intro @p23 (And.intro @ZGe (And.intro @p45 (And.intro @p46 (And.intro @p47 (And.intro @p50 (And.intro @Zi (And.intro @t46 @t47)))))))))))))))))))))))))))))))))))))))))))))))))))))))))))))))))))))))))
abbrev sC := (And.intro @ZNz (And.intro @ZKW @ZKu))
end
end Go.Proofs.Ytidlngnhjffepaa
namespace Go.Proofs.Ytidlngnhjffepaa
noncomputable section
open Go.Eng
abbrev Ent := List Int
def xk (r : Ent) : Int := r.getD 0 0
def xw (r : Ent) : Int := r.getD 1 0
def ZL (r : Ent) : List UInt8 := Yp (r.getD 2 0).toNat
def YX (r : Ent) : List UInt8 := Yp (r.getD 3 0).toNat
def Zbc (r : Ent) : Bool := !(r.getD 4 0 == 0)
def xt (r : Ent) : Int := r.getD 5 0
def xa (x : List Ent) (i : Nat) : Ent := x.getD i []
def b01 (c : Bool) : Int := if c = true then 1 else 0
theorem Yr {G : Type} (a : U G) : ap1 3 a = .int (b01 a.toBool) := rfl
theorem Zff (c : Bool) : (!(b01 c == 0)) = c := by cases c <;> rfl
/-! ### The reference, over the entries ahead of a place -/
def ZI (x : List Ent) (k w : Int) : Nat -> Int
 | 0 => -1
 | n + 1 => if 0 <= ZI x k w n then ZI x k w n else if xk (xa x n) = k /\ xw (xa x n) = w then n else -1
def YD (x : List Ent) (w : Int) : Nat -> Bool × Int
 | 0 => (false, -1)
 | n + 1 =>
  let s := YD x w n
  let r := xa x n
  if xk r = 1 /\ xw r = w then (true, s.2)
  else if (xk r = 5 \/ xk r = 6) /\ xw r = w then (false, s.2)
  else if xk r = 7 /\ s.1 = true then (false, (n : Int)) else s
def ZdI (x : List Ent) (f a : Int) : Bool := Zp (0 <= f /\ ∀ i : Nat, f < i -> (i : Int) < a -> xk (xa x i) ≠ 1 /\ xk (xa x i) ≠ 2 /\ xk (xa x i) ≠ 7)
def latP (x : List Ent) (f a : Int) : Prop := ∀ i : Nat, f < i -> (i : Int) < a -> xk (xa x i) ≠ 1 /\ xk (xa x i) ≠ 2 /\ xk (xa x i) ≠ 7
def Zje (x : List Ent) (n : Nat) : Bool :=
 let r := xa x n
 let o := YD x (xw r) n
 if xk r = 1 then decide (0 <= ZI x 1 (xw r) n)
 else if xk r = 2 then decide (0 < xw r) && !o.1
 else if xk r = 3 \/ xk r = 4 \/ xk r = 6 then !o.1
 else if xk r = 5 then (!o.1 && !ZdI x o.2 n) || decide (0 <= ZI x 5 (xw r) n)
 else false
def ZiW (x : List Ent) : Nat -> Int
 | 0 => 0
 | n + 1 => if xk (xa x n) = 5 then xt (xa x n) else ZiW x n
def ZiQ (x : List Ent) (n : Nat) : Bool := decide (xk (xa x n) = 5) && !decide (xt (xa x n) = ZiW x n + 1)
def Zcm (x : List Ent) : Nat -> Int × Int
 | 0 => (-1, 0)
 | n + 1 => if 0 <= (Zcm x n).1 then Zcm x n else if Zje x n then (n, 1) else if ZiQ x n then (n, 2) else (-1, 0)
def Za2 (r : Ent) : Bool :=
 let keyed := decide (xk r = 2) || decide (xk r = 3) || decide (xk r = 4)
 if xk r = 1 \/ xk r = 6 then decide (0 < xw r) && (ZL r == []) && (YX r == []) && !Zbc r && decide (xt r = 0)
 else if xk r = 2 then decide (0 <= xw r) && !(ZL r == []) && (Zbc r || (YX r == [])) && decide (xt r = 0)
 else if xk r = 3 then decide (0 < xw r) && !(ZL r == []) && Zbc r && decide (xt r = 0)
 else if xk r = 4 then decide (0 < xw r) && !(ZL r == []) && (YX r == []) && !Zbc r && decide (xt r = 0)
 else if xk r = 5 then decide (0 < xw r) && (ZL r == []) && (YX r == []) && !Zbc r && decide (1 <= xt r) && decide (xt r <= 1099511627776)
 else if xk r = 7 then decide (xw r = 0) && (ZL r == []) && (YX r == []) && !Zbc r && decide (xt r = 0)
 else false
def ZkJ (x : List Ent) (n : Nat) : Bool := Zp (∀ i < n, Za2 (xa x i) = true)
def YE (x : List Ent) (w : Int) (k : List UInt8) : Nat -> Int
 | 0 => -1
 | n + 1 => if (xk (xa x n) = 3 \/ xk (xa x n) = 4) /\ xw (xa x n) = w /\ ZL (xa x n) = k then n else YE x w k n
def Zc0 (x : List Ent) (ks : List Int) (k : List UInt8) : Nat -> List UInt8 × Bool
 | 0 => ([], false)
 | n + 1 => let j := YE x (ks.getD n 0) k x.length
  if 0 <= j then (YX (xa x j.toNat), decide (xk (xa x j.toNat) = 3)) else Zc0 x ks k n
def Zw (x : List Ent) : Nat -> List Int
 | 0 => []
 | n + 1 => if xk (xa x n) = 5 then Zw x n ++ [xw (xa x n)] else Zw x n
def ZcY (x : List Ent) (a : Nat) (ks : List Int) : Bool × Int :=
 let r := xa x a
 let j := YE x (xw r) (ZL r) a
 if 0 <= j /\ 0 < xw r then ((Zbc r == decide (xk (xa x j.toNat) = 3)) && (YX r == YX (xa x j.toNat)), 3)
 else let v := Zc0 x ks (ZL r) ks.length; ((Zbc r == v.2) && (YX r == v.1), 4)
def ZcS (x : List Ent) (n : Nat) : Nat :=
 if 0 < xw (xa x n) then (let c := ZI x 5 (xw (xa x n)) x.length; if 0 <= c then c.toNat else n) else n
def ZdM (x : List Ent) : Nat -> Int × Int
 | 0 => (-1, 0)
 | n + 1 => if 0 <= (ZdM x n).1 then ZdM x n else if xk (xa x n) = 2 then
   (let t := ZcY x n (Zw x (ZcS x n)); if t.1 then (-1, 0) else ((n : Int), t.2)) else (-1, 0)
def lasV (x : List Ent) (j : Int) : List UInt8 := if 0 <= j then YX (xa x j.toNat) else []
def lasK (x : List Ent) (j : Int) : Int := if 0 <= j then xk (xa x j.toNat) else 0
def ZcU (x : List Ent) : Int := if 400 < x.length then 2 else if ZkJ x x.length then 0 else 280
def Zfe (x : List Ent) : Int × Int × Int :=
 if ZcU x ≠ 0 then (0, 0, ZcU x) else if 0 <= (Zcm x x.length).1 then ((Zcm x x.length).1, (Zcm x x.length).2, 0) else ((ZdM x x.length).1, (ZdM x x.length).2, 0)
/-! ### What the words speak of -/
structure Tx where
 who : Int
 beg : Int
 com : Int
 opn : Bool
 ch : List (Int × Int)
 rds : List Ent
 bad : List Int
def tx0 : Tx := ⟨0, 0, 0, false, [], [], []⟩
inductive GG where
 | tx (l : List Tx)
def gg0 : GG := .tx []
def ZW : U GG -> List Tx
 | .g (.tx l) => l
 | _ => []
theorem ZY (l : List Tx) : ZW (.g (.tx l)) = l := rfl
theorem Yh (x : List Ent) (k w : Int) (n : Nat) : ZI x k w (n + 1) = if 0 <= ZI x k w n then ZI x k w n else if xk (xa x n) = k /\ xw (xa x n) = w then (n : Int) else -1 := rfl
theorem ZbE (x : List Ent) (w : Int) (n : Nat) : YD x w (n + 1) = (if xk (xa x n) = 1 /\ xw (xa x n) = w then (true, (YD x w n).2)
  else if (xk (xa x n) = 5 \/ xk (xa x n) = 6) /\ xw (xa x n) = w then (false, (YD x w n).2)
  else if xk (xa x n) = 7 /\ (YD x w n).1 = true then (false, (n : Int)) else YD x w n) := rfl
theorem Zgq {x : List Ent} {k w : Int} {n : Nat} (h : 0 <= ZI x k w n) : ∀ {m : Nat}, n <= m -> ZI x k w m = ZI x k w n
 | 0, hm => by rw [Nat.le_zero.1 hm]
 | m + 1, hm => by
  rcases ZNN m n with hlt | hge
  ·rw [show m + 1 = n by omega]
  ·have := Zgq h hge
   rw [Yh, if_pos (by rw [this]; exact h), this]
theorem Zcc (x : List Ent) (k w : Int) : ∀ n : Nat, -1 <= ZI x k w n /\ ZI x k w n < n /\ (0 <= ZI x k w n -> xk (xa x (ZI x k w n).toNat) = k /\ xw (xa x (ZI x k w n).toNat) = w)
 | 0 => ⟨ZN4 _, by show (-1 : Int) < 0; omega, fun h => absurd h (by show ¬ (0 : Int) <= -1; omega)⟩
 | n + 1 => by
  have ih := Zcc x k w n
  rw [Yh]
  split
  ·exact ⟨ih.1, by omega, ih.2.2⟩
  ·split
   ·rename_i h
    exact ⟨by omega, by omega, fun _ => by rw [ZN0]; exact h⟩
   ·exact ⟨ZN4 _, by omega, fun h => absurd h (by omega)⟩
theorem Zmn (x : List Ent) (w : Int) : ∀ n : Nat, -1 <= (YD x w n).2 /\ (YD x w n).2 < n
 | 0 => ⟨ZN4 _, by show (-1 : Int) < 0; omega⟩
 | n + 1 => by
  have ih := Zmn x w n
  rw [ZbE]
  split
  ·exact ⟨ih.1, by have := ih.2; show (YD x w n).2 < _; omega⟩
  ·split
   ·exact ⟨ih.1, by have := ih.2; show (YD x w n).2 < _; omega⟩
   ·split
    ·exact ⟨by show (-1 : Int) <= n; omega, by show (n : Int) < _; omega⟩
    ·exact ⟨ih.1, by have := ih.2; omega⟩
theorem ZH {p : Prop} (h : ¬ p) : Zp p = false := by
 cases e : Zp p
 ·rfl
 ·exact absurd ((Zi (p := p)).mp e) h
theorem ZF {p : Prop} (h : p) : Zp p = true := (Zi (p := p)).mpr h
theorem ZnS {x : List Ent} {f a : Int} : ZdI x f a = (decide (0 <= f) && Zp (latP x f a)) := by
 unfold ZdI
 by_cases h1 : 0 <= f
 ·by_cases h2 : latP x f a
  ·rw [ZF ⟨h1, h2⟩, ZF h2]; simp [h1]
  ·rw [ZH (fun h => h2 h.2), ZH h2]; simp
 ·rw [ZH (fun h => h1 h.1)]; simp [h1]
theorem Zcn (x : List Ent) (w : Int) (k : List UInt8) (n : Nat) : YE x w k (n + 1) = if (xk (xa x n) = 3 \/ xk (xa x n) = 4) /\ xw (xa x n) = w /\ ZL (xa x n) = k then (n : Int) else YE x w k n := rfl
theorem Za8 (x : List Ent) (n : Nat) : Zcm x (n + 1) = if 0 <= (Zcm x n).1 then Zcm x n else if Zje x n then ((n : Int), 1) else if ZiQ x n then ((n : Int), 2) else (-1, 0) := rfl
theorem Zgs (x : List Ent) (n : Nat) : ZdM x (n + 1) = if 0 <= (ZdM x n).1 then ZdM x n else if xk (xa x n) = 2 then (if (ZcY x n (Zw x (ZcS x n))).1 then (-1, 0) else ((n : Int), (ZcY x n (Zw x (ZcS x n))).2)) else (-1, 0) := rfl
theorem ZrJ {x : List Ent} {n : Nat} (h : 0 <= (ZdM x n).1) : ∀ {m : Nat}, n <= m -> ZdM x m = ZdM x n
 | 0, hm => by rw [Nat.le_zero.1 hm]
 | m + 1, hm => by
  rcases ZNN m n with hlt | hge
  ·rw [show m + 1 = n by omega]
  ·have := ZrJ h hge
   rw [Zgs, if_pos (by rw [this]; exact h), this]
theorem may_nr' (r : Ent) : Za2 [r.getD 0 0, r.getD 1 0, (Zj (Yp (r.getD 2 0).toNat) : Nat), (Zj (Yp (r.getD 3 0).toNat) : Nat), b01 (!r.getD 4 0 == 0), r.getD 5 0] = Za2 r := by
 unfold Za2 xk xw ZL YX Zbc xt
 simp only [List.getD_cons_zero, List.getD_cons_succ, ZN0, Zl, Zff]
theorem Zc8 (x : List Ent) (n : Nat) : Zje x n = if xk (xa x n) = 1 then decide (0 <= ZI x 1 (xw (xa x n)) n)
 else if xk (xa x n) = 2 then decide (0 < xw (xa x n)) && !(YD x (xw (xa x n)) n).1
 else if xk (xa x n) = 3 \/ xk (xa x n) = 4 \/ xk (xa x n) = 6 then !(YD x (xw (xa x n)) n).1
 else if xk (xa x n) = 5 then (!(YD x (xw (xa x n)) n).1 && !ZdI x (YD x (xw (xa x n)) n).2 n) || decide (0 <= ZI x 5 (xw (xa x n)) n)
 else false := rfl
theorem Ze2 (x : List Ent) (ks : List Int) (k : List UInt8) (n : Nat) : Zc0 x ks k (n + 1) = if 0 <= YE x (ks.getD n 0) k x.length then (YX (xa x (YE x (ks.getD n 0) k x.length).toNat), decide (xk (xa x (YE x (ks.getD n 0) k x.length).toNat) = 3)) else Zc0 x ks k n := rfl
theorem ZbC (x : List Ent) (n : Nat) : Zw x (n + 1) = if xk (xa x n) = 5 then Zw x n ++ [xw (xa x n)] else Zw x n := rfl
theorem ZA7 (x : List Ent) (a : Nat) (ks : List Int) : ZcY x a ks = if 0 <= YE x (xw (xa x a)) (ZL (xa x a)) a /\ 0 < xw (xa x a) then
   ((Zbc (xa x a) == decide (xk (xa x (YE x (xw (xa x a)) (ZL (xa x a)) a).toNat) = 3)) && (YX (xa x a) == YX (xa x (YE x (xw (xa x a)) (ZL (xa x a)) a).toNat)), 3)
  else ((Zbc (xa x a) == (Zc0 x ks (ZL (xa x a)) ks.length).2) && (YX (xa x a) == (Zc0 x ks (ZL (xa x a)) ks.length).1), 4) := rfl
theorem ZgR (x : List Ent) (n : Nat) : ZcS x n = if 0 < xw (xa x n) then (if 0 <= ZI x 5 (xw (xa x n)) x.length then (ZI x 5 (xw (xa x n)) x.length).toNat else n) else n := rfl
theorem ZEK {x : List Ent} : ∀ {n : Nat}, ¬ 0 <= (ZdM x n).1 -> ZdM x n = (-1, 0)
 | 0, _ => rfl
 | n + 1, h => by
  rw [Zgs] at h ⊢
  split
  ·rename_i q; rw [if_pos q] at h; exact absurd q h
  ·rename_i q; rw [if_neg q] at h
   split
   ·rename_i r; rw [if_pos r] at h
    split
    ·rfl
    ·rename_i t; rw [if_neg t] at h; exact absurd (show (0 : Int) <= n by omega) h
   ·rfl
structure RfSig (S : Sig GG) : Prop where
 u500 : ∀ a b c d, S.usr 500 a b c d = .int (ZI a.tR b.tI c.tI d.tI.toNat)
 u501 : ∀ a b c d, S.usr 501 a b c d = .bool (YD a.tR b.tI c.tI.toNat).1
 u502 : ∀ a b c d, S.usr 502 a b c d = .int (YD a.tR b.tI c.tI.toNat).2
 u503 : ∀ a b c d, S.usr 503 a b c d = .bool (ZdI a.tR b.tI c.tI)
 u504 : ∀ a b c d, S.usr 504 a b c d = .bool (Zp (latP a.tR b.tI c.tI))
 u505 : ∀ a b c d, S.usr 505 a b c d = .bool (Zje a.tR b.tI.toNat)
 u506 : ∀ a b c d, S.usr 506 a b c d = .int (ZiW a.tR b.tI.toNat)
 u507 : ∀ a b c d, S.usr 507 a b c d = .bool (ZiQ a.tR b.tI.toNat)
 u508 : ∀ a b c d, S.usr 508 a b c d = .int (Zcm a.tR b.tI.toNat).1
 u509 : ∀ a b c d, S.usr 509 a b c d = .int (Zcm a.tR b.tI.toNat).2
 u510 : ∀ a b c d, S.usr 510 a b c d = .bool (Za2 a.tN)
 u511 : ∀ a b c d, S.usr 511 a b c d = .bool (ZkJ a.tR b.tI.toNat)
 u512 : ∀ a b c d, S.usr 512 a b c d = .int (YE a.tR b.tI c.tB d.tI.toNat)
 u513 : ∀ a b c d, S.usr 513 a b c d = .bytes (Zc0 a.tR b.tN c.tB d.tI.toNat).1
 u514 : ∀ a b c d, S.usr 514 a b c d = .bool (Zc0 a.tR b.tN c.tB d.tI.toNat).2
 u515 : ∀ a b c d, S.usr 515 a b c d = .ints (Zw a.tR b.tI.toNat)
 u516 : ∀ a b c d, S.usr 516 a b c d = .bool (ZcY a.tR b.tI.toNat c.tN).1
 u517 : ∀ a b c d, S.usr 517 a b c d = .int (ZcY a.tR b.tI.toNat c.tN).2
 u518 : ∀ a b c d, S.usr 518 a b c d = .int (ZdM a.tR b.tI.toNat).1
 u519 : ∀ a b c d, S.usr 519 a b c d = .int (ZdM a.tR b.tI.toNat).2
 u520 : ∀ a b c d, S.usr 520 a b c d = .int (Zfe a.tR).1
 u521 : ∀ a b c d, S.usr 521 a b c d = .int (Zfe a.tR).2.1
 u522 : ∀ a b c d, S.usr 522 a b c d = .int (Zfe a.tR).2.2
 u524 : ∀ a b c d, S.usr 524 a b c d = .bytes (lasV a.tR b.tI)
 u525 : ∀ a b c d, S.usr 525 a b c d = .int (lasK a.tR b.tI)
 u523 : ∀ a b c d, S.usr 523 a b c d = .int (ZcU a.tR)
theorem ZaN (a b : U GG) : (ap2 48 a b).tP = (a.toBool = b.toBool) := by
 apply propext
 simp only [ap2, U.tP, U.toBool, beq_iff_eq]
/-! ### Short names -/
def hF : List Go.Eng.Fd := [.int .i64, .int .i64, .str, .str, .bool, .int .i64]
def hE : En := .rows hF
def hS (b : Nat) : SC := .slice (ai b) (ai (b + 1)) z0 z0 (ai (b + 2)) (ai (b + 3)) 6
def hC (j b : Nat) : Ch := .rd j hE (ai b) (ai (b + 1)) (rA (b + 4)) (ai (b + 5))
def hQ (b : Nat) : List SX := [eLe z0 (ai (b + 2)), .f2 45 (ai (b + 2)) (Zg (rA (b + 4))), eLe (ai (b + 2)) (ai (b + 3)), eLe (ai (b + 2)) (.int 9223372036854775807)]
def hA : List Srt := [.int, .int, .int, .int, .rows, .int]
def entX : SX := Zbm (ai 0) (ai 1) (.f1 35 (bA 2)) (.f1 35 (bA 3)) (.f1 3 (qA 4)) (ai 5)
def ZL8 : Ctr := ⟨[.int, .int, .bytes, .bytes, .bool, .int], [.agg [.int .i64 (ai 0), .int .i64 (ai 1), .str (bA 2), .str (bA 3), .bool (qA 4), .int .i64 (ai 5)]], [], [], [.bool], .one (.bool (qA 6)), [], [.f2 48 (qA 6) (usB 510 entX z0 z0)]⟩
def kc (r : Ent) : Int := (Zj (ZL r) : Nat)
def nr (r : Ent) : Ent := [xk r, xw r, (Zj (ZL r) : Nat), (Zj (YX r) : Nat), b01 (Zbc r), xt r]
def Yc (m : List (Int × Int)) (r : Ent) : Bool :=
 (Zbc r == (Zv m (kc r) && decide ((YQ 0 m (kc r)).tmod 2 = 0))) && (!Zbc r || YX r == Yp ((YQ 0 m (kc r)).tdiv 2).toNat)
def vw (c : Int) : List UInt8 × Bool := (Yp (c.tdiv 2).toNat, decide (c.tmod 2 = 0))
def ZxR (m1 m2 m3 : List (Int × Int)) : Prop := ∀ k, Zv m3 k = (Zv m1 k || Zv m2 k) /\ vw (YQ 0 m3 k) = if Zv m2 k = true then vw (YQ 0 m2 k) else vw (YQ 0 m1 k)
def layM (m1 m2 left m3 : List (Int × Int)) : Prop := (left.map (·.1)).Nodup /\ (∀ k, Zv left k = true -> Zv m2 k = true) ∧
 ∀ k, Zv m3 k = (Zv m1 k || (Zv m2 k && !Zv left k)) /\ vw (YQ 0 m3 k) = if Zv m2 k = true /\ Zv left k = false then vw (YQ 0 m2 k) else vw (YQ 0 m1 k)
def revN (x : List Ent) (n : Nat) : List Ent := ((x.drop (x.length - n)).map nr).reverse
def eqE (r s : Ent) : Prop := nr r = nr s
structure JbSig (S : Sig GG) : Prop where
 rf : RfSig S
 u530 : ∀ a b c d, S.usr 530 a b c d = .bool (Yc a.tM b.tN)
 u531 : ∀ a b c d, S.usr 531 a b c d = .bool (Zp (ZxR a.tM b.tM c.tM))
 u532 : ∀ a b c d, S.usr 532 a b c d = .bool (Zp (layM a.tM b.tM c.tM d.tM))
 u533 : ∀ a b c d, S.usr 533 a b c d = .rows (revN a.tR b.tI.toNat)
 u534 : ∀ a b c d, S.usr 534 a b c d = .rows ((a.tR.take c.tI.toNat).map nr ++ b.tR.drop c.tI.toNat)
 u536 : ∀ a b c d, S.usr 536 a b c d = .bool (Zp ((a.tM.map (·.1)).Nodup))
 u535 : ∀ a b c d, S.usr 535 a b c d = .bool (Zp (∀ i : Nat, b.tI <= (i : Int) -> (i : Int) < c.tI -> eqE (xa a.tR i) (xa d.tR i)))
theorem JbSig.of {S T : Sig GG} (h : JbSig S) (hu : T.usr = S.usr) : JbSig T := by
 constructor
 ·have := h.rf
  constructor
  all_goals (rw [hu]; first | exact this.u500 | exact this.u501 | exact this.u502 | exact this.u503 | exact this.u504 | exact this.u505 | exact this.u506 | exact this.u507 | exact this.u508 | exact this.u509 | exact this.u510 | exact this.u511 | exact this.u512 | exact this.u513 | exact this.u514 | exact this.u515 | exact this.u516 | exact this.u517 | exact this.u518 | exact this.u519 | exact this.u520 | exact this.u521 | exact this.u522 | exact this.u523 | exact this.u524 | exact this.u525)
 all_goals (rw [hu]; first | exact h.u530 | exact h.u531 | exact h.u532 | exact h.u533 | exact h.u534 | exact h.u535 | exact h.u536)
theorem xk_nr (r : Ent) : xk (nr r) = xk r := rfl
theorem xw_nr (r : Ent) : xw (nr r) = xw r := rfl
theorem xt_nr (r : Ent) : xt (nr r) = xt r := rfl
theorem ZA6 (r : Ent) : ZL (nr r) = ZL r := by
 show Yp (Int.toNat (Zj (ZL r) : Nat)) = _
 rw [ZN0, Zl]
theorem Zqh (r : Ent) : YX (nr r) = YX r := by
 show Yp (Int.toNat (Zj (YX r) : Nat)) = _
 rw [ZN0, Zl]
theorem ZpO (r : Ent) : Zbc (nr r) = Zbc r := by
 exact Zff _
theorem nr_nr (r : Ent) : nr (nr r) = nr r := by
 unfold nr
 rw [show [xk r, xw r, (Zj (ZL r) : Nat), (Zj (YX r) : Nat), b01 (Zbc r), xt r] = nr r from rfl, xk_nr, xw_nr, xt_nr, ZA6, Zqh, ZpO]
 rfl
theorem Zsq (m : List (Int × Int)) (k v q : Int) : Zv (YL m k v) q = (decide (k = q) || Zv m q) := by
 induction m with
 | nil => simp [YL, Zv]
 | cons p m ih =>
  obtain ⟨a, b⟩ := p
  unfold YL
  by_cases h : a = k
  ·subst h; simp only [if_true, Zv]; by_cases hq : a = q <;> simp [hq]
  ·rw [if_neg h]
   simp only [Zv]
   by_cases hq : a = q
   ·simp [hq]
   ·rw [if_neg hq, if_neg hq, ih]
theorem Ztj (d : Int) (m : List (Int × Int)) (k v q : Int) : YQ d (YL m k v) q = if k = q then v else YQ d m q := by
 induction m with
 | nil => simp [YL, YQ]
 | cons p m ih =>
  obtain ⟨a, b⟩ := p
  unfold YL
  by_cases h : a = k
  ·subst h; simp only [if_true, YQ]; by_cases hq : a = q <;> simp [hq]
  ·rw [if_neg h]
   simp only [YQ]
   by_cases hq : a = q
   ·have : ¬ k = q := fun e => h (by rw [hq, e])
    simp [hq, this]
   ·rw [if_neg hq, if_neg hq, ih]
theorem Zb5 {m : List (Int × Int)} (hn : (m.map (·.1)).Nodup) (k : Int) : ((Zak m k).map (·.1)).Nodup := by
 induction m with
 | nil => exact hn
 | cons p m ih =>
  obtain ⟨a, b⟩ := p
  simp only [ZN2, List.nodup_cons] at hn
  unfold Zak
  split
  ·exact hn.2
  ·simp only [ZN2, List.nodup_cons]
   refine ⟨fun h => hn.1 ?_, ih hn.2⟩
   obtain ⟨q, hq, he⟩ := List.mem_map.1 h
   exact List.mem_map.2 ⟨q, Zlh hq, he⟩
theorem ZdY {m : List (Int × Int)} {k : Int} (h : Zv m k = true) : (Zak m k).length < m.length := by
 induction m with
 | nil => cases h
 | cons p m ih =>
  obtain ⟨a, b⟩ := p
  unfold Zak
  simp only [Zv] at h
  split
  ·simp
  ·rename_i hne; rw [if_neg hne] at h
   have := ih h
   simp only [ZOd]; omega
theorem ZKS (t : List UInt8) (b : Bool) : vw ((Zj t : Nat) * 2 + b01 b) = (t, !b) := by
 unfold vw b01
 cases b
 ·have h1 : (((Zj t : Nat) : Int) * 2 + if false = true then 1 else 0).tdiv 2 = (Zj t : Nat) := by
   rw [Int.tdiv_eq_ediv_of_nonneg (by split <;> omega)]; split <;> omega
  have h2 : (((Zj t : Nat) : Int) * 2 + if false = true then 1 else 0).tmod 2 = 0 := by
   rw [Int.tmod_eq_emod_of_nonneg (by split <;> omega)]; simp
  rw [h1, h2, ZN0, Zl]; rfl
 ·have h1 : (((Zj t : Nat) : Int) * 2 + if true = true then 1 else 0).tdiv 2 = (Zj t : Nat) := by
   rw [Int.tdiv_eq_ediv_of_nonneg (by split <;> omega)]; split <;> omega
  have h2 : (((Zj t : Nat) : Int) * 2 + if true = true then 1 else 0).tmod 2 = 1 := by
   rw [Int.tmod_eq_emod_of_nonneg (by split <;> omega)]; simp
  rw [h1, h2, ZN0, Zl]; rfl
theorem Za3 {m : List (Int × Int)} (hn : (m.map (·.1)).Nodup) (k q : Int) : Zv (Zak m k) q = (!decide (k = q) && Zv m q) := by
 induction m with
 | nil => simp [Zak, Zv]
 | cons p m ih =>
  obtain ⟨a, b⟩ := p
  simp only [ZN2, List.nodup_cons] at hn
  have no : Zv m a = false := by
   cases h : Zv m a
   ·rfl
   ·exfalso; apply hn.1
    clear ih hn
    induction m with
    | nil => cases h
    | cons p m ih2 =>
     obtain ⟨c, e⟩ := p
     simp only [Zv] at h
     split at h
     ·rename_i hc; simp [hc]
     ·simp [ih2 h]
  unfold Zak
  by_cases h : a = k
  ·subst h
   rw [if_pos rfl]
   simp only [Zv]
   by_cases hq : a = q
   ·subst hq; simp [no]
   ·simp [hq]
  ·rw [if_neg h]
   simp only [Zv]
   by_cases hq : a = q
   ·have : ¬ k = q := fun e => h (by rw [hq, e])
    simp [hq, this]
   ·rw [if_neg hq, if_neg hq, ih hn.2]
def scC (b m : SX) : Ch := .map .str .sb b m
def ndmC : Ctr := ⟨[.int, .amap], [.one (.map (ai 0))], [scC (ai 0) (mA 1)], [], [], .tup [], [scC (ai 0) (mA 1)], [usB 536 (mA 1) z0 z0]⟩
theorem ZKz (S : Sig GG) (hS : JbSig S) : Zbp S ndmC := by
 refine Ys S fun T w0 ρ h hu hp hd hr hpre => ⟨ρ, Ext.refl _ _, hpre, ?_⟩
 have hT := hS.of hu
 intro x hx
 simp only [ndmC, ZNM] at hx
 subst hx
 have e1 : hpDen T ρ w0 ndmC.pre = Zc ((scC (ai 0) (mA 1)).den T ρ w0) emp := rfl
 rw [e1, Zd] at hpre
 obtain ⟨_, es, clock, ⟨_, hn, _⟩, _⟩ := hpre
 simp only [usB, SX.den, hT.u536, Yw, U.tPi, U.tQi, Zi]
 exact hn
def Zzt : Ctr := ZL8
def ZLp : Cx := { specs := [], anns := [] }
def Zwf : Ctr := ⟨hA, [.one (hS 0), .one (.fn 32)], [hC 0 0], [eLe z0 (ai 2), eLe (ai 2) (Zg (rA 4)), eLe (ai 2) (ai 3), eLe (ai 2) (.int 9223372036854775807)], [.bool], .one (.bool (qA 6)), [hC 0 0], [.f2 48 (qA 6) (.f1 2 (usB 511 (rA 4) (ai 2) z0))]⟩
def cfnI : Inv := ⟨[.int], [(8, .one (.int .i64 (di 0)))], [], [eLe z0 (di 0), eLe (di 0) (ai 2), usB 511 (rA 4) (di 0) z0], .f2 41 (ai 2) (di 0)⟩
def ZKf : Cx := { specs := [(33, [Zzt])], anns := [(49, [(2, .inv cfnI)])] }
def entY : SX := Zbm (ai 2) (ai 3) (.f1 35 (bA 4)) (.f1 35 (bA 5)) (.f1 3 (qA 6)) (ai 7)
def ZjO : Ctr := ⟨[.int, .amap, .int, .int, .bytes, .bytes, .bool, .int], [.one (.map (ai 0)), .agg [.int .i64 (ai 2), .int .i64 (ai 3), .str (bA 4), .str (bA 5), .bool (qA 6), .int .i64 (ai 7)]], [scC (ai 0) (mA 1)], [eLe z0 (ai 0)], [.bool],
 .one (.bool (qA 8)), [scC (ai 0) (mA 1)], [.f2 48 (qA 8) (usB 530 (mA 1) entY z0)]⟩
def ZJ0 : Cx := { specs := [], anns := [] }
def ZnT : Ctr := ⟨[.int, .amap, .int, .amap], [.one (.map (ai 0)), .one (.map (ai 2))], [scC (ai 0) (mA 1), scC (ai 2) (mA 3)], [eLe z0 (ai 0), eLe z0 (ai 2)], [.amap], .tup [], [scC (ai 0) (mA 4), scC (ai 2) (mA 3)], [usB 531 (mA 1) (mA 3) (mA 4)]⟩
def layI : Inv := ⟨[.amap, .ints, .amap], [], [.itr .str .sb (ai 2) (mA 3) (ai 4) (mA 1000000) (iA 1000001), scC (ai 0) (mA 1000002)], [.us .bool 532 (mA 1) (mA 3) (mA 1000000) (mA 1000002)], .f1 33 (mA 1000000)⟩
def ZKx : Cx := { specs := [], anns := [(40, [(0, .ghost ndmC [.tmp 1]), (1, .inv layI)])] }
def ZG8 : SX := e (a 0) (k 2)
def ZBu : SX := .f2 150 (b 2) (b 2)
def ZGg : SX := .f2 150 (b 3) (b 3)
def ZEr : SX := e (a 5) z
def ZGu : SX := .f2 49 (.f2 48 (q 4) (q 4)) ZEr
def ZGH : SX := .f2 49 ZBu (.f2 49 ZGg ZGu)
def ZIJ : SX := l z (a 1)
def ZCV : SX := .f2 150 (b 2) (.byt [])
def ZuE : SX := p 510 (.f2 122 (a 0) (.f2 122 (a 1) (.f2 122 (.f1 35 (b 2)) (.f2 122 (.f1 35 (b 3)) (.f2 122 (.f1 3 (q 4)) (.f2 122 (a 5) (.f1 152 z)))))))
def ZAo : SX := .f2 48 (.f1 2 ZCV) ZuE
def ZzF : SX := t (a 1) z
def Zbd : SX := .f2 48 (.bool false) ZuE
def Zsc : SX := .f2 150 (b 3) (.byt [])
def Zz9 : SX := .f2 49 ZBu (.f2 49 Zsc ZGu)
def Zz5 : SX := e (a 0) (k 3)
def ZBt : SX := .f2 49 ZBu (.f2 49 ZGg (.f2 49 (.f2 48 (q 4) (.bool true)) ZEr))
def ZlU : SX := t z (a 1)
def Zt8 : SX := l (a 1) z
def Zwp : SX := e (a 0) (k 4)
def Zwb : SX := .f2 48 (q 4) (.bool false)
def ZyE : SX := .f2 49 Zsc (.f2 49 Zwb ZEr)
def Zzq : SX := .f2 49 ZBu ZyE
def Zvw : SX := e (a 0) (k 5)
def ZzR : SX := .f2 49 ZCV (.f2 49 Zsc Zwb)
def Ztw : SX := e (a 0) (k 1)
def Zm8 : SX := .f2 49 ZCV ZyE
def ZzP : SX := .f2 48 ZlU ZuE
def ZyX : SX := .f1 2 Zm8
def ZzL : SX := e (a 0) (k 6)
def Zse : SX := e (a 0) (k 7)
def ZM8 : VC := u 6 .int (i (l z (a 6)) (u 7 .int (i (l z (a 7)) (.and (i ZG8 (.and (i (q 4) (.and (i ZGH (.and (i ZIJ (n ZAo .tt)) (i ZzF (n Zbd .tt)))) (i (.f1 2 ZGH) (n Zbd .tt)))) (i (.f1 2 (q 4)) (.and (i Zz9 (.and (i ZIJ (n ZAo .tt)) (i ZzF (n Zbd .tt)))) (i (.f1 2 Zz9) (n Zbd .tt)))))) (i (.f1 2 ZG8) (.and (i Zz5 (.and (i ZBt (.and (i ZlU (n ZAo .tt)) (i Zt8 (n Zbd .tt)))) (i (.f1 2 ZBt) (n Zbd .tt)))) (i (.f1 2 Zz5) (.and (i Zwp (.and (i Zzq (.and (i ZlU (n ZAo .tt)) (i Zt8 (n Zbd .tt)))) (i (.f1 2 Zzq) (n Zbd .tt)))) (i (.f1 2 Zwp) (.and (i Zvw (.and (i ZzR (.and (i ZlU (.and (i (l (k 1) (a 5)) (n (.f2 48 (l (a 5) k0) ZuE) .tt)) (i (t (a 5) (k 1)) (n Zbd .tt)))) (i Zt8 (n Zbd .tt)))) (i (.f1 2 ZzR) (n Zbd .tt)))) (i (.f1 2 Zvw) (.and (i Ztw (.and (i Ztw (.and (i Zm8 (n ZzP .tt)) (i ZyX (n Zbd .tt)))) .tt)) (i (.f1 2 Ztw) (.and (i ZzL (.and (i Zm8 (n ZzP .tt)) (i ZyX (n Zbd .tt)))) (i (.f1 2 ZzL) (.and (i Zse (n (.f2 48 (.f2 49 Zse (.f2 49 (e (a 1) z) Zm8)) ZuE) .tt)) (i (.f1 2 Zse) (n Zbd .tt))))))))))))))))))
theorem ZMo : Zcl Try.prog ZLp 12 33 Zzt = ZM8 := by kernel_rfl
def ZH9 : SX := l z (a 6)
def ZId : SX := .f1 2 (c 511 (r 4) (a 2))
def ZuZ : SX := .f2 40 (a 6) (k 1)
def ZGf : SX := .f2 41 (a 2) ZuZ
def ZKE : VC := i (l z (a 2)) (i (l (a 2) (.f1 32 (r 4))) (i (l (a 2) (a 3)) (i (l (a 2) (k 9223372036854775807)) (n (p 511 (r 4)) (u 6 .int (i ZH9 (i (l (a 6) (a 2)) (i (c 511 (r 4) (a 6)) (.and (i (t (a 6) (a 2)) (n (t (a 6) (.f1 32 (r 4))) (u 7 .int (i (l z (a 7)) (u 8 .bool (i (.f2 48 (q 8) (p 510 (.f2 122 (.f3 112 (r 4) (a 6) z) (.f2 122 (.f3 112 (r 4) (a 6) (k 1)) (.f2 122 (.f1 35 (.f1 36 (.f3 112 (r 4) (a 6) (k 2)))) (.f2 122 (.f1 35 (.f1 36 (.f3 112 (r 4) (a 6) (k 3)))) (.f2 122 (.f1 3 (.f1 2 (e (.f3 112 (r 4) (a 6) (k 4)) z))) (.f2 122 (.f3 112 (r 4) (a 6) (k 5)) (.f1 152 z))))))))) (.and (i (.f1 2 (q 8)) (n (.f2 48 ZH9 ZId) .tt)) (i (.f1 2 (.f1 2 (q 8))) (n (.f1 23 ZuZ) (n (l z ZGf) (n (t ZGf (.f2 41 (a 2) (a 6))) (n (l z ZuZ) (n (l ZuZ (a 2)) (n (c 511 (r 4) ZuZ) .tt)))))))))))))) (i (l (a 2) (a 6)) (n (.f2 48 (.bool false) ZId) .tt)))))))))))
theorem ZLY : Zcl Try.prog ZKf 12 31 Zwf = ZKE := by kernel_rfl
def ZIY : SX := .f2 141 (m 1) (.f1 35 (b 4))
def ZGQ : SX := .f3 140 z (m 1) (.f1 35 (b 4))
def ZJs : SX := .f2 48 (q 6) (e (.f2 44 ZGQ (k 2)) z)
def ZGn : SX := .f1 2 (.f1 2 (q 6))
def ZDB : SX := c 530 (m 1) (.f2 122 (a 2) (.f2 122 (a 3) (.f2 122 (.f1 35 (b 4)) (.f2 122 (.f1 35 (b 5)) (.f2 122 (.f1 3 (q 6)) (.f2 122 (a 7) (.f1 152 z)))))))
def ZJo : SX := .f2 48 (.f2 150 (b 5) (.f1 36 (.f2 43 ZGQ (k 2)))) ZDB
def ZJz : SX := .f2 48 (.bool true) ZDB
def ZHK : SX := .f2 48 (.bool false) ZDB
def ZHl : SX := .f2 48 (q 6) (.bool false)
def ZNd : VC := i (l z (a 0)) (u 8 .int (i (l z (a 8)) (u 9 .int (i (l z (a 9)) (.and (i ZIY (.and (i ZJs (.and (i ZGn (n ZJo .tt)) (i (.f1 2 (q 6)) (n ZJz .tt)))) (i (.f1 2 ZJs) (n ZHK .tt)))) (i (.f1 2 ZIY) (.and (i ZHl (.and (i ZGn (n ZJo .tt)) (i (.f1 2 (q 6)) (n ZJz .tt)))) (i (.f1 2 ZHl) (n ZHK .tt)))))))))
theorem ZKM : Zcl Try.prog ZJ0 12 24 ZjO = ZNd := by kernel_rfl
def ZHL : SX := .f2 143 (m 5) (.f1 35 (b 8))
def ZFO : SX := .f3 140 z (m 3) (.f1 35 (b 8))
def ZNi : VC := i (l z (a 0)) (i (l z (a 2)) (i (p 536 (m 3)) (u 4 .int (i (l z (a 4)) (n (.us .bool 532 (m 1) (m 3) (m 3) (m 1)) (u 5 .amap (u 6 .ints (u 7 .amap (i (.us .bool 532 (m 1) (m 3) (m 5) (m 7)) (.and (i (e (.f1 33 (m 5)) z) (n (y 531 (m 1) (m 3) (m 7)) .tt)) (u 8 .bytes (i (.f2 141 (m 5) (.f1 35 (b 8))) (u 9 .int (i (l z (a 9)) (n (t (.f1 33 ZHL) (.f1 33 (m 5))) (n (.us .bool 532 (m 1) (m 3) ZHL (.f3 142 (m 7) (.f1 35 (b 8)) (.f2 40 (.f2 42 (.f1 35 (.f1 36 (.f2 43 ZFO (k 2)))) (k 2)) (.f1 3 (.f1 2 (e (.f2 44 ZFO (k 2)) z)))))) .tt))))))))))))))))
theorem ZLW : Zcl Try.prog ZKx 12 25 ZnT = ZNi := by kernel_rfl
theorem ZLo (S : Sig GG) (hS : JbSig S) : ZR S Try.prog 33 Zzt := by
 refine Zo S (C := ZLp) (fuel := 12) (YV trivial trivial trivial) fun ρ => ?_
 rw [ZMo]
 simp only [ZM8, ZG8, ZBu, ZGg, ZEr, ZGu, ZGH, ZIJ, ZCV, ZuE, ZAo, ZzF, Zbd, Zsc, Zz9, Zz5, ZBt, ZlU, Zt8, Zwp, Zwb, ZyE, Zzq, Zvw, ZzR, Ztw, Zm8, ZzP, ZyX, ZzL, Zse, hS.rf.u510, VC.den, SX.den, Env.upd, ZaN, Yr, beq_iff_eq, ZNS, beq_eq_false_iff_ne, ne_eq, ZNR, ZNQ, Int.reduceToNat, Nat.reduceEqDiff, reduceIte, sB, sC]
 generalize (ρ 0).tI = k
 generalize (ρ 1).tI = w
 generalize (ρ 2).tB = a
 generalize (ρ 3).tB = b
 generalize (ρ 4).toBool = c
 generalize (ρ 5).tI = d
 unfold Za2 xk xw ZL YX Zbc xt leB ltB
 simp only [List.getD_cons_zero, List.getD_cons_succ, ZN0, Zl, Zff]
 have hw : ∀ x y : Int, (x == y) = decide (x = y) := fun x y => by rw [Bool.eq_iff_iff]; simp
 have ha : ∀ x : List UInt8, (x == x) = true := fun x => by simp
 have hc : (c == c) = true := by simp
 simp only [hw, ha, hc, Bool.true_and]
 generalize (a == []) = A
 generalize (b == []) = B
 intro _ _ _ _
 repeat' (first | exact trivial | apply And.intro | intro _)
 all_goals (try simp_all)
 all_goals (first | omega | (cases A <;> cases B <;> cases c <;> simp_all))
theorem ZKR (S : Sig GG) (hS : JbSig S) : ZR S Try.prog 31 Zwf := by
 refine Zo S (C := ZKf) (fuel := 12) (YV ⟨Zm (by decide) (ZLo S hS), trivial⟩ ⟨⟨trivial, trivial⟩, trivial⟩ trivial) fun ρ => ?_
 rw [ZLY]
 simp only [ZKE, ZH9, ZId, ZuZ, ZGf, hS.rf.u510, hS.rf.u511, VC.den, SX.den, Env.upd, ZaN, Yr, beq_iff_eq, ZNS, beq_eq_false_iff_ne, ne_eq, ZNR, ZNQ, Int.reduceToNat, Nat.reduceEqDiff, reduceIte, sB, sC]
 generalize (ρ 4).tR = X
 generalize (ρ 2).tI = l
 intro h1 h2 h3 h4
 refine ⟨ZF fun i hi => absurd hi (Nat.not_lt_zero _), fun x hx0 hx1 hx2 => ?_⟩
 obtain ⟨n, rfl⟩ := ZNL hx0
 have e1 : ((n : Int) + 1).toNat = n + 1 := by omega
 simp only [e1, ZN0] at hx2 ⊢
 have hx2 := (Zi (p := ∀ i < n, Za2 (xa X i) = true)).mp hx2
 rw [may_nr']
 refine ⟨fun hlt => ⟨by omega, fun _ _ y hy => ⟨fun q => ⟨?_, trivial⟩, fun q => ⟨by omega, by omega, by omega, by omega, by omega, ZF fun i hi => ?_, trivial⟩⟩⟩, fun hge => ⟨?_, trivial⟩⟩
 ·have hf : ZkJ X l.toNat = false := ZH fun h => by
   have := h n (by omega)
   have hy : y = Za2 (xa X n) := hy
   rw [<- hy, q] at this; cases this
  rw [hf, Za.2 (by omega)]; rfl
 ·rcases ZNN i n with h | h
  ·exact hx2 i h
  ·rw [show i = n by omega]
   have hy : y = Za2 (xa X n) := hy
   rw [<- hy, q]
 ·have hf : ZkJ X l.toNat = true := ZF fun i hi => hx2 i (by omega)
  rw [hf]; rfl
theorem Zsp (S : Sig GG) (hS : JbSig S) : ZR S Try.prog 24 ZjO := by
 refine Zo S (C := ZJ0) (fuel := 12) (YV trivial trivial trivial) fun ρ => ?_
 rw [ZKM]
 simp only [ZNd, ZIY, ZGQ, ZJs, ZGn, ZDB, ZJo, ZJz, ZHK, ZHl, hS.u530, VC.den, SX.den, Env.upd, ZaN, Yr, beq_iff_eq, ZNS, beq_eq_false_iff_ne, ne_eq, ZNR, ZNQ, Int.reduceToNat, Nat.reduceEqDiff, reduceIte, sB, sC]
 generalize (ρ 1).tM = M
 generalize (ρ 2).tI = k
 generalize (ρ 3).tI = w
 generalize (ρ 4).tB = a
 generalize (ρ 5).tB = b
 generalize (ρ 6).toBool = c
 generalize (ρ 7).tI = d
 unfold Yc kc ZL YX Zbc
 simp only [List.getD_cons_zero, List.getD_cons_succ, ZN0, Zl, Zff]
 generalize Zv M (Zj a : Nat) = h
 generalize YQ 0 M (Zj a : Nat) = g
 have hd : (g.tmod 2 == 0) = decide (g.tmod 2 = 0) := by rw [Bool.eq_iff_iff]; simp
 rw [hd]
 generalize decide (g.tmod 2 = 0) = e
 generalize (b == Yp (g.tdiv 2).toNat) = f
 intro _ _ _ _ _
 cases h <;> cases c <;> cases e <;> cases f <;> simp
theorem Zze (S : Sig GG) (hS : JbSig S) : ZR S Try.prog 25 ZnT := by
 refine Zo S (C := ZKx) (fuel := 12) (YV trivial ⟨⟨⟨by decide, ZKz S hS⟩, trivial, trivial⟩, trivial⟩ trivial) fun ρ => ?_
 rw [ZLW]
 simp only [ZNi, ZHL, ZFO, hS.u531, hS.u532, hS.u536, VC.den, SX.den, Env.upd, ZaN, Yr, beq_iff_eq, ZNS, beq_eq_false_iff_ne, ne_eq, ZNR, ZNQ, Int.reduceToNat, Nat.reduceEqDiff, reduceIte, sB, sC]
 generalize (ρ 1).tM = M
 generalize (ρ 3).tM = N
 intro h1 h2 h3 _ _
 refine ⟨⟨h3, fun k hk => hk, fun k => ⟨?_, ?_⟩⟩, fun L _ R hL => ⟨fun hz => ⟨?_, trivial⟩, fun t ht _ _ => ⟨by have := ZdY ht; omega, ?_, trivial⟩⟩⟩
 ·cases Zv N k <;> simp
 ·rw [if_neg (by rintro ⟨a, b⟩; rw [a] at b; cases b)]
 ·have hz : L = [] := ZN8 (by omega)
  subst hz
  obtain ⟨_, _, hl⟩ := hL
  intro k
  obtain ⟨a, b⟩ := hl k
  have hm : Zv [] k = false := rfl
  rw [hm] at a b
  refine ⟨by rw [a]; simp, ?_⟩
  rw [b]
  by_cases q : Zv N k = true
  ·rw [if_pos ⟨q, rfl⟩, if_pos q]
  ·rw [if_neg (fun h => q h.1), if_neg q]
 ·obtain ⟨l1, l2, l3⟩ := hL
  refine ⟨Zb5 l1 _, fun k hk => ?_, fun k => ?_⟩
  ·rw [Za3 l1] at hk
   exact l2 k (by simp at hk; exact hk.2)
  ·obtain ⟨a, b⟩ := l3 k
   have hN := l2 _ ht
   rw [Zsq, Ztj, Za3 l1, a]
   by_cases hk : ((Zj t : Nat) : Int) = k
   ·subst hk
    refine ⟨by rw [hN]; simp, ?_⟩
    rw [if_pos rfl, if_pos ⟨hN, by simp⟩, ZKS]
    unfold vw
    have hd : ((YQ 0 N ((Zj t : Nat) : Int)).tmod 2 == 0) = decide ((YQ 0 N ((Zj t : Nat) : Int)).tmod 2 = 0) := by rw [Bool.eq_iff_iff]; simp
    rw [ZNR, hd]
   ·rw [if_neg hk, b]
    simp [hk]
structure Bk where
 txs : List Tx
 kept : List Nat
 out : List Ent
 fal : List Nat
 fault : Int
 what : Int
def bk0 : Bk := ⟨[], [], [], [], -1, 0⟩
def ixL (w : Int) : List Tx -> Nat
 | [] => 0
 | t :: l => bif t.who == w then 0 else ixL w l + 1
def rdT (t : Tx) (i : Int) (x : Ent) : Tx := if Zv t.ch (kc x) = true then (if Yc t.ch x = true then t else { t with bad := t.bad ++ [i] }) else { t with rds := t.rds ++ [i :: nr x] }
def Bk.flt (B : Bk) (i w : Int) : Bk := { B with fault := i, what := w }
def Zom : List Tx -> Nat -> List Nat
 | [], _ => []
 | t :: l, n => bif t.opn then n :: Zom l (n + 1) else Zom l (n + 1)
def ZaC (B : Bk) (i : Int) (x : Ent) : Bk :=
 let j := ixL (xw x) B.txs
 let t := B.txs.getD j tx0
 let op := decide (j < B.txs.length) && t.opn
 if xk x = 1 then (if j < B.txs.length then B.flt i 1 else { B with txs := B.txs ++ [⟨xw x, i, -1, true, [], [], []⟩], fal := [] })
 else if xk x = 2 then (if xw x = 0 then { B with out := B.out ++ [i :: nr x], fal := [] } else if op = true then { B with txs := B.txs.set j (rdT t i x), fal := [] } else B.flt i 1)
 else if xk x = 3 \/ xk x = 4 then (if op = true then { B with txs := B.txs.set j { t with ch := YL t.ch (kc x) ((Zj (YX x) : Nat) * 2 + b01 (xk x == 4)) } } else B.flt i 1)
 else if xk x = 6 then (if op = true then { B with txs := B.txs.set j { t with opn := false } } else B.flt i 1)
 else if xk x = 5 then (if (op = false /\ ¬ j ∈ B.fal) \/ 0 <= t.com then B.flt i 1 else if ¬ xt x = B.kept.length + 1 then B.flt i 2 else { B with txs := B.txs.set j { t with opn := false, com := i }, kept := B.kept ++ [j] })
 else if xk x = 7 then { B with txs := B.txs.map fun t => { t with opn := false }, fal := Zom B.txs 0 }
 else B
def Yj (h : List Ent) : Nat -> Bk
 | 0 => bk0
 | n + 1 => if 0 <= (Yj h n).fault then Yj h n else ZaC (Yj h n) n (xa h n)
/-! ### In memory -/
def g3 (r : List Int) : Int := r.getD 3 0
def g4 (r : List Int) : Int := r.getD 4 0
def g5 (r : List Int) : Int := r.getD 5 0
def rE : En := .rows (.int .i64 :: hF)
def mapV (b : Int) : Value := .map (if b < 0 then none else some b.toNat)
def ZFj (b : Int) (who beg com : Int) (opn : Bool) (mb rb rl rc bb bl bc : Int) : HProp := fun h => (0 <= b \/ False) /\ row b.toNat 0 [.int .i64 who, .int .i64 beg, .int .i64 com, .bool opn, mapV mb, slV rb rl rc, slV bb bl bc] true h
def ZwY (b : Int) (m : List (Int × Int)) : HProp := fun h => 0 <= b /\ ∃ es clock, Zgf .str .sb es clock m /\ Zfm b.toNat (.map es clock) h
def ZdG (r : List Int) (t : Tx) : HProp := Zc (ZFj (g0 r) t.who t.beg t.com t.opn (g1 r) (g2 r) (t.rds.length : Nat) (g3 r) (g4 r) (t.bad.length : Nat) (g5 r)) (Zc (ZwY (g1 r) t.ch) (Zc (rAD rE (g2 r) t.rds (g3 r)) (iAD (g4 r) t.bad (g5 r))))
def Ze4 : List (List Int) -> List Tx -> HProp
 | [], [] => emp
 | r :: rs, t :: ts => Zc (ZdG r t) (Ze4 rs ts)
 | _, _ => fun _ => False
def ZL3 (i : Int) (R : List (List Int)) (L : List Tx) : HProp := Zc (Ze4 (R.take i.toNat) (L.take i.toNat)) (Ze4 (R.drop (i.toNat + 1)) (L.drop (i.toNat + 1)))
def ZCJ (R : List (List Int)) (i : Int) (r : List Int) : List (List Int) := R.take i.toNat ++ r :: R.drop (i.toNat + 1)
def setT (L : List Tx) (i : Int) (t : Tx) : List Tx := L.take i.toNat ++ t :: L.drop (i.toNat + 1)
def plOk (R : List (List Int)) (L : List Tx) : Prop := R.length = L.length /\ (R.map g0).Nodup /\ ∀ r ∈ R, 0 <= g0 r
def ZfF (R : List (List Int)) (L : List Tx) : List (Int × Int) := (L.zip R).map fun p => (p.1.who, g0 p.2)
def ZbR (R : List (List Int)) (ks : List Nat) : List (List Int) := ks.map fun k => [g0 (R.getD k [])]
def ZuS (t : Tx) (m : List (Int × Int)) (p : List Int) : Tx := { t with ch := m, com := p.getD 0 0, opn := p.getD 1 0 == 1 }
def ZA2 (t : Tx) (r : List Ent) (b : List Int) : Tx := { t with rds := r, bad := b }
def ZdD (l : Int) : List (List Int) -> Nat
 | [] => 0
 | r :: R => bif g0 r == l then 0 else ZdD l R + 1
def Zq0 (R : List (List Int)) (b : Int) : Prop := ∃ k, k < R.length /\ b = g0 (R.getD k [])
def ZiT (R : List (List Int)) (L : List Tx) (i : Nat) : HProp := ZFj (g0 (R.getD i [])) (L.getD i tx0).who (L.getD i tx0).beg (L.getD i tx0).com (L.getD i tx0).opn (g1 (R.getD i [])) (g2 (R.getD i [])) ((L.getD i tx0).rds.length : Nat) (g3 (R.getD i [])) (g4 (R.getD i [])) ((L.getD i tx0).bad.length : Nat) (g5 (R.getD i []))
def ZJM (v y : Int) (R : List (List Int)) (L : List Tx) : HProp := fun h => ∀ h', Hl.Disj h h' -> Zc (ZiT R L (ZdD v R)) (ZiT R L (ZdD y R)) h' -> Ze4 R L (Hl.un h h')
def atT (L : List Tx) (i : Int) : Tx := L.getD i.toNat tx0
def ZcX (L : List Tx) (left : List (Int × Int)) : List Tx := L.map fun t => if Zv left t.who = true then t else { t with opn := false }
def ZcV (left : List (Int × Int)) : List Tx -> Nat -> List Nat
 | [], _ => []
 | t :: l, n => if t.opn = true /\ Zv left t.who = false then n :: ZcV left l (n + 1) else ZcV left l (n + 1)
def ZK3 (b : Int) (m : List (Int × Int)) : HProp := fun h => 0 <= b /\ ∃ es clock, Zgf (.int .i64) (.one .ptr) es clock m /\ Zfm b.toNat (.map es clock) h
def celB (b ma kb kl kc ob ol oc ft wt : Int) : HProp := fun h => (0 <= b \/ False) /\ row b.toNat 0 [mapV ma, slV kb kl kc, slV ob ol oc, .int .i64 ft, .int .i64 wt] true h
def bookB (b : Int) (B : Bk) : HProp := fun h => ∃ (ma kb kc ob oc : Int) (R : List (List Int)), Zc (celB b ma kb (B.kept.length : Nat) kc ob (B.out.length : Nat) oc B.fault B.what)
 (Zc (ZK3 ma (ZfF R B.txs)) (Zc (rAD (.rows [.ptr]) kb (ZbR R B.kept) kc) (Zc (rAD rE ob B.out oc) (Ze4 R B.txs)))) h
def ZuM (b : Int) (x : List Ent) : HProp := if b < 0 then emp else bookB b (Yj x x.length)
structure JtSig (S : Sig GG) : Prop where
 jb : JbSig S
 p100 : ∀ w0 k x, S.prd 100 w0 k x = Ze4 k.tR (ZW x)
 p101 : ∀ w0 k x, S.prd 101 w0 k x = ZL3 (g0 (k.tR.getD 0 [])) (k.tR.drop 1) (ZW x)
 p103 : ∀ w0 k x, S.prd 103 w0 k x = ZuM (g0 (k.tR.getD 0 [])) (k.tR.drop 1)
 u568 : ∀ a b c d, S.usr 568 a b c d = .g (.tx (ZcX (ZW a) b.tM))
 u571 : ∀ a b c d, S.usr 571 a b c d = .bool (Zp ((a.tM.map (·.1)).Nodup /\ ∀ k, Zv a.tM k = true -> Zv b.tM k = true))
 u569 : ∀ a b c d, S.usr 569 a b c d = .bool (Zp (a.tR.map g0 = b.tR.map g0))
 u570 : ∀ a b c d, S.usr 570 a b c d = .bool (Zp (d.tR.Perm (ZbR c.tR (ZcV b.tM (ZW a) 0))))
 p102 : ∀ w0 k x, S.prd 102 w0 k x = ZJM (g0 (k.tR.getD 0 [])) (g1 (k.tR.getD 0 [])) (k.tR.drop 1) (ZW x)
 u565 : ∀ a b c d, S.usr 565 a b c d = .bool (Zp (Zq0 a.tR b.tI))
 u566 : ∀ a b c d, S.usr 566 a b c d = .int (ZdD b.tI a.tR : Nat)
 u540 : ∀ a b c d, S.usr 540 a b c d = .int (atT (ZW a) b.tI).who
 u541 : ∀ a b c d, S.usr 541 a b c d = .int (atT (ZW a) b.tI).beg
 u542 : ∀ a b c d, S.usr 542 a b c d = .int (atT (ZW a) b.tI).com
 u543 : ∀ a b c d, S.usr 543 a b c d = .bool (atT (ZW a) b.tI).opn
 u544 : ∀ a b c d, S.usr 544 a b c d = .amap (atT (ZW a) b.tI).ch
 u545 : ∀ a b c d, S.usr 545 a b c d = .rows (atT (ZW a) b.tI).rds
 u546 : ∀ a b c d, S.usr 546 a b c d = .ints (atT (ZW a) b.tI).bad
 u547 : ∀ a b c d, S.usr 547 a b c d = .amap (ZfF a.tR (ZW b))
 u548 : ∀ a b c d, S.usr 548 a b c d = .rows (ZbR c.tR (Yj a.tR b.tI.toNat).kept)
 u549 : ∀ a b c d, S.usr 549 a b c d = .rows (Yj a.tR b.tI.toNat).out
 u550 : ∀ a b c d, S.usr 550 a b c d = .int (Yj a.tR b.tI.toNat).fault
 u551 : ∀ a b c d, S.usr 551 a b c d = .int (Yj a.tR b.tI.toNat).what
 u552 : ∀ a b c d, S.usr 552 a b c d = .int ((ZW a).length : Nat)
 u553 : ∀ a b c d, S.usr 553 a b c d = .int (ixL b.tI (ZW a) : Nat)
 u554 : ∀ a b c d, S.usr 554 a b c d = .rows (ZCJ a.tR b.tI c.tN)
 u555 : ∀ a b c d, S.usr 555 a b c d = .g (.tx (setT (ZW a) b.tI (ZuS (atT (ZW a) b.tI) c.tM d.tN)))
 u556 : ∀ a b c d, S.usr 556 a b c d = .g (.tx (setT (ZW a) b.tI (ZA2 (atT (ZW a) b.tI) c.tR d.tN)))
 u557 : ∀ a b c d, S.usr 557 a b c d = .g (.tx (ZW a ++ [⟨b.tI, c.tI, -1, true, [], [], []⟩]))
 u558 : ∀ a b c d, S.usr 558 a b c d = .bool (Zp (plOk a.tR (ZW b)))
 u559 : ∀ a b c d, S.usr 559 a b c d = .bool (Zp (d.tR.Perm (ZbR c.tR (Yj a.tR b.tI.toNat).fal)))
 u560 : ∀ a b c d, S.usr 560 a b c d = .bool (Zp (∀ r ∈ a.tR, ∃ b', r = [b'] /\ Zq0 b.tR b'))
 u561 : ∀ a b c d, S.usr 561 a b c d = .g (.tx (Yj a.tR b.tI.toNat).txs)
 u562 : ∀ a b c d, S.usr 562 a b c d = .bool (Zp ([b.tI] ∈ a.tR))
 u563 : ∀ a b c d, S.usr 563 a b c d = .rows (if Zv a.tM (kc b.tN) = true then c.tR else c.tR ++ [d.tI :: nr b.tN])
 u564 : ∀ a b c d, S.usr 564 a b c d = .ints (if Zv a.tM (kc b.tN) = true /\ Yc a.tM b.tN = false then c.tN ++ [d.tI] else c.tN)
theorem JtSig.of {S T : Sig GG} (h : JtSig S) (hu : T.usr = S.usr) (hp : T.prd = S.prd) : JtSig T := by
 constructor
 ·exact h.jb.of hu
 all_goals first | (rw [hp]; first | exact h.p100 | exact h.p101 | exact h.p102 | exact h.p103) | (rw [hu]; first | exact h.u568 | exact h.u569 | exact h.u570 | exact h.u571 | exact h.u565 | exact h.u566 | exact h.u540 | exact h.u541 | exact h.u542 | exact h.u543 | exact h.u544 | exact h.u545 | exact h.u546 | exact h.u547 | exact h.u548 | exact h.u549 | exact h.u550 | exact h.u551 | exact h.u552 | exact h.u553 | exact h.u554 | exact h.u555 | exact h.u556 | exact h.u557 | exact h.u558 | exact h.u559 | exact h.u560 | exact h.u561 | exact h.u562 | exact h.u563 | exact h.u564)
def txC (R g : SX) : Ch := .prd 100 R g
def txO (i R g : SX) : Ch := .prd 101 (Zae (ZtA i) R) g
def usM (k : Nat) (a b : SX) : SX := .us .amap k a b z0 z0
def rAr (b x c : SX) : Ch := .arr rE b x c
def ZDb (who beg com : SX) (opn : SX) (mb rb rl rc bb bl bc : SX) : List SC := [.int .i64 who, .int .i64 beg, .int .i64 com, .bool opn, .map mb, slC rb rl rc 7, sl1 bb bl bc]
def txQ (R g i : SX) : List SC := ZDb (usI 540 g i z0) (usI 541 g i z0) (usI 542 g i z0) (usB 543 g i z0) (nt R i 1) (nt R i 2) (Zg (usR 545 g i z0)) (nt R i 3) (nt R i 4) (ZbW (usN 546 g i z0)) (nt R i 5)
def txP (b R g i : SX) : List Ch := [.cel b 0 (txQ R g i), scC (nt R i 1) (usM 544 g i), rAr (nt R i 2) (usR 545 g i z0) (nt R i 3), iAr (nt R i 4) (usN 546 g i z0) (nt R i 5)]
def ixW (g w : SX) : SX := usI 553 g w z0
def ZNg (R g i : SX) : List SX := [eLe (Zg (usR 545 g i z0)) (nt R i 3), eLe (ZbW (usN 546 g i z0)) (nt R i 5), .f2 50 (eLe z0 (nt R i 2)) (.f2 45 (Zg (usR 545 g i z0)) z0), .f2 50 (eLe z0 (nt R i 4)) (.f2 45 (ZbW (usN 546 g i z0)) z0), eLe z0 (nt R i 1), eLe z0 (nt R i 0), .f2 45 (Zg R) (usI 552 g z0 z0)]
def ZC8 : Ctr := ⟨[.int, .int, .rows, .g], [.one (.ptr (ai 0) 0), .one (.int .i64 (ai 1))], [txC (rA 2) (gA 3)], [eLt (ixW (gA 3) (ai 1)) (usI 552 (gA 3) z0 z0), .f2 45 (ai 0) (nt (rA 2) (ixW (gA 3) (ai 1)) 0)], [], .tup [],
 txP (ai 0) (rA 2) (gA 3) (ixW (gA 3) (ai 1)) ++ [txO (ixW (gA 3) (ai 1)) (rA 2) (gA 3)], ZNg (rA 2) (gA 3) (ixW (gA 3) (ai 1))⟩
def ZlI : Ctr := ⟨[.int, .int, .rows, .g], [.one (.ptr (ai 0) 0)], txO (ai 1) (rA 2) (gA 3) :: txP (ai 0) (rA 2) (gA 3) (ai 1), [.f2 45 (Zg (rA 2)) (usI 552 (gA 3) z0 z0), eLe z0 (ai 1), eLt (ai 1) (usI 552 (gA 3) z0 z0), .f2 45 (ai 0) (nt (rA 2) (ai 1) 0)], [], .tup [], [txC (rA 2) (gA 3)], []⟩
def Zpp : Ctr := ⟨[.int, .int, .rows, .g, .int, .int, .int, .bool, .int, .int, .int, .int, .int, .amap, .rows, .ints, .int, .int], [.one (.ptr (ai 0) 0)],
 [txO (ai 1) (rA 2) (gA 3), .cel (ai 0) 0 (ZDb (ai 4) (ai 5) (ai 6) (qA 7) (ai 8) (ai 9) (ai 16) (ai 10) (ai 11) (ai 17) (ai 12)), scC (ai 8) (mA 13), rAr (ai 9) (rA 14) (ai 10), iAr (ai 11) (iA 15) (ai 12)],
 [.f2 45 (Zg (rA 2)) (usI 552 (gA 3) z0 z0), eLe z0 (ai 1), eLt (ai 1) (usI 552 (gA 3) z0 z0), .f2 45 (ai 4) (usI 540 (gA 3) (ai 1) z0), .f2 45 (ai 5) (usI 541 (gA 3) (ai 1) z0), .f2 45 (ai 16) (Zg (rA 14)), .f2 45 (ai 17) (ZbW (iA 15))], [], .tup [],
 [txC (usR 554 (rA 2) (ai 1) (Zbm (ai 0) (ai 8) (ai 9) (ai 10) (ai 11) (ai 12))) (.us .g 556 (.us .g 555 (gA 3) (ai 1) (mA 13) (Zb7 (ai 6) (.f1 3 (qA 7)))) (ai 1) (rA 14) (iA 15))], []⟩
def adTC : Ctr := ⟨[.int, .rows, .g, .int, .int, .int], [.one (.ptr (ai 0) 0)],
 [.cel (ai 0) 0 [.int .i64 (ai 3), .int .i64 (ai 4), .int .i64 (.int (-1)), .bool (.bool true), .map (ai 5), slC (.int (-1)) z0 z0 1, sl1 (.int (-1)) z0 z0], scC (ai 5) (.f1 155 z0), txC (rA 1) (gA 2)], [], [], .tup [],
 [txC (.f2 121 (rA 1) (Zae (Zbm (ai 0) (ai 5) (.int (-1)) z0 (.int (-1)) z0) Zfu)) (usG 557 (gA 2) (ai 3) (ai 4))], []⟩
def pE : En := .rows [.ptr]
def ixB (R b : SX) : SX := usI 566 R b z0
def twC (v y R g : SX) : Ch := .prd 102 (Zae (Zb7 v y) R) g
def ZDR : Ctr := ⟨[.int, .int, .int, .int, .int, .rows, .int, .rows, .g], [.one (slC (ai 0) (ai 1) (ai 2) 1), .one (.int .i64 (ai 3)), .one (.ptr (ai 4) 0)], [.arr pE (ai 0) (rA 5) (ai 6), txC (rA 7) (gA 8)],
 [usB 565 (rA 7) (ai 4) z0, usB 565 (rA 7) (nt (rA 5) (ai 3) 0) z0, .f1 2 (.f2 45 (ai 4) (nt (rA 5) (ai 3) 0))], [], .tup [],
 [.arr pE (ai 0) (rA 5) (ai 6), .cel (ai 4) 0 (txQ (rA 7) (gA 8) (ixB (rA 7) (ai 4))), .cel (nt (rA 5) (ai 3) 0) 0 (txQ (rA 7) (gA 8) (ixB (rA 7) (nt (rA 5) (ai 3) 0))), twC (ai 4) (nt (rA 5) (ai 3) 0) (rA 7) (gA 8)], []⟩
def ZDq : Ctr := ⟨[.int, .int, .rows, .g], [.one (.ptr (ai 0) 0)], [twC (ai 0) (ai 1) (rA 2) (gA 3), .cel (ai 0) 0 (txQ (rA 2) (gA 3) (ixB (rA 2) (ai 0))), .cel (ai 1) 0 (txQ (rA 2) (gA 3) (ixB (rA 2) (ai 1)))],
 [usB 565 (rA 2) (ai 0) z0, usB 565 (rA 2) (ai 1) z0], [], .tup [], [txC (rA 2) (gA 3)], []⟩
def ZLx : Ctr := ⟨[.rows, .g], [], [txC (rA 0) (gA 1)], [], [], .tup [], [txC (rA 0) (gA 1)], [usB 558 (rA 0) (gA 1) z0]⟩
def Zt2 : Ctr := ⟨[.int, .rows, .g], [.one (.ptr (ai 0) 0)], [txC (rA 1) (gA 2)], [usB 565 (rA 1) (ai 0) z0], [], .tup [],
 txP (ai 0) (rA 1) (gA 2) (ixB (rA 1) (ai 0)) ++ [txO (ixB (rA 1) (ai 0)) (rA 1) (gA 2)], .f2 45 (ai 0) (nt (rA 1) (ixB (rA 1) (ai 0)) 0) :: eLt (ixB (rA 1) (ai 0)) (usI 552 (gA 2) z0 z0) :: ZNg (rA 1) (gA 2) (ixB (rA 1) (ai 0))⟩
def pAr (b x c : SX) : Ch := .arr pE b x c
def ZFc : Ctr := ⟨[], [], [], [], [], .tup [], [pAr (.int (-1)) Zfu z0], []⟩
def ZJY : Ctr := ⟨[], [], [], [], [], .tup [], [rAr (.int (-1)) Zfu z0], []⟩
def bkC (b x : SX) : Ch := .prd 103 (Zae (ZtA b) x) z0
def imC (b m : SX) : Ch := .map (.int .i64) (.one .ptr) b m
def bkQ (ma kb kl kc ob ol oc ft wt : SX) : List SC := [.map ma, slC kb kl kc 1, slC ob ol oc 7, .int .i64 ft, .int .i64 wt]
def xX : SX := tk (rA 4) (ai 2)
def ZJU : Ctr := ⟨hA ++ [.int], [.one (hS 0), .one (.ptr (ai 6) 0)], [hC 0 0], [eLt (ai 6) z0], [], .tup [], [hC 0 0, bkC (ai 6) xX], []⟩
def Zu4 : Ctr := ⟨hA ++ [.int, .int, .int, .int, .int, .int, .int, .int, .int, .int, .rows, .g, .amap, .rows, .rows], [.one (hS 0), .one (.ptr (ai 6) 0)],
 [hC 0 0, .cel (ai 6) 0 (bkQ (ai 7) (ai 8) (ai 9) (ai 10) (ai 11) (ai 12) (ai 13) (ai 14) (ai 15)), imC (ai 7) (mA 18), pAr (ai 8) (rA 19) (ai 10), rAr (ai 11) (rA 20) (ai 13), txC (rA 16) (gA 17)],
 [eLe z0 (ai 6), eqS (gA 17) (usG 561 xX (Zg xX) z0), eqS (mA 18) (.us .amap 547 (rA 16) (gA 17) z0 z0), eqS (rA 19) (usR 548 xX (Zg xX) (rA 16)), eqS (rA 20) (usR 549 xX (Zg xX) z0), .f2 45 (ai 9) (Zg (rA 19)), .f2 45 (ai 12) (Zg (rA 20)),
  .f2 45 (ai 14) (usI 550 xX (Zg xX) z0), .f2 45 (ai 15) (usI 551 xX (Zg xX) z0)], [], .tup [], [hC 0 0, bkC (ai 6) xX], []⟩
def emTC : Ctr := ⟨[], [], [], [], [], .tup [], [txC Zfu (usG 561 Zfu z0 z0)], []⟩
theorem ZbB : ∀ {k : List (List Int)} {q : List Tx} {h : Hl}, Ze4 k q h -> k.length = q.length
 | [], [], _, _ => rfl
 | r :: k, p :: q, h, hx => by
  obtain ⟨a, b, _, _, _, hb⟩ := hx
  rw [ZOd, ZOd, ZbB hb]
 | [], _ :: _, _, hx => hx.elim
 | _ :: _, [], _, hx => hx.elim
theorem Zen : ∀ {a : List (List Int)} {c : List Tx} (b : List (List Int)) (d : List Tx), a.length = c.length -> Ze4 (a ++ b) (c ++ d) = Zc (Ze4 a c) (Ze4 b d)
 | [], [], b, d, _ => by rw [List.nil_append, List.nil_append]; show _ = Zc emp _; rw [emp_star]
 | r :: a, p :: c, b, d, h => by
  rw [List.cons_append, List.cons_append]
  show Zc _ (Ze4 (a ++ b) (c ++ d)) = Zc (Zc _ (Ze4 a c)) (Ze4 b d)
  rw [Zen b d (by simpa using h), star_assoc]
 | [], _ :: _, _, _, h => by simp at h
 | _ :: _, [], _, _, h => by simp at h
theorem ZsU (r : List Int) (p : Tx) : Ze4 [r] [p] = ZdG r p := by
 show Zc _ emp = _
 rw [Zd]
theorem ZtO {R : List (List Int)} {L : List Tx} {i : Int} (hl : R.length = L.length) (h0 : 0 <= i) (hi : i < R.length) (r : List Int) (t : Tx) :
  Ze4 (ZCJ R i r) (setT L i t) = Zc (ZL3 i R L) (ZdG r t) := by
 unfold ZCJ setT ZL3
 rw [<- List.singleton_append, <- List.singleton_append (l := L.drop _), Zen _ _ (by rw [ZNV, ZNV]; omega), Zen _ _ (show [r].length = [t].length from rfl), ZsU, star_assoc, ZG (ZdG _ _)]
theorem Ztf {α : Type} {R : List α} {d : α} {i : Nat} (hi : i < R.length) : R.take i ++ R.getD i d :: R.drop (i + 1) = R := by
 have := Zgz (d := d) hi
 rw [List.singleton_append] at this
 exact this.symm
theorem ZiH {R : List (List Int)} {L : List Tx} {i : Int} (hl : R.length = L.length) (h0 : 0 <= i) (hi : i < R.length) : Ze4 R L = Zc (ZL3 i R L) (ZdG (R.getD i.toNat []) (atT L i)) := by
 rw [<- ZtO hl h0 hi]
 unfold ZCJ setT atT
 rw [Ztf (by omega), Ztf (by omega)]
theorem ZeH (T : Sig GG) (ρ : Go.Eng.Env GG) (w0 : World) (b who beg com opn mb rb rl rc bb bl bc : SX) : (Ch.cel b 0 (ZDb who beg com opn mb rb rl rc bb bl bc)).den T ρ w0 =
  ZFj (b.den T ρ).tI (who.den T ρ).tI (beg.den T ρ).tI (com.den T ρ).tI (opn.den T ρ).toBool (mb.den T ρ).tI (rb.den T ρ).tI (rl.den T ρ).tI (rc.den T ρ).tI (bb.den T ρ).tI (bl.den T ρ).tI (bc.den T ρ).tI := by
 simp only [ZDb, Ch.den, ZN2, List.map_nil, sl1, Zds, SC.den, reduceCtorEq]
 rfl
theorem ZoF (T : Sig GG) (ρ : Go.Eng.Env GG) (w0 : World) (b m : SX) : (scC b m).den T ρ w0 = ZwY (b.den T ρ).tI (m.den T ρ).tM := rfl
theorem ZkK (T : Sig GG) (ρ : Go.Eng.Env GG) (w0 : World) (b x c : SX) : (rAr b x c).den T ρ w0 = rAD rE (b.den T ρ).tI (x.den T ρ).tR (c.den T ρ).tI := rfl
theorem Zzd (T : Sig GG) (ρ : Go.Eng.Env GG) (w0 : World) (b x c : SX) : (iAr b x c).den T ρ w0 = iAD (b.den T ρ).tI (x.den T ρ).tN (c.den T ρ).tI := rfl
theorem Zih (T : Sig GG) (ρ : Go.Eng.Env GG) (R i : SX) (k : Nat) : (nt R i k).den T ρ = .int (((R.den T ρ).tR.getD (i.den T ρ).tI.toNat []).getD k 0) := by
 show (ap3 112 (R.den T ρ) (i.den T ρ) (U.int (k : Int))) = _
 rw [ZxH]; rfl
theorem ZyH {T : Sig GG} (hT : JtSig T) (ρ : Go.Eng.Env GG) (w0 : World) (b R g i : SX) (hb : (b.den T ρ).tI = g0 ((R.den T ρ).tR.getD (i.den T ρ).tI.toNat [])) :
  hpDen T ρ w0 (txP b R g i) = ZdG ((R.den T ρ).tR.getD (i.den T ρ).tI.toNat []) (atT (ZW (g.den T ρ)) (i.den T ρ).tI) := by
 have e : hpDen T ρ w0 (txP b R g i) = Zc ((Ch.cel b 0 (txQ R g i)).den T ρ w0) (Zc ((scC (nt R i 1) (usM 544 g i)).den T ρ w0) (Zc ((rAr (nt R i 2) (usR 545 g i z0) (nt R i 3)).den T ρ w0) (Zc ((iAr (nt R i 4) (usN 546 g i z0) (nt R i 5)).den T ρ w0) emp))) := rfl
 rw [e, Zd, txQ, ZeH, ZoF, ZkK, Zzd]
 simp only [Zih, usI, usB, usR, usN, usM, Zg, ZbW, SX.den, hT.u540, hT.u541, hT.u542, hT.u543, hT.u544, hT.u545, hT.u546, Z4, Yw, Zmf, YJ, ZkX, ZmF, Y5, U.tIi, U.tQi, U.tMi, U.tRi, U.tNi]
 rw [hb]
 rfl
theorem Zd0 {r : List Int} {t : Tx} {h : Hl} (hi : ZdG r t h) : ((t.rds.length : Nat) : Int) <= g3 r /\ ((t.bad.length : Nat) : Int) <= g5 r /\ (0 <= g2 r \/ ((t.rds.length : Nat) : Int) = 0) /\ (0 <= g4 r \/ ((t.bad.length : Nat) : Int) = 0) /\ 0 <= g1 r /\ 0 <= g0 r := by
 obtain ⟨a, b, _, _, ha, hb⟩ := hi
 obtain ⟨c, d, _, _, hc, hd⟩ := hb
 obtain ⟨e, f, _, _, he, hf⟩ := hd
 have h1 := ZfX (by decide) he
 have h2 := ZMQ hf
 refine ⟨h1, h2, ?_, ?_, hc.1, by simpa using ha.1⟩
 ·obtain ⟨_, _, _, q, _⟩ := he
  rcases q with q | q
  ·exact .inl q
  ·exact .inr (by have : g3 r = 0 := q; omega)
 ·obtain ⟨_, _, _, q, _⟩ := hf
  rcases q with q | q
  ·exact .inl q
  ·exact .inr (by have : g5 r = 0 := q; omega)
theorem ZD1 {T : Sig GG} (hT : JtSig T) (ρ : Go.Eng.Env GG) (R g i : SX) {h : Hl} (hl : (R.den T ρ).tR.length = (ZW (g.den T ρ)).length) (hi : ZdG ((R.den T ρ).tR.getD (i.den T ρ).tI.toNat []) (atT (ZW (g.den T ρ)) (i.den T ρ).tI) h) : ∀ e ∈ ZNg R g i, (e.den T ρ).tP := by
 obtain ⟨f1, f2, f3, f4, f5, f6⟩ := Zd0 hi
 have w1 : ((Zg (usR 545 g i z0)).den T ρ).tI = ((atT (ZW (g.den T ρ)) (i.den T ρ).tI).rds.length : Nat) := by
  simp only [Zg, usR, SX.den, hT.u545, YJ, Y5, U.tIi, U.tRi]
 have w2 : ((ZbW (usN 546 g i z0)).den T ρ).tI = ((atT (ZW (g.den T ρ)) (i.den T ρ).tI).bad.length : Nat) := by
  simp only [ZbW, usN, SX.den, hT.u546, ZkX, ZmF, U.tIi, U.tNi]
 have n0 : ∀ k, ((nt R i k).den T ρ).tI = (((R.den T ρ).tR.getD (i.den T ρ).tI.toNat []).getD k 0) := fun k => by rw [Zih]; rfl
 have z : (z0.den T ρ).tI = 0 := rfl
 intro e he
 simp only [ZNg, List.mem_cons, List.not_mem_nil, or_false] at he
 rcases he with rfl | rfl | rfl | rfl | rfl | rfl | rfl
 ·rw [Zf, w1, n0]; exact f1
 ·rw [Zf, w2, n0]; exact f2
 ·simp only [SX.den, p50]
  rcases f3 with q | q
  ·left; show ((eLe z0 (nt R i 2)).den T ρ).tP; rw [Zf, n0, z]; exact q
  ·right; show (ap2 45 ((Zg (usR 545 g i z0)).den T ρ) (z0.den T ρ)).tP; rw [p45, w1, z]; exact q
 ·simp only [SX.den, p50]
  rcases f4 with q | q
  ·left; show ((eLe z0 (nt R i 4)).den T ρ).tP; rw [Zf, n0, z]; exact q
  ·right; show (ap2 45 ((ZbW (usN 546 g i z0)).den T ρ) (z0.den T ρ)).tP; rw [p45, w2, z]; exact q
 ·rw [Zf, n0, z]; exact f5
 ·rw [Zf, n0, z]; exact f6
 ·simp only [Zg, usI, SX.den, hT.u552, p45, Y5, U.tIi, Z4]; rw [hl]
theorem ZyA {T : Sig GG} (hT : JtSig T) (ρ : Go.Eng.Env GG) (w0 : World) (b R g i : SX) {h : Hl} (h0 : 0 <= (i.den T ρ).tI) (h1 : (i.den T ρ).tI < ((ZW (g.den T ρ)).length : Nat))
  (hb : (b.den T ρ).tI = ((nt R i 0).den T ρ).tI) (hp : Ze4 (R.den T ρ).tR (ZW (g.den T ρ)) h) : hpDen T ρ w0 (txP b R g i ++ [txO i R g]) h /\ ∀ e ∈ ZNg R g i, (e.den T ρ).tP := by
 have hl := ZbB hp
 rw [ZiH hl h0 (by omega)] at hp
 rw [Zih] at hb
 have hb : (b.den T ρ).tI = g0 ((R.den T ρ).tR.getD (i.den T ρ).tI.toNat []) := hb
 have e : hpDen T ρ w0 (txP b R g i ++ [txO i R g]) = Zc (hpDen T ρ w0 (txP b R g i)) (Zc (T.prd 101 w0 ((Zae (ZtA i) R).den T ρ) (g.den T ρ)) emp) := by
  unfold hpDen; rw [ZN9, Zdu]; rfl
 rw [e, Zd, ZyH hT ρ w0 b R g i hb, hT.p101]
 have k2 : ((Zae (ZtA i) R).den T ρ).tR = [(i.den T ρ).tI] :: (R.den T ρ).tR := rfl
 rw [k2]
 refine ⟨by rw [ZG]; exact hp, ?_⟩
 obtain ⟨_, _, _, _, _, hi⟩ := hp
 exact ZD1 hT ρ R g i hl hi
theorem Zoj (S : Sig GG) (hS : JtSig S) : Zbp S ZC8 := by
 refine Ys S fun T w0 ρ h hu hp hd hr hpre => ⟨ρ, Ext.refl _ _, ?_⟩
 have hT := hS.of hu hp
 have e1 : hpDen T ρ w0 ZC8.pre = Zc (T.prd 100 w0 ((rA 2).den T ρ) ((gA 3).den T ρ)) emp := rfl
 rw [e1, Zd, hT.p100] at hpre
 have r1 := hr (eLt (ixW (gA 3) (ai 1)) (usI 552 (gA 3) z0 z0)) (by simp [ZC8])
 have r2 := hr (.f2 45 (ai 0) (nt (rA 2) (ixW (gA 3) (ai 1)) 0)) (by simp [ZC8])
 have hix : ((ixW (gA 3) (ai 1)).den T ρ).tI = (ixL (ρ 1).tI (ZW ((gA 3).den T ρ)) : Nat) := by
  simp only [ixW, usI, SX.den, hT.u553, Z4, U.tIi]; rfl
 rw [Yi] at r1
 have e552 : ((usI 552 (gA 3) z0 z0).den T ρ).tI = ((ZW ((gA 3).den T ρ)).length : Nat) := by
  simp only [usI, SX.den, hT.u552, Z4, U.tIi]
 rw [e552] at r1
 have r2 : (ap2 45 ((ai 0).den T ρ) ((nt (rA 2) (ixW (gA 3) (ai 1)) 0).den T ρ)).tP := r2
 rw [p45] at r2
 exact ZyA hT ρ w0 (ai 0) (rA 2) (gA 3) (ixW (gA 3) (ai 1)) (by rw [hix]; omega) r1 r2 hpre
theorem Zdd (S : Sig GG) (hS : JtSig S) : Zbp S ZlI := by
 refine Ys S fun T w0 ρ h hu hp hd hr hpre => ⟨ρ, Ext.refl _ _, ?_, (fun x hx => nomatch hx)⟩
 have hT := hS.of hu hp
 have e1 : hpDen T ρ w0 ZlI.pre = Zc (T.prd 101 w0 ((Zae (ZtA (ai 1)) (rA 2)).den T ρ) ((gA 3).den T ρ)) (hpDen T ρ w0 (txP (ai 0) (rA 2) (gA 3) (ai 1))) := rfl
 have e2 : hpDen T ρ w0 ZlI.post = Zc (T.prd 100 w0 ((rA 2).den T ρ) ((gA 3).den T ρ)) emp := rfl
 have r0 := hr (eLe z0 (ai 1)) (by simp [ZlI])
 have r1 := hr (eLt (ai 1) (usI 552 (gA 3) z0 z0)) (by simp [ZlI])
 have r2 := hr (.f2 45 (ai 0) (nt (rA 2) (ai 1) 0)) (by simp [ZlI])
 rw [Zf] at r0
 rw [Yi] at r1
 simp only [usI, SX.den, hT.u552, Z4, U.tIi] at r1
 have r2 : (ap2 45 ((ai 0).den T ρ) ((nt (rA 2) (ai 1) 0).den T ρ)).tP := r2
 rw [p45, Zih] at r2
 have k2 : ((Zae (ZtA (ai 1)) (rA 2)).den T ρ).tR = [((ai 1).den T ρ).tI] :: ((rA 2).den T ρ).tR := rfl
 rw [e1, hT.p101, k2, ZyH hT ρ w0 (ai 0) (rA 2) (gA 3) (ai 1) r2] at hpre
 rw [e2, Zd, hT.p100]
 have r0 : 0 <= ((ai 1).den T ρ).tI := r0
 have hl := hr (.f2 45 (Zg (rA 2)) (usI 552 (gA 3) z0 z0)) (by simp [ZlI])
 simp only [Zg, usI, SX.den, hT.u552, p45, Y5, U.tIi, Z4] at hl
 have hl : ((rA 2).den T ρ).tR.length = (ZW ((gA 3).den T ρ)).length := by omega
 rw [ZiH hl r0 (by omega)]
 exact hpre
theorem Zgm {L : List Tx} {i : Int} {t u : Tx} (h0 : 0 <= i) (hi : i < L.length) : setT (setT L i t) i u = setT L i u /\ atT (setT L i t) i = t := by
 have hl : (L.take i.toNat).length = i.toNat := by rw [ZNV]; omega
 have e1 : (L.take i.toNat ++ t :: L.drop (i.toNat + 1)).take i.toNat = L.take i.toNat := by
  rw [List.take_append_of_le_length (by omega), List.take_take, Nat.min_self]
 have e2 : (L.take i.toNat ++ t :: L.drop (i.toNat + 1)).drop (i.toNat + 1) = L.drop (i.toNat + 1) := by
  rw [List.drop_append, List.drop_of_length_le (by omega), hl, List.nil_append, show i.toNat + 1 - i.toNat = 1 by omega]; rfl
 unfold setT atT
 refine ⟨by rw [e1, e2], ?_⟩
 rw [ZNT, ZOc (by omega), hl, Nat.sub_self]; rfl
theorem ZlP (S : Sig GG) (hS : JtSig S) : Zbp S Zpp := by
 refine Ys S fun T w0 ρ h hu hp hd hr hpre => ⟨ρ, Ext.refl _ _, ?_, (fun x hx => nomatch hx)⟩
 have hT := hS.of hu hp
 have e1 : hpDen T ρ w0 Zpp.pre = Zc (T.prd 101 w0 ((Zae (ZtA (ai 1)) (rA 2)).den T ρ) ((gA 3).den T ρ)) (Zc ((Ch.cel (ai 0) 0 (ZDb (ai 4) (ai 5) (ai 6) (qA 7) (ai 8) (ai 9) (ai 16) (ai 10) (ai 11) (ai 17) (ai 12))).den T ρ w0) (Zc ((scC (ai 8) (mA 13)).den T ρ w0) (Zc ((rAr (ai 9) (rA 14) (ai 10)).den T ρ w0) (Zc ((iAr (ai 11) (iA 15) (ai 12)).den T ρ w0) emp)))) := rfl
 have e2 : hpDen T ρ w0 Zpp.post = Zc (T.prd 100 w0 ((usR 554 (rA 2) (ai 1) (Zbm (ai 0) (ai 8) (ai 9) (ai 10) (ai 11) (ai 12))).den T ρ) ((Go.Eng.SX.us .g 556 (.us .g 555 (gA 3) (ai 1) (mA 13) (Zb7 (ai 6) (.f1 3 (qA 7)))) (ai 1) (rA 14) (iA 15)).den T ρ)) emp := rfl
 have r0 := hr (eLe z0 (ai 1)) (by simp [Zpp])
 have r1 := hr (eLt (ai 1) (usI 552 (gA 3) z0 z0)) (by simp [Zpp])
 have r4 := hr (.f2 45 (ai 4) (usI 540 (gA 3) (ai 1) z0)) (by simp [Zpp])
 have r5 := hr (.f2 45 (ai 5) (usI 541 (gA 3) (ai 1) z0)) (by simp [Zpp])
 have r6 := hr (.f2 45 (ai 16) (Zg (rA 14))) (by simp [Zpp])
 have r7 := hr (.f2 45 (ai 17) (ZbW (iA 15))) (by simp [Zpp])
 have hl := hr (.f2 45 (Zg (rA 2)) (usI 552 (gA 3) z0 z0)) (by simp [Zpp])
 rw [Zf] at r0
 rw [Yi] at r1
 simp only [usI, SX.den, hT.u552, Z4, U.tIi] at r1
 simp only [Zg, ZbW, usI, SX.den, hT.u552, hT.u540, hT.u541, p45, ZmF, Y5, U.tIi, Z4] at hl r4 r5 r6 r7
 have hl : ((rA 2).den T ρ).tR.length = (ZW ((gA 3).den T ρ)).length := by omega
 have r0 : 0 <= ((ai 1).den T ρ).tI := r0
 have k2 : ((Zae (ZtA (ai 1)) (rA 2)).den T ρ).tR = [((ai 1).den T ρ).tI] :: ((rA 2).den T ρ).tR := rfl
 have k3 : ((usR 554 (rA 2) (ai 1) (Zbm (ai 0) (ai 8) (ai 9) (ai 10) (ai 11) (ai 12))).den T ρ).tR = ZCJ ((rA 2).den T ρ).tR ((ai 1).den T ρ).tI [(ρ 0).tI, (ρ 8).tI, (ρ 9).tI, (ρ 10).tI, (ρ 11).tI, (ρ 12).tI] := by
  simp only [usR, SX.den, hT.u554, YJ, U.tRi]; try rfl
 have k4 : ZW ((Go.Eng.SX.us .g 556 (.us .g 555 (gA 3) (ai 1) (mA 13) (Zb7 (ai 6) (.f1 3 (qA 7)))) (ai 1) (rA 14) (iA 15)).den T ρ) =
   setT (ZW ((gA 3).den T ρ)) ((ai 1).den T ρ).tI (ZA2 (ZuS (atT (ZW ((gA 3).den T ρ)) ((ai 1).den T ρ).tI) (ρ 13).tM [(ρ 6).tI, b01 (ρ 7).toBool]) (ρ 14).tR (ρ 15).tN) := by
  have hw : ZW ((Go.Eng.SX.us .g 555 (gA 3) (ai 1) (mA 13) (Zb7 (ai 6) (.f1 3 (qA 7)))).den T ρ) = setT (ZW ((gA 3).den T ρ)) ((ai 1).den T ρ).tI (ZuS (atT (ZW ((gA 3).den T ρ)) ((ai 1).den T ρ).tI) (ρ 13).tM [(ρ 6).tI, b01 (ρ 7).toBool]) := by
   simp only [SX.den, hT.u555, ZLU, ZY]; rfl
  have hw2 : ∀ g : SX, ZW ((Go.Eng.SX.us .g 556 g (ai 1) (rA 14) (iA 15)).den T ρ) = setT (ZW (g.den T ρ)) ((ai 1).den T ρ).tI (ZA2 (atT (ZW (g.den T ρ)) ((ai 1).den T ρ).tI) (ρ 14).tR (ρ 15).tN) := fun g => by
   simp only [SX.den, hT.u556, ZLU, ZY]; rfl
  rw [hw2, hw, (Zgm r0 r1).1, (Zgm (u := tx0) r0 r1).2]
 rw [e1, hT.p101, k2, ZeH, ZoF, ZkK, Zzd, Zd] at hpre
 rw [e2, Zd, hT.p100, k3, k4, ZtO hl r0 (by omega)]
 have ei : ZdG [(ρ 0).tI, (ρ 8).tI, (ρ 9).tI, (ρ 10).tI, (ρ 11).tI, (ρ 12).tI] (ZA2 (ZuS (atT (ZW ((gA 3).den T ρ)) ((ai 1).den T ρ).tI) (ρ 13).tM [(ρ 6).tI, b01 (ρ 7).toBool]) (ρ 14).tR (ρ 15).tN) =
   Zc (ZFj (ρ 0).tI (ρ 4).tI (ρ 5).tI (ρ 6).tI (b01 (ρ 7).toBool == 1) (ρ 8).tI (ρ 9).tI (ρ 16).tI (ρ 10).tI (ρ 11).tI (ρ 17).tI (ρ 12).tI) (Zc (ZwY (ρ 8).tI (ρ 13).tM) (Zc (rAD rE (ρ 9).tI (ρ 14).tR (ρ 10).tI) (iAD (ρ 11).tI (ρ 15).tN (ρ 12).tI))) := by
  have q4 : (ρ 4).tI = (atT (ZW ((gA 3).den T ρ)) ((ai 1).den T ρ).tI).who := r4
  have q5 : (ρ 5).tI = (atT (ZW ((gA 3).den T ρ)) ((ai 1).den T ρ).tI).beg := r5
  have q6 : (ρ 16).tI = ((ρ 14).tR.length : Nat) := r6
  have q7 : (ρ 17).tI = ((ρ 15).tN.length : Nat) := r7
  rw [q4, q5, q6, q7]; rfl
 rw [ei, show (b01 (ρ 7).toBool == 1) = (ρ 7).toBool from by cases (ρ 7).toBool <;> rfl]
 exact hpre
theorem ZJ3 (S : Sig GG) (hS : JtSig S) : Zbp S adTC := by
 refine Ys S fun T w0 ρ h hu hp hd hr hpre => ⟨ρ, Ext.refl _ _, ?_, (fun x hx => nomatch hx)⟩
 have hT := hS.of hu hp
 have e1 : hpDen T ρ w0 adTC.pre = Zc ((Ch.cel (ai 0) 0 (ZDb (ai 3) (ai 4) (.int (-1)) (.bool true) (ai 5) (.int (-1)) z0 z0 (.int (-1)) z0 z0)).den T ρ w0) (Zc ((scC (ai 5) (.f1 155 z0)).den T ρ w0) (Zc (T.prd 100 w0 ((rA 1).den T ρ) ((gA 2).den T ρ)) emp)) := by
  have q : (Ch.cel (ai 0) 0 (ZDb (ai 3) (ai 4) (.int (-1)) (.bool true) (ai 5) (.int (-1)) z0 z0 (.int (-1)) z0 z0)).den T ρ w0 = (Ch.cel (ai 0) 0 [.int .i64 (ai 3), .int .i64 (ai 4), .int .i64 (.int (-1)), .bool (.bool true), .map (ai 5), slC (.int (-1)) z0 z0 1, sl1 (.int (-1)) z0 z0]).den T ρ w0 := by
   rw [ZeH]
   simp only [Ch.den, ZN2, List.map_nil, sl1, Zds, SC.den, reduceCtorEq]
   rfl
  rw [q]; rfl
 have e2 : hpDen T ρ w0 adTC.post = Zc (T.prd 100 w0 ((Go.Eng.SX.f2 121 (rA 1) (Zae (Zbm (ai 0) (ai 5) (.int (-1)) z0 (.int (-1)) z0) Zfu)).den T ρ) ((usG 557 (gA 2) (ai 3) (ai 4)).den T ρ)) emp := rfl
 rw [e1, ZeH, ZoF, Zd, hT.p100] at hpre
 have k3 : ((Go.Eng.SX.f2 121 (rA 1) (Zae (Zbm (ai 0) (ai 5) (.int (-1)) z0 (.int (-1)) z0) Zfu)).den T ρ).tR = ((rA 1).den T ρ).tR ++ [[(ρ 0).tI, (ρ 5).tI, -1, 0, -1, 0]] := rfl
 have k4 : ZW ((usG 557 (gA 2) (ai 3) (ai 4)).den T ρ) = ZW ((gA 2).den T ρ) ++ [⟨(ρ 3).tI, (ρ 4).tI, -1, true, [], [], []⟩] := by
  simp only [usG, SX.den, hT.u557, ZLU, ZY]; rfl
 rw [e2, Zd, hT.p100, k3, k4]
 obtain ⟨a, b, d, rfl, ha, c, e, d2, rfl, hc, he⟩ := hpre
 rw [Zen _ _ (ZbB he), ZsU]
 have ei : ZdG [(ρ 0).tI, (ρ 5).tI, -1, 0, -1, 0] ⟨(ρ 3).tI, (ρ 4).tI, -1, true, [], [], []⟩ = Zc (ZFj (ρ 0).tI (ρ 3).tI (ρ 4).tI (-1) true (ρ 5).tI (-1) 0 0 (-1) 0 0) (ZwY (ρ 5).tI []) := by
  show Zc _ (Zc _ (Zc (rAD rE (-1) [] 0) (iAD (-1) [] 0))) = _
  rw [rE, Ze6, ZqM, Zd, Zd]; rfl
 rw [ei, ZG, star_assoc]
 exact ⟨a, _, d, rfl, ha, c, e, d2, rfl, hc, he⟩
theorem ZC5 {b : Int} {w1 b1 c1 : Int} {o1 : Bool} {m1 r1 l1 q1 s1 t1 u1 w2 b2 c2 : Int} {o2 : Bool} {m2 r2 l2 q2 s2 t2 u2 : Int} {A : HProp} {h : Hl}
  (hs : Zc (ZFj b w1 b1 c1 o1 m1 r1 l1 q1 s1 t1 u1) (Zc (ZFj b w2 b2 c2 o2 m2 r2 l2 q2 s2 t2 u2) A) h) : False := by
 obtain ⟨x, y, d, rfl, ⟨_, hx⟩, z, v, d2, rfl, ⟨_, hz⟩, _⟩ := hs
 have e1 : x b.toNat 0 = some (.val (.int .i64 w1) true) := by rw [hx]; exact ZcH (o := 0) (i := 0) (by simp)
 have e2 : z b.toNat 0 = some (.val (.int .i64 w2) true) := by rw [hz]; exact ZcH (o := 0) (i := 0) (by simp)
 rcases d b.toNat 0 with q | q
 ·rw [e1] at q; cases q
 ·unfold Hl.un at q; rw [e2] at q; cases q
theorem ZrO {r : List Int} : ∀ {R : List (List Int)} {L : List Tx} {h : Hl}, r ∈ R -> Ze4 R L h -> ∃ (t : Tx) (A : HProp), Zc (ZFj (g0 r) t.who t.beg t.com t.opn (g1 r) (g2 r) (t.rds.length : Nat) (g3 r) (g4 r) (t.bad.length : Nat) (g5 r)) A h
 | s :: R, t :: L, h, hm, hx => by
  rcases List.mem_cons.1 hm with rfl | hm
  ·have hx : Zc (ZdG r t) (Ze4 R L) h := hx
   unfold ZdG at hx
   rw [star_assoc] at hx
   exact ⟨t, _, hx⟩
  ·obtain ⟨a, b, d, rfl, ha, hb⟩ := hx
   obtain ⟨u, A, hA⟩ := ZrO hm hb
   have : Zc (ZdG s t) (Zc _ A) (Hl.un a b) := ⟨a, b, d, rfl, ha, hA⟩
   rw [Zn] at this
   exact ⟨u, _, this⟩
 | _ :: _, [], _, _, hx => hx.elim
 | [], _, _, hm, _ => by cases hm
theorem ZhK : ∀ {R : List (List Int)} {L : List Tx} {h : Hl}, Ze4 R L h -> (R.map g0).Nodup /\ ∀ r ∈ R, 0 <= g0 r
 | [], [], _, _ => ⟨List.nodup_nil, fun r hr => by cases hr⟩
 | r :: R, t :: L, h, hx => by
  obtain ⟨a, b, d, rfl, ha, hb⟩ := hx
  obtain ⟨h1, h2⟩ := ZhK hb
  refine ⟨?_, fun s hs => ?_⟩
  ·rw [ZN2, List.nodup_cons]
   refine ⟨fun hm => ?_, h1⟩
   obtain ⟨s, hs, he⟩ := List.mem_map.1 hm
   obtain ⟨u, A, hA⟩ := ZrO hs hb
   have hq : Zc (ZdG r t) (Zc _ A) (Hl.un a b) := ⟨a, b, d, rfl, ha, hA⟩
   unfold ZdG at hq
   rw [star_assoc, he] at hq
   rw [Zn (A := Zc (ZwY _ _) _)] at hq
   exact ZC5 hq
  ·rcases List.mem_cons.1 hs with rfl | hs
   ·exact (Zd0 ha).2.2.2.2.2
   ·exact h2 s hs
 | [], _ :: _, _, hx => hx.elim
 | _ :: _, [], _, hx => hx.elim
theorem ZcC {l : Int} : ∀ {R : List (List Int)}, ZdD l R < R.length -> g0 (R.getD (ZdD l R) []) = l
 | [], h => absurd h (Nat.not_lt_zero _)
 | r :: R, h => by
  unfold ZdD at h ⊢
  cases hp : g0 r == l
  ·rw [hp] at h
   have h : ZdD l R + 1 < R.length + 1 := h
   show g0 (R.getD (ZdD l R) []) = l
   exact ZcC (by omega)
  ·exact beq_iff_eq.1 hp
theorem Zah {R : List (List Int)} {b : Int} (h : Zq0 R b) : ZdD b R < R.length := by
 obtain ⟨k, hk, rfl⟩ := h
 induction R generalizing k with
 | nil => exact absurd hk (Nat.not_lt_zero _)
 | cons r R ih =>
  unfold ZdD
  cases hp : g0 r == g0 ((r :: R).getD k [])
  ·cases k with
   | zero => have : (g0 r == g0 r) = false := hp; simp at this
   | succ k =>
    have := ih k (by simpa using hk)
    show ZdD _ R + 1 < R.length + 1
    have e : (r :: R).getD (k + 1) [] = R.getD k [] := rfl
    rw [e]; omega
  ·exact Nat.zero_lt_succ _
theorem ZBh (R : List (List Int)) (L : List Tx) (i : Nat) : ∃ A, ZdG (R.getD i []) (L.getD i tx0) = Zc A (ZiT R L i) := ⟨_, ZG _ _⟩
theorem Zfj {T : Sig GG} (hT : JtSig T) (ρ : Go.Eng.Env GG) (w0 : World) (b R g i : SX) (I : Nat) (hi : (i.den T ρ).tI = (I : Nat)) (hb : (b.den T ρ).tI = g0 ((R.den T ρ).tR.getD I [])) :
  (Ch.cel b 0 (txQ R g i)).den T ρ w0 = ZiT (R.den T ρ).tR (ZW (g.den T ρ)) I := by
 rw [txQ, ZeH]
 simp only [Zih, usI, usB, usR, usN, usM, Zg, ZbW, SX.den, hT.u540, hT.u541, hT.u542, hT.u543, hT.u545, hT.u546, Z4, Yw, Zmf, YJ, ZkX, ZmF, Y5, U.tIi, U.tQi, U.tRi, U.tNi, hi, atT, ZN0]
 rw [hb]
 rfl
theorem ZtL {R : List (List Int)} {L : List Tx} {j k : Nat} (hl : R.length = L.length) (hj : j < R.length) (hk : k < R.length) (hne : j ≠ k) : ∃ A, Ze4 R L = Zc A (Zc (ZiT R L j) (ZiT R L k)) := by
 have pick : ∀ (R : List (List Int)) (L : List Tx) (k : Nat), R.length = L.length -> k < R.length -> ∃ A, Ze4 R L = Zc A (ZiT R L k) := by
  intro R L k hl hk
  have h := ZiH (R := R) (L := L) (i := (k : Nat)) hl (by omega) (by omega)
  rw [ZN0] at h
  obtain ⟨A, hA⟩ := ZBh R L k
  have e : atT L (k : Nat) = L.getD k tx0 := by unfold atT; rw [ZN0]
  rw [e, hA, <- star_assoc] at h
  exact ⟨_, h⟩
 have main : ∀ (j k : Nat), j < k -> k < R.length -> ∃ A, Ze4 R L = Zc A (Zc (ZiT R L j) (ZiT R L k)) := by
  intro j k hjk hk
  have h : Ze4 (R.take k ++ R.drop k) (L.take k ++ L.drop k) = _ := Zen _ _ (by rw [ZNV, ZNV]; omega)
  rw [List.take_append_drop, List.take_append_drop] at h
  obtain ⟨A, hA⟩ := pick (R.take k) (L.take k) j (by rw [ZNV, ZNV]; omega) (by rw [ZNV]; omega)
  obtain ⟨B, hB⟩ := pick (R.drop k) (L.drop k) 0 (by rw [ZN7, ZN7]; omega) (by rw [ZN7]; omega)
  have e1 : ZiT (R.take k) (L.take k) j = ZiT R L j := by unfold ZiT; rw [Zdt hjk, Zdt hjk]
  have gd : ∀ {α : Type} (l : List α) (d : α), (l.drop k).getD 0 d = l.getD k d := fun l d => by
   rw [ZNT, ZNT, ZOi, Nat.add_zero]
  have e2 : ZiT (R.drop k) (L.drop k) 0 = ZiT R L k := by unfold ZiT; rw [gd, gd]
  rw [hA, hB, e1, e2] at h
  refine ⟨Zc A B, ?_⟩
  rw [h, star_assoc, star_assoc, Zn (ZiT R L j)]
 rcases ZNN j k with h | h
 ·exact main j k h hk
 ·obtain ⟨A, hA⟩ := main k j (by omega) hj
  exact ⟨A, by rw [hA, ZG (ZiT R L k)]⟩
theorem ZBk (S : Sig GG) (hS : JtSig S) : Zbp S ZDR := by
 refine Ys S fun T w0 ρ h hu hp hd hr hpre => ⟨ρ, Ext.refl _ _, ?_, (fun x hx => nomatch hx)⟩
 have hT := hS.of hu hp
 have e1 : hpDen T ρ w0 ZDR.pre = Zc ((Ch.arr pE (ai 0) (rA 5) (ai 6)).den T ρ w0) (Zc (T.prd 100 w0 ((rA 7).den T ρ) ((gA 8).den T ρ)) emp) := rfl
 have e2 : hpDen T ρ w0 ZDR.post = Zc ((Ch.arr pE (ai 0) (rA 5) (ai 6)).den T ρ w0) (Zc ((Ch.cel (ai 4) 0 (txQ (rA 7) (gA 8) (ixB (rA 7) (ai 4)))).den T ρ w0) (Zc ((Ch.cel (nt (rA 5) (ai 3) 0) 0 (txQ (rA 7) (gA 8) (ixB (rA 7) (nt (rA 5) (ai 3) 0)))).den T ρ w0) (Zc (T.prd 102 w0 ((Zae (Zb7 (ai 4) (nt (rA 5) (ai 3) 0)) (rA 7)).den T ρ) ((gA 8).den T ρ)) emp))) := rfl
 have r0 := hr (usB 565 (rA 7) (ai 4) z0) (by simp [ZDR])
 have r1 := hr (usB 565 (rA 7) (nt (rA 5) (ai 3) 0) z0) (by simp [ZDR])
 have r2 := hr (.f1 2 (.f2 45 (ai 4) (nt (rA 5) (ai 3) 0))) (by simp [ZDR])
 have n0 := Zih T ρ (rA 5) (ai 3) 0
 simp only [usB, SX.den, hT.u565, Yw, U.tPi, U.tQi, Zi] at r0 r1
 have r2 : (ap1 2 (ap2 45 ((ai 4).den T ρ) ((nt (rA 5) (ai 3) 0).den T ρ))).tP := r2
 rw [ZGe] at r2
 generalize hv : ((ai 4).den T ρ).tI = v at *
 generalize hy : ((nt (rA 5) (ai 3) 0).den T ρ).tI = y at *
 have ib : ∀ b : SX, ((ixB (rA 7) b).den T ρ).tI = (ZdD (b.den T ρ).tI ((rA 7).den T ρ).tR : Nat) := fun b => by
  simp only [ixB, usI, SX.den, hT.u566, Z4, U.tIi]
 have k2 : ((Zae (Zb7 (ai 4) (nt (rA 5) (ai 3) 0)) (rA 7)).den T ρ).tR = [v, y] :: ((rA 7).den T ρ).tR := by
  show ([((ai 4).den T ρ).tI, ((nt (rA 5) (ai 3) 0).den T ρ).tI] :: ((rA 7).den T ρ).tR) = _
  rw [hv, hy]
 have a0 := ZcC (Zah r0)
 have a1 := ZcC (Zah r1)
 rw [e1, Zd, hT.p100] at hpre
 rw [e2, Zd, Zfj hT ρ w0 (ai 4) (rA 7) (gA 8) (ixB (rA 7) (ai 4)) (ZdD v ((rA 7).den T ρ).tR) (by rw [ib, hv]) (by rw [a0, hv]),
  Zfj hT ρ w0 (nt (rA 5) (ai 3) 0) (rA 7) (gA 8) (ixB (rA 7) (nt (rA 5) (ai 3) 0)) (ZdD y ((rA 7).den T ρ).tR) (by rw [ib, hy]) (by rw [a1, hy]), hT.p102, k2]
 generalize ((rA 7).den T ρ).tR = R at *
 generalize ZW ((gA 8).den T ρ) = L at *
 obtain ⟨p, q, d, rfl, hp1, hq⟩ := hpre
 have hl := ZbB hq
 have hne : ZdD v R ≠ ZdD y R := fun e => r2 (by rw [<- a0, <- a1, e])
 obtain ⟨A, hA⟩ := ZtL hl (Zah r0) (Zah r1) hne
 have hq2 := hq
 rw [hA] at hq2
 obtain ⟨s, t, d2, rfl, hs, ht⟩ := hq2
 have hw : ZJM (g0 ([v, y] :: R |>.getD 0 [])) (g1 ([v, y] :: R |>.getD 0 [])) (([v, y] :: R).drop 1) L s := by
  intro h' hd' hh'
  show Ze4 R L _
  rw [hA]
  exact ⟨s, h', hd', rfl, hs, hh'⟩
 refine ⟨p, _, d, rfl, hp1, ?_⟩
 have : Zc (Zc (ZiT R L (ZdD v R)) (ZiT R L (ZdD y R))) (ZJM (g0 ([v, y] :: R |>.getD 0 [])) (g1 ([v, y] :: R |>.getD 0 [])) (([v, y] :: R).drop 1) L) (Hl.un s t) := ⟨t, s, d2.symm, Hl.un_comm d2, ht, hw⟩
 rw [star_assoc] at this
 exact this
theorem ZtF (S : Sig GG) (hS : JtSig S) : Zbp S ZDq := by
 refine Ys S fun T w0 ρ h hu hp hd hr hpre => ⟨ρ, Ext.refl _ _, ?_, (fun x hx => nomatch hx)⟩
 have hT := hS.of hu hp
 have e1 : hpDen T ρ w0 ZDq.pre = Zc (T.prd 102 w0 ((Zae (Zb7 (ai 0) (ai 1)) (rA 2)).den T ρ) ((gA 3).den T ρ)) (Zc ((Ch.cel (ai 0) 0 (txQ (rA 2) (gA 3) (ixB (rA 2) (ai 0)))).den T ρ w0) (Zc ((Ch.cel (ai 1) 0 (txQ (rA 2) (gA 3) (ixB (rA 2) (ai 1)))).den T ρ w0) emp)) := rfl
 have e2 : hpDen T ρ w0 ZDq.post = Zc (T.prd 100 w0 ((rA 2).den T ρ) ((gA 3).den T ρ)) emp := rfl
 have r0 := hr (usB 565 (rA 2) (ai 0) z0) (by simp [ZDq])
 have r1 := hr (usB 565 (rA 2) (ai 1) z0) (by simp [ZDq])
 simp only [usB, SX.den, hT.u565, Yw, U.tPi, U.tQi, Zi] at r0 r1
 have ib : ∀ b : SX, ((ixB (rA 2) b).den T ρ).tI = (ZdD (b.den T ρ).tI ((rA 2).den T ρ).tR : Nat) := fun b => by
  simp only [ixB, usI, SX.den, hT.u566, Z4, U.tIi]
 have k2 : ((Zae (Zb7 (ai 0) (ai 1)) (rA 2)).den T ρ).tR = [((ai 0).den T ρ).tI, ((ai 1).den T ρ).tI] :: ((rA 2).den T ρ).tR := rfl
 have a0 := ZcC (Zah r0)
 have a1 := ZcC (Zah r1)
 rw [e1, Zd, hT.p102, k2, Zfj hT ρ w0 (ai 0) (rA 2) (gA 3) (ixB (rA 2) (ai 0)) _ (by rw [ib]) (by rw [a0]),
  Zfj hT ρ w0 (ai 1) (rA 2) (gA 3) (ixB (rA 2) (ai 1)) _ (by rw [ib]) (by rw [a1])] at hpre
 rw [e2, Zd, hT.p100]
 obtain ⟨a, b, d, rfl, ha, hb⟩ := hpre
 exact ha b d hb
theorem ZEL (S : Sig GG) (hS : JtSig S) : Zbp S ZLx := by
 refine Ys S fun T w0 ρ h hu hp hd hr hpre => ⟨ρ, Ext.refl _ _, hpre, ?_⟩
 have hT := hS.of hu hp
 have e1 : hpDen T ρ w0 ZLx.pre = Zc (T.prd 100 w0 ((rA 0).den T ρ) ((gA 1).den T ρ)) emp := rfl
 rw [e1, Zd, hT.p100] at hpre
 intro x hx
 simp only [ZLx, ZNM] at hx
 subst hx
 simp only [usB, SX.den, hT.u558, Yw, U.tPi, U.tQi, Zi]
 exact ⟨ZbB hpre, (ZhK hpre).1, (ZhK hpre).2⟩
theorem ZKX (S : Sig GG) (hS : JtSig S) : Zbp S emTC := by
 refine Ys S fun T w0 ρ h hu hp hd hr hpre => ⟨ρ, Ext.refl _ _, ?_, (fun x hx => nomatch hx)⟩
 have hT := hS.of hu hp
 have e1 : hpDen T ρ w0 emTC.pre = emp := rfl
 have e2 : hpDen T ρ w0 emTC.post = Zc (T.prd 100 w0 (Zfu.den T ρ) ((usG 561 Zfu z0 z0).den T ρ)) emp := rfl
 rw [e1] at hpre
 rw [e2, Zd, hT.p100]
 have k : ZW ((usG 561 Zfu z0 z0).den T ρ) = [] := by
  simp only [usG, SX.den, hT.u561, ZLU, ZY]; rfl
 rw [k]
 exact hpre
def entZ : SX := Zbm (ai 2) (ai 3) (.f1 35 (bA 4)) (.f1 35 (bA 5)) (.f1 3 (qA 6)) (ai 7)
def reaW : SX := .us .rows 563 (mA 17) entZ (rA 18) (ai 1)
def reaV : SX := .us .ints 564 (mA 17) entZ (iA 19) (ai 1)
def mil : SX := .int 1000000
def ZBM : Ctr := ⟨[.int, .int, .int, .int, .bytes, .bytes, .bool, .int, .int, .int, .int, .bool, .int, .int, .int, .int, .int, .amap, .rows, .ints],
 [.one (.ptr (ai 0) 0), .one (.int .i64 (ai 1)), .agg [.int .i64 (ai 2), .int .i64 (ai 3), .str (bA 4), .str (bA 5), .bool (qA 6), .int .i64 (ai 7)]],
 [.cel (ai 0) 0 (ZDb (ai 8) (ai 9) (ai 10) (qA 11) (ai 12) (ai 13) (Zg (rA 18)) (ai 14) (ai 15) (ZbW (iA 19)) (ai 16)), scC (ai 12) (mA 17), rAr (ai 13) (rA 18) (ai 14), iAr (ai 15) (iA 19) (ai 16)],
 [eLe z0 (ai 12), eLe (Zg (rA 18)) (ai 14), eLe (ZbW (iA 19)) (ai 16), eLe (Zg (rA 18)) mil, eLe (ZbW (iA 19)) mil, .f2 50 (eLe z0 (ai 13)) (.f2 45 (Zg (rA 18)) z0), .f2 50 (eLe z0 (ai 15)) (.f2 45 (ZbW (iA 19)) z0)],
 [.int, .int, .int, .int], .tup [],
 [.cel (ai 0) 0 (ZDb (ai 8) (ai 9) (ai 10) (qA 11) (ai 12) (ai 20) (Zg reaW) (ai 21) (ai 22) (ZbW reaV) (ai 23)), scC (ai 12) (mA 17), rAr (ai 20) reaW (ai 21), iAr (ai 22) reaV (ai 23)],
 [eLe (Zg reaW) (ai 21), eLe (ZbW reaV) (ai 23), .f2 50 (eLe z0 (ai 20)) (.f2 45 (Zg reaW) z0), .f2 50 (eLe z0 (ai 22)) (.f2 45 (ZbW reaV) z0)]⟩
def ZLw : Cx := { specs := [(24, [ZjO])], anns := [] }
def Zyc : Ctr := ⟨[.int, .int, .int, .rows, .int, .rows, .g], [.one (slC (ai 0) (ai 1) (ai 2) 1), .one (.ptr (ai 4) 0)], [.arr pE (ai 0) (rA 3) (ai 2), txC (rA 5) (gA 6)],
 [.f2 45 (ai 1) (Zg (rA 3)), eLe (ai 1) (ai 2), eLe (ai 1) mil, usB 560 (rA 3) (rA 5) z0, .f2 50 (eLt (ai 4) z0) (usB 565 (rA 5) (ai 4) z0), usB 558 (rA 5) (gA 6) z0], [.bool], .one (.bool (qA 7)), [.arr pE (ai 0) (rA 3) (ai 2), txC (rA 5) (gA 6)], [.f2 48 (qA 7) (usB 562 (rA 3) (ai 4) z0)]⟩
def cntI : Inv := ⟨[.int], [(8, .one (.int .i64 (di 0)))], [], [eLe z0 (di 0), eLe (di 0) (ai 1), .f1 2 (usB 562 (tk (rA 3) (di 0)) (ai 4) z0)], .f2 41 (ai 1) (di 0)⟩
def cntE : SX := .f2 45 (ai 4) (nt (rA 3) (ai 7) 0)
def ZLr : Cx := { specs := [], anns := [(50, [(2, .inv cntI), (4, .split (eLt (ai 4) z0)), (4, .iff (eLe z0 (ai 4))), (4, .split cntE), (4, .iff (ZcT cntE)), (4, .ghost ZDR [.tmp 0, .tmp 5, .tmp 1]), (500004, .iff (ZcT cntE)), (500004, .ghost ZDq [.tmp 1])])] }
def ZIS : SX := l z (a 13)
def ZJk : SX := l z (a 15)
def ZHJ : SX := .f1 2 (.f2 141 (m 17) (.f1 35 (b 4)))
def ZyF : SX := .f2 40 (.f1 32 (r 18)) (k 1)
def ZDO : SX := l z (a 23)
def ZAk : SX := .f2 122 (a 2) (.f2 122 (a 3) (.f2 122 (.f1 35 (b 4)) (.f2 122 (.f1 35 (b 5)) (.f2 122 (.f1 3 (q 6)) (.f2 122 (a 7) (.f1 152 z))))))
def ZED : SX := .us .rows 563 (m 17) ZAk (r 18) (a 1)
def ZuI : SX := .f1 32 ZED
def ZDz : SX := .us .ints 564 (m 17) ZAk (s 19) (a 1)
def ZuY : SX := .f1 30 ZDz
def ZxV : SX := l ZuY (a 16)
def ZB0 : SX := e ZuI z
def ZBx : SX := e ZuY z
def ZAH : SX := .f2 50 ZJk ZBx
def ZCt : SX := .f2 155 ZDz (s 19)
def ZB8 : SX := e ZuY (.f1 30 (s 19))
def ZnL : SX := .f2 40 (.f1 30 (s 19)) (k 1)
def ZBa : SX := l z (a 24)
def ZyY : SX := l ZuI (a 14)
def ZwG : SX := .f2 50 ZIS ZB0
def Zvs : SX := .f2 155 ZED (r 18)
def ZBV : SX := e ZuI (.f1 32 (r 18))
def ZKj : VC := i (l z (a 12)) (i (l (.f1 32 (r 18)) (a 14)) (i (l (.f1 30 (s 19)) (a 16)) (i (l (.f1 32 (r 18)) (k 1000000)) (i (l (.f1 30 (s 19)) (k 1000000)) (i (.f2 50 ZIS (e (.f1 32 (r 18)) z)) (i (.f2 50 ZJk (e (.f1 30 (s 19)) z)) (u 20 .int (i (l z (a 20)) (u 21 .int (i (l z (a 21)) (.and (i ZHJ (u 22 .int (i (l z (a 22)) (n (l (.f1 32 (r 18)) (.f1 32 (r 18))) (n (l (.f2 42 ZyF (k 72)) k1) (u 23 .int (u 24 .int (i (l ZyF (a 24)) (i (.f2 50 ZDO (e ZyF z)) (n (l ZuI (a 24)) (n ZxV (n (.f2 50 ZDO ZB0) (n ZAH (n ZCt (n (.f2 155 ZED (.f2 121 (r 18) (.f2 124 (.f2 122 (a 1) ZAk) (.f1 154 z)))) (n ZB8 (n (e ZuI ZyF) .tt))))))))))))))))) (i (.f1 2 ZHJ) (u 22 .bool (i (.f2 48 (q 22) (c 530 (m 17) ZAk)) (.and (i (.f1 2 (q 22)) (u 23 .int (i ZDO (n (l (.f1 30 (s 19)) (.f1 30 (s 19))) (n (l (.f2 42 ZnL (k 8)) k1) (u 24 .int (u 25 .int (i (l ZnL (a 25)) (i (.f2 50 ZBa (e ZnL z)) (n ZyY (n (l ZuY (a 25)) (n ZwG (n (.f2 50 ZBa ZBx) (n (.f2 155 ZDz (.f2 119 (s 19) (.f2 122 (a 1) (.f1 152 z)))) (n Zvs (n (e ZuY ZnL) (n ZBV .tt))))))))))))))))) (i (.f1 2 (.f1 2 (q 22))) (n ZyY (n ZxV (n ZwG (n ZAH (n ZCt (n Zvs (n ZB8 (n ZBV .tt))))))))))))))))))))))))
theorem ZMF : Zcl Try.prog ZLw 12 35 ZBM = ZKj := by kernel_rfl
def ZIp : SX := t (a 4) z
def ZHq : SX := c 565 (r 5) (a 4)
def ZFI : SX := l z (a 7)
def ZDL : SX := t (a 7) (.f1 32 (r 3))
def ZDM : SX := .f3 112 (r 3) (a 7) z
def Zu0 : SX := .f2 40 (a 7) (k 1)
def ZJa : SX := .f1 23 Zu0
def ZGA : SX := .f2 41 (a 1) Zu0
def ZFL : SX := l z ZGA
def ZFF : SX := t ZGA (.f2 41 (a 1) (a 7))
def ZB7 : SX := l z Zu0
def ZzC : SX := l Zu0 (a 1)
def ZCk : SX := .f1 2 (c 562 (.f2 115 (r 3) Zu0) (a 4))
def Zxx : SX := e (a 4) ZDM
def ZzQ : SX := c 562 (r 3) (a 4)
def ZMq : VC := i (e (a 1) (.f1 32 (r 3))) (i (l (a 1) (a 2)) (i (l (a 1) (k 1000000)) (i (c 560 (r 3) (r 5)) (i (.f2 50 ZIp ZHq) (i (c 558 (r 5) (g 6)) (n (l z (a 1)) (n (.f1 2 (c 562 (.f2 115 (r 3) z) (a 4))) (u 7 .int (i ZFI (i (l (a 7) (a 1)) (i (.f1 2 (c 562 (.f2 115 (r 3) (a 7)) (a 4))) (.and (i (t (a 7) (a 1)) (.and (i ZIp (n ZDL (n (l z ZDM) (n ZJa (n ZFL (n ZFF (n ZB7 (n ZzC (n ZCk .tt))))))))) (i (l z (a 4)) (.and (i Zxx (n ZDL (n (.f2 48 ZFI ZzQ) .tt))) (i (.f1 2 Zxx) (n ZHq (n (c 565 (r 5) ZDM) (n ZDL (n ZJa (n ZFL (n ZFF (n ZB7 (n ZzC (n ZCk .tt)))))))))))))) (i (l (a 1) (a 7)) (n (.f2 48 (.bool false) ZzQ) .tt))))))))))))))
theorem ZLv : Zcl Try.prog ZLr 12 36 Zyc = ZMq := by kernel_rfl
theorem ZJ4 (S : Sig GG) (hS : JtSig S) : ZR S Try.prog 35 ZBM := by
 refine Zo S (C := ZLw) (fuel := 12) (YV ⟨Zm (by decide) (Zsp S hS.jb), trivial⟩ trivial trivial) fun ρ => ?_
 rw [ZMF]
 simp only [ZKj, ZIS, ZJk, ZHJ, ZyF, ZDO, ZAk, ZED, ZuI, ZDz, ZuY, ZxV, ZB0, ZBx, ZAH, ZCt, ZB8, ZnL, ZBa, ZyY, ZwG, Zvs, ZBV, hS.jb.u530, hS.u563, hS.u564, ZY, VC.den, SX.den, Env.upd, ZaN, Yr, beq_iff_eq, ZNS, beq_eq_false_iff_ne, ne_eq, ZNR, ZNQ, Int.reduceToNat, Nat.reduceEqDiff, reduceIte, sB, sC]
 have hk : kc [(ρ 2).tI, (ρ 3).tI, ((Zj (ρ 4).tB : Nat) : Int), ((Zj (ρ 5).tB : Nat) : Int), b01 (ρ 6).toBool, (ρ 7).tI] = (Zj (ρ 4).tB : Nat) := by
  unfold kc ZL
  simp only [List.getD_cons_zero, List.getD_cons_succ, ZN0, Zl]
 have hn : nr [(ρ 2).tI, (ρ 3).tI, ((Zj (ρ 4).tB : Nat) : Int), ((Zj (ρ 5).tB : Nat) : Int), b01 (ρ 6).toBool, (ρ 7).tI] = [(ρ 2).tI, (ρ 3).tI, ((Zj (ρ 4).tB : Nat) : Int), ((Zj (ρ 5).tB : Nat) : Int), b01 (ρ 6).toBool, (ρ 7).tI] := by
  unfold nr xk xw ZL YX Zbc xt
  simp only [List.getD_cons_zero, List.getD_cons_succ, ZN0, Zl, Zff]
 simp only [hk, hn]
 generalize ([(ρ 2).tI, (ρ 3).tI, ((Zj (ρ 4).tB : Nat) : Int), ((Zj (ρ 5).tB : Nat) : Int), b01 (ρ 6).toBool, (ρ 7).tI] : List Int) = E
 generalize ((Zj (ρ 4).tB : Nat) : Int) = K
 generalize (ρ 17).tM = M
 generalize (ρ 18).tR = X
 generalize (ρ 19).tN = Y
 generalize Yc M E = s
 cases Zv M K
 ·simp only [Bool.false_eq_true, if_false, false_and, ZNY, ZNH]
  repeat' (first | exact trivial | rfl | omega | assumption | apply And.intro | intro _)
  all_goals simp_all
 ·cases s
  ·simp only [if_true, true_and, ZNY, ZNH]
   repeat' (first | exact trivial | rfl | omega | assumption | apply And.intro | intro _)
   all_goals simp_all
  ·simp only [if_true, Bool.true_eq_false, and_false, if_false]
   repeat' (first | exact trivial | rfl | omega | assumption | apply And.intro | intro _)
   all_goals simp_all
theorem ZJ5 (S : Sig GG) (hS : JtSig S) : ZR S Try.prog 36 Zyc := by
 refine Zo S (C := ZLr) (fuel := 12) (YV trivial ⟨⟨trivial, trivial, trivial, trivial, trivial, ⟨by decide, ZBk S hS⟩, trivial, ⟨by decide, ZtF S hS⟩, trivial⟩, trivial⟩ trivial) fun ρ => ?_
 rw [ZLv]
 simp only [ZMq, ZIp, ZHq, ZFI, ZDL, ZDM, Zu0, ZJa, ZGA, ZFL, ZFF, ZB7, ZzC, ZCk, Zxx, ZzQ, hS.u558, hS.u560, hS.u562, hS.u565, ZY, VC.den, SX.den, Env.upd, ZaN, Yr, beq_iff_eq, ZNS, beq_eq_false_iff_ne, ne_eq, ZNR, ZNQ, Int.reduceToNat, Nat.reduceEqDiff, reduceIte, sB, sC]
 generalize (ρ 3).tR = F
 generalize (ρ 5).tR = R
 generalize (ρ 4).tI = v
 generalize (ρ 1).tI = l
 generalize ZW _ = L
 intro h1 h2 h3 h4 h5 h6
 refine ⟨by omega, ZH (by rw [List.take_zero]; exact List.not_mem_nil), fun x hx0 hx1 hx2 => ?_⟩
 obtain ⟨n, rfl⟩ := ZNL hx0
 have e1 : ((n : Int) + 1).toNat = n + 1 := by omega
 simp only [e1, ZN0] at hx2 ⊢
 have hx2 : ¬ [v] ∈ F.take n := fun h => by rw [ZF h] at hx2; cases hx2
 refine ⟨fun hlt => ?_, fun hge => ⟨?_, trivial⟩⟩
 ·have hn : n < F.length := by omega
  have hgt : F.getD n [] = F[n] := by rw [ZNT, ZNW hn, ZNO]
  have hm : F.getD n [] ∈ F := by rw [hgt]; exact ZOg hn
  obtain ⟨b, hb, hbl⟩ := h4 _ hm
  have e2 : F.take (n + 1) = F.take n ++ [F.getD n []] := by rw [hgt]; exact (List.take_append_getElem hn).symm
  rw [e2, hb]
  have hb0 : ([b] : List Int).getD 0 0 = b := rfl
  rw [hb0]
  have hpos : 0 <= b := by
   obtain ⟨k, hk, rfl⟩ := hbl
   refine h6.2.2 _ ?_
   rw [ZNT, ZNW hk, ZNO]; exact ZOg hk
  have no : ¬ v = b -> Zp ([v] ∈ F.take n ++ [[b]]) = false := fun hne => ZH fun h => by
   rcases List.mem_append.1 h with h | h
   ·exact hx2 h
   ·rw [ZNM] at h; injection h with h; exact hne h
  refine ⟨fun hv => ⟨by omega, hpos, by omega, by omega, by omega, by omega, by omega, no (by omega), trivial⟩, fun hv => ⟨fun he => ⟨by omega, ?_, trivial⟩, fun he => ⟨?_, hbl, by omega, by omega, by omega, by omega, by omega, by omega, no he, trivial⟩⟩⟩
  ·rw [ZF (by rw [he, <- hb]; exact hm), Za.2 (by omega)]
  ·rcases h5 with h | h
   ·omega
   ·exact h
 ·rw [ZN5 (by omega)] at hx2
  rw [ZH hx2]
theorem ZDV {G : Type} {S : Sig G} {P : Program} {f : Nat} {sp sq : Ctr} (hw : sp.wf = true) (h : ZR S P f sp) (hw2 : sq.wf = true) (h2 : ZR S P f sq) : ∀ q ∈ [sp, sq], q.wf = true /\ ZR S P f q := by
 intro q hq
 rcases List.mem_cons.1 hq with rfl | hq
 ·exact ⟨hw, h⟩
 ·rw [ZNM] at hq; subst hq; exact ⟨hw2, h2⟩
theorem Zdq (S : Sig GG) (hS : JtSig S) : Zbp S Zt2 := by
 refine Ys S fun T w0 ρ h hu hp hd hr hpre => ⟨ρ, Ext.refl _ _, ?_⟩
 have hT := hS.of hu hp
 have e1 : hpDen T ρ w0 Zt2.pre = Zc (T.prd 100 w0 ((rA 1).den T ρ) ((gA 2).den T ρ)) emp := rfl
 rw [e1, Zd, hT.p100] at hpre
 have r0 := hr (usB 565 (rA 1) (ai 0) z0) (by simp [Zt2])
 simp only [usB, SX.den, hT.u565, Yw, U.tPi, U.tQi, Zi] at r0
 have hix : ((ixB (rA 1) (ai 0)).den T ρ).tI = (ZdD ((ai 0).den T ρ).tI ((rA 1).den T ρ).tR : Nat) := by
  simp only [ixB, usI, SX.den, hT.u566, Z4, U.tIi]
 have r0 : Zq0 ((rA 1).den T ρ).tR ((ai 0).den T ρ).tI := r0
 have hlt := Zah r0
 have hat := ZcC hlt
 have hl := ZbB hpre
 have hb : ((ai 0).den T ρ).tI = ((nt (rA 1) (ixB (rA 1) (ai 0)) 0).den T ρ).tI := by
  rw [Zih, hix, ZN0]
  exact hat.symm
 obtain ⟨k1, k2⟩ := ZyA hT ρ w0 (ai 0) (rA 1) (gA 2) (ixB (rA 1) (ai 0)) (by rw [hix]; omega) (by rw [hix]; omega) hb hpre
 refine ⟨k1, fun e he => ?_⟩
 rcases List.mem_cons.1 he with rfl | he
 ·show (ap2 45 ((ai 0).den T ρ) ((nt (rA 1) (ixB (rA 1) (ai 0)) 0).den T ρ)).tP
  rw [p45]; exact hb
 ·rcases List.mem_cons.1 he with rfl | he
  ·rw [Yi, hix]
   have e552 : ((usI 552 (gA 2) z0 z0).den T ρ).tI = ((ZW ((gA 2).den T ρ)).length : Nat) := by
    simp only [usI, SX.den, hT.u552, Z4, U.tIi]
   rw [e552]; omega
  ·exact k2 e he
theorem ZmS {G : Type} (S : Sig G) : Zbp S ZFc := by
 refine Ys S fun T w0 ρ h hu hp hd hr hpre => ⟨ρ, Ext.refl _ _, ?_, by intro x hx; exact nomatch hx⟩
 have e1 : hpDen T ρ w0 ZFc.pre = emp := rfl
 have e2 : hpDen T ρ w0 ZFc.post = Zc (rAD pE (-1) [] 0) emp := rfl
 rw [e1] at hpre
 rw [e2, Zd, pE, Ze6]; exact hpre
theorem ZE8 {G : Type} (S : Sig G) : Zbp S ZJY := by
 refine Ys S fun T w0 ρ h hu hp hd hr hpre => ⟨ρ, Ext.refl _ _, ?_, by intro x hx; exact nomatch hx⟩
 have e1 : hpDen T ρ w0 ZJY.pre = emp := rfl
 have e2 : hpDen T ρ w0 ZJY.post = Zc (rAD rE (-1) [] 0) emp := rfl
 rw [e1] at hpre
 rw [e2, Zd, rE, Ze6]; exact hpre
theorem Zot {T : Sig GG} (hT : JtSig T) (ρ : Go.Eng.Env GG) (w0 : World) (b x : SX) : (bkC b x).den T ρ w0 = ZuM (b.den T ρ).tI (x.den T ρ).tR := by
 have e : (bkC b x).den T ρ w0 = T.prd 103 w0 ((Zae (ZtA b) x).den T ρ) (z0.den T ρ) := rfl
 rw [e, hT.p103]; rfl
theorem ZFe (S : Sig GG) (hS : JtSig S) : Zbp S ZJU := by
 refine Ys S fun T w0 ρ h hu hp hd hr hpre => ⟨ρ, Ext.refl _ _, ?_, (fun x hx => nomatch hx)⟩
 have hT := hS.of hu hp
 have e1 : hpDen T ρ w0 ZJU.pre = Zc ((hC 0 0).den T ρ w0) emp := rfl
 have e2 : hpDen T ρ w0 ZJU.post = Zc ((hC 0 0).den T ρ w0) (Zc ((bkC (ai 6) xX).den T ρ w0) emp) := rfl
 have r0 := hr (eLt (ai 6) z0) (by simp [ZJU])
 rw [Yi] at r0
 have r0 : ((ai 6).den T ρ).tI < 0 := r0
 rw [e1] at hpre
 rw [e2, Zot hT, ZuM, if_pos r0, Zd]; exact hpre
theorem ZzM (T : Sig GG) (ρ : Go.Eng.Env GG) (w0 : World) (b ma kb kl kc ob ol oc ft wt : SX) : (Ch.cel b 0 (bkQ ma kb kl kc ob ol oc ft wt)).den T ρ w0 =
  celB (b.den T ρ).tI (ma.den T ρ).tI (kb.den T ρ).tI (kl.den T ρ).tI (kc.den T ρ).tI (ob.den T ρ).tI (ol.den T ρ).tI (oc.den T ρ).tI (ft.den T ρ).tI (wt.den T ρ).tI := by
 simp only [bkQ, Ch.den, ZN2, List.map_nil, sl1, Zds, SC.den, reduceCtorEq]
 rfl
theorem ZvE (T : Sig GG) (ρ : Go.Eng.Env GG) (w0 : World) (b m : SX) : (imC b m).den T ρ w0 = ZK3 (b.den T ρ).tI (m.den T ρ).tM := rfl
theorem Zv4 (T : Sig GG) (ρ : Go.Eng.Env GG) (w0 : World) (b x c : SX) : (pAr b x c).den T ρ w0 = rAD (.rows [.ptr]) (b.den T ρ).tI (x.den T ρ).tR (c.den T ρ).tI := rfl
theorem ZKH (S : Sig GG) (hS : JtSig S) : Zbp S Zu4 := by
 refine Ys S fun T w0 ρ h hu hp hd hr hpre => ⟨ρ, Ext.refl _ _, ?_, (fun x hx => nomatch hx)⟩
 have hT := hS.of hu hp
 have e1 : hpDen T ρ w0 Zu4.pre = Zc ((hC 0 0).den T ρ w0) (Zc ((Ch.cel (ai 6) 0 (bkQ (ai 7) (ai 8) (ai 9) (ai 10) (ai 11) (ai 12) (ai 13) (ai 14) (ai 15))).den T ρ w0) (Zc ((imC (ai 7) (mA 18)).den T ρ w0) (Zc ((pAr (ai 8) (rA 19) (ai 10)).den T ρ w0)
  (Zc ((rAr (ai 11) (rA 20) (ai 13)).den T ρ w0) (Zc (T.prd 100 w0 ((rA 16).den T ρ) ((gA 17).den T ρ)) emp))))) := rfl
 have e2 : hpDen T ρ w0 Zu4.post = Zc ((hC 0 0).den T ρ w0) (Zc ((bkC (ai 6) xX).den T ρ w0) emp) := rfl
 have r0 := hr (eLe z0 (ai 6)) (by simp [Zu4])
 have r1 := hr (eqS (gA 17) (usG 561 xX (Zg xX) z0)) (by simp [Zu4])
 have r2 := hr (eqS (mA 18) (.us .amap 547 (rA 16) (gA 17) z0 z0)) (by simp [Zu4])
 have r3 := hr (eqS (rA 19) (usR 548 xX (Zg xX) (rA 16))) (by simp [Zu4])
 have r4 := hr (eqS (rA 20) (usR 549 xX (Zg xX) z0)) (by simp [Zu4])
 have r5 := hr (.f2 45 (ai 9) (Zg (rA 19))) (by simp [Zu4])
 have r6 := hr (.f2 45 (ai 12) (Zg (rA 20))) (by simp [Zu4])
 have r7 := hr (.f2 45 (ai 14) (usI 550 xX (Zg xX) z0)) (by simp [Zu4])
 have r8 := hr (.f2 45 (ai 15) (usI 551 xX (Zg xX) z0)) (by simp [Zu4])
 rw [Zf] at r0
 have hX : (xX.den T ρ).tR = ((rA 4).den T ρ).tR.take (ρ 2).tI.toNat := rfl
 have hL : ((Zg xX).den T ρ).tI.toNat = (xX.den T ρ).tR.length := by
  show ((((xX.den T ρ).tR.length : Nat) : Int)).toNat = _
  omega
 have w1 : ((usG 561 xX (Zg xX) z0).den T ρ) = .g (.tx (Yj (xX.den T ρ).tR (xX.den T ρ).tR.length).txs) := by
  have : ((usG 561 xX (Zg xX) z0).den T ρ) = U.co T .g (T.usr 561 (xX.den T ρ) ((Zg xX).den T ρ) (z0.den T ρ) (z0.den T ρ)) := rfl
  rw [this, hT.u561, hL]; rfl
 have w2 : (Go.Eng.SX.us .amap 547 (rA 16) (gA 17) z0 z0).den T ρ = .amap (ZfF ((rA 16).den T ρ).tR (ZW ((gA 17).den T ρ))) := by
  have : (Go.Eng.SX.us .amap 547 (rA 16) (gA 17) z0 z0).den T ρ = U.co T .amap (T.usr 547 ((rA 16).den T ρ) ((gA 17).den T ρ) (z0.den T ρ) (z0.den T ρ)) := rfl
  rw [this, hT.u547]; rfl
 have w3 : (usR 548 xX (Zg xX) (rA 16)).den T ρ = .rows (ZbR ((rA 16).den T ρ).tR (Yj (xX.den T ρ).tR (xX.den T ρ).tR.length).kept) := by
  have : (usR 548 xX (Zg xX) (rA 16)).den T ρ = U.co T .rows (T.usr 548 (xX.den T ρ) ((Zg xX).den T ρ) ((rA 16).den T ρ) (z0.den T ρ)) := rfl
  rw [this, hT.u548, hL]; rfl
 have w4 : (usR 549 xX (Zg xX) z0).den T ρ = .rows (Yj (xX.den T ρ).tR (xX.den T ρ).tR.length).out := by
  have : (usR 549 xX (Zg xX) z0).den T ρ = U.co T .rows (T.usr 549 (xX.den T ρ) ((Zg xX).den T ρ) (z0.den T ρ) (z0.den T ρ)) := rfl
  rw [this, hT.u549, hL]; rfl
 have w7 : (usI 550 xX (Zg xX) z0).den T ρ = .int (Yj (xX.den T ρ).tR (xX.den T ρ).tR.length).fault := by
  have : (usI 550 xX (Zg xX) z0).den T ρ = U.co T .int (T.usr 550 (xX.den T ρ) ((Zg xX).den T ρ) (z0.den T ρ) (z0.den T ρ)) := rfl
  rw [this, hT.u550, hL]; rfl
 have w8 : (usI 551 xX (Zg xX) z0).den T ρ = .int (Yj (xX.den T ρ).tR (xX.den T ρ).tR.length).what := by
  have : (usI 551 xX (Zg xX) z0).den T ρ = U.co T .int (T.usr 551 (xX.den T ρ) ((Zg xX).den T ρ) (z0.den T ρ) (z0.den T ρ)) := rfl
  rw [this, hT.u551, hL]; rfl
 have p155' : ∀ a b : SX, ((eqS a b).den T ρ).tP = (a.den T ρ = b.den T ρ) := fun a b => p155 (a.den T ρ) (b.den T ρ)
 have p45' : ∀ a b : SX, ((Go.Eng.SX.f2 45 a b).den T ρ).tP = ((a.den T ρ).tI = (b.den T ρ).tI) := fun a b => p45 (a.den T ρ) (b.den T ρ)
 rw [p155', w1] at r1
 rw [p155', w2, r1] at r2
 rw [p155', w3] at r3
 rw [p155', w4] at r4
 rw [p45'] at r5 r6
 rw [p45', w7] at r7
 rw [p45', w8] at r8
 have q5 : ((ai 9).den T ρ).tI = ((((rA 19).den T ρ).tR.length : Nat) : Int) := r5
 have q6 : ((ai 12).den T ρ).tI = ((((rA 20).den T ρ).tR.length : Nat) : Int) := r6
 rw [e1, ZzM, ZvE, Zv4, ZkK, Zd, hT.p100, q5, q6, r1, r2, r3, r4, r7, r8] at hpre
 simp only [U.tRi, U.tMi, U.tIi, ZY] at hpre
 rw [e2, Zot hT, ZuM, if_neg (by have : 0 <= ((ai 6).den T ρ).tI := r0; omega), Zd]
 refine ZuU hpre fun h' hh => ⟨((ai 7).den T ρ).tI, ((ai 8).den T ρ).tI, ((ai 10).den T ρ).tI, ((ai 11).den T ρ).tI, ((ai 13).den T ρ).tI, ((rA 16).den T ρ).tR, ?_⟩
 have hk : ∀ (R : List (List Int)) (ks : List Nat), (ZbR R ks).length = ks.length := fun R ks => by unfold ZbR; rw [ZN3]
 rw [hk] at hh
 exact hh
end
end Go.Proofs.Ytidlngnhjffepaa
namespace Go.Proofs.Ytidlngnhjffepaa
noncomputable section
open Go.Eng
theorem ZEM (w : Int) : ∀ L : List Tx, ixL w L <= L.length
 | [] => ZNJ _
 | t :: L => by
  have := ZEM w L
  unfold ixL
  cases t.who == w
  ·show ixL w L + 1 <= L.length + 1; omega
  ·exact Nat.zero_le _
theorem Zbe {w : Int} : ∀ {L : List Tx}, ixL w L < L.length -> (L.getD (ixL w L) tx0).who = w
 | [], h => absurd h (Nat.not_lt_zero _)
 | t :: L, h => by
  unfold ixL at h ⊢
  cases hp : t.who == w
  ·rw [hp] at h
   have h : ixL w L + 1 < L.length + 1 := h
   show (L.getD (ixL w L) tx0).who = w
   exact Zbe (by omega)
  ·exact beq_iff_eq.1 hp
theorem Zyq {w : Int} : ∀ {L : List Tx}, ¬ ixL w L < L.length -> ∀ t ∈ L, t.who ≠ w
 | [], _, t, ht => by cases ht
 | s :: L, h, t, ht => by
  unfold ixL at h
  cases hp : s.who == w
  ·rw [hp] at h
   have h : ¬ ixL w L + 1 < L.length + 1 := h
   rcases List.mem_cons.1 ht with rfl | ht
   ·exact beq_eq_false_iff_ne.1 hp
   ·exact Zyq (by omega) t ht
  ·rw [hp] at h; exact absurd (Nat.zero_lt_succ _) h
theorem Ze1 {L : List Tx} (hn : (L.map (·.who)).Nodup) {j : Nat} (hj : j < L.length) : ixL (L.getD j tx0).who L = j := by
 induction L generalizing j with
 | nil => exact absurd hj (Nat.not_lt_zero _)
 | cons t L ih =>
  simp only [ZN2, List.nodup_cons] at hn
  unfold ixL
  cases j with
  | zero => rw [show (t.who == ((t :: L).getD 0 tx0).who) = true from by simp]; rfl
  | succ j =>
   have hj : j < L.length := by simpa using hj
   have e : (t :: L).getD (j + 1) tx0 = L.getD j tx0 := rfl
   rw [e]
   have hne : ¬ t.who = (L.getD j tx0).who := fun h => hn.1 (by
    rw [h]
    refine List.mem_map.2 ⟨L.getD j tx0, ?_, rfl⟩
    rw [ZNT, ZNW hj, ZNO]; exact ZOg hj)
   rw [show (t.who == (L.getD j tx0).who) = false from beq_eq_false_iff_ne.2 hne]
   show ixL _ L + 1 = j + 1
   rw [ih hn.2 hj]
theorem Zcq {w : Int} : ∀ {R : List (List Int)} {L : List Tx}, R.length = L.length -> ∀ d, YQ d (ZfF R L) w = (if ixL w L < L.length then g0 (R.getD (ixL w L) []) else d) /\ Zv (ZfF R L) w = decide (ixL w L < L.length)
 | [], [], _, d => ⟨rfl, rfl⟩
 | r :: R, t :: L, h, d => by
  obtain ⟨i1, i2⟩ := Zcq (w := w) (R := R) (L := L) (by simpa using h) d
  have e : ZfF (r :: R) (t :: L) = (t.who, g0 r) :: ZfF R L := rfl
  rw [e]
  unfold ixL YQ Zv
  by_cases hw : t.who = w
  ·rw [if_pos hw, if_pos hw, show (t.who == w) = true from beq_iff_eq.2 hw]
   exact ⟨rfl, rfl⟩
  ·rw [if_neg hw, if_neg hw, show (t.who == w) = false from beq_eq_false_iff_ne.2 hw]
   show YQ d (ZfF R L) w = (if ixL w L + 1 < L.length + 1 then _ else d) /\ Zv (ZfF R L) w = decide (ixL w L + 1 < L.length + 1)
   rw [i1, i2]
   by_cases hq : ixL w L < L.length
   ·rw [if_pos hq, if_pos (by omega)]; exact ⟨rfl, by simp [hq]⟩
   ·rw [if_neg hq, if_neg (by omega)]; exact ⟨rfl, by simp [hq]⟩
 | [], _ :: _, h, _ => by simp at h
 | _ :: _, [], h, _ => by simp at h
theorem ZDN {L : List Tx} {j : Nat} (hj : j < L.length) (t : Tx) : setT L (j : Nat) t = L.set j t := by
 unfold setT
 rw [ZN0, List.set_eq_take_append_cons_drop, if_pos hj]
theorem Zgw {R : List (List Int)} {j : Nat} (hj : j < R.length) (t : List Int) : ZCJ R (j : Nat) t = R.set j t := by
 unfold ZCJ
 rw [ZN0, List.set_eq_take_append_cons_drop, if_pos hj]
theorem YP {α β : Type} {f : α -> β} {l : List α} {j : Nat} {d x : α} (h : f x = f (l.getD j d)) (hj : j < l.length) : (l.set j x).map f = l.map f := by
 rw [List.map_set, h]
 have : (l.map f)[j]? = some (f (l.getD j d)) := by
  rw [ZNP, ZNT, ZNW hj]; rfl
 apply List.ext_getElem?
 intro q
 by_cases hq : j = q
 ·subst hq
  rw [List.getElem?_set_self (by simpa using hj), this]
 ·rw [List.getElem?_set_ne hq]
theorem Zps {R R' : List (List Int)} {L L' : List Tx} (h1 : R'.map g0 = R.map g0) (h2 : L'.map (·.who) = L.map (·.who)) : ZfF R' L' = ZfF R L := by
 have e : ∀ (L : List Tx) (R : List (List Int)), ZfF R L = ((L.map (·.who)).zip (R.map g0)) := fun L R => by
  unfold ZfF
  rw [List.zip_map]; rfl
 rw [e, e, h1, h2]
theorem ZdB {α β : Type} (f : α -> β) (l : List α) (j : Nat) (d : α) : (l.map f).getD j (f d) = f (l.getD j d) := by
 rw [ZNT, ZNT, ZNP]
 cases l[j]? <;> rfl
theorem Zhi {R R' : List (List Int)} (h : R'.map g0 = R.map g0) (ks : List Nat) : ZbR R' ks = ZbR R ks := by
 unfold ZbR
 apply List.map_congr_left
 intro k _
 rw [<- ZdB g0 R', <- ZdB g0 R, h]
theorem ZD3 {R : List (List Int)} {ks : List Nat} (hk : ∀ k ∈ ks, k < R.length) (S : List (List Int)) : ZbR (R ++ S) ks = ZbR R ks := by
 unfold ZbR
 apply List.map_congr_left
 intro k hk'
 have := hk k hk'
 rw [ZNT, ZNT, ZOb this]
theorem ZFz {m : List (Int × Int)} {k v : Int} (h : Zv m k = false) : YL m k v = m ++ [(k, v)] := by
 induction m with
 | nil => rfl
 | cons p m ih =>
  obtain ⟨a, b⟩ := p
  simp only [Zv] at h
  unfold YL
  by_cases hk : a = k
  ·rw [if_pos hk] at h; cases h
  ·rw [if_neg hk] at h ⊢
   rw [ih h]; rfl
theorem ZDY {R : List (List Int)} {L : List Tx} (hl : R.length = L.length) (r : List Int) (t : Tx) (h : ¬ ixL t.who L < L.length) : ZfF (R ++ [r]) (L ++ [t]) = YL (ZfF R L) t.who (g0 r) := by
 rw [ZFz (by rw [(Zcq hl 0).2]; simp [h])]
 unfold ZfF
 rw [List.zip_append hl.symm, ZN9]; rfl
theorem ZnC {R : List (List Int)} {ks : List Nat} (hk : ∀ k ∈ ks, k < R.length) : ∀ r ∈ ZbR R ks, ∃ b, r = [b] /\ Zq0 R b := by
 intro r hr
 obtain ⟨k, h1, rfl⟩ := List.mem_map.1 hr
 exact ⟨_, rfl, k, hk k h1, rfl⟩
theorem Zlm {R : List (List Int)} (hn : (R.map g0).Nodup) {j k : Nat} (hj : j < R.length) (hk : k < R.length) (h : g0 (R.getD j []) = g0 (R.getD k [])) : j = k := by
 have e : ∀ (i : Nat) (hi : i < R.length), (R.map g0)[i]'(by simpa using hi) = g0 (R.getD i []) := fun i hi => by
  rw [List.getElem_map, ZNT, ZNW hi, ZNO]
 exact (List.getElem_inj hn).1 (by rw [e j hj, e k hk, h])
theorem Zs3 {R : List (List Int)} (hn : (R.map g0).Nodup) {ks : List Nat} (hk : ∀ k ∈ ks, k < R.length) {j : Nat} (hj : j < R.length) : [g0 (R.getD j [])] ∈ ZbR R ks ↔ j ∈ ks := by
 constructor
 ·intro h
  obtain ⟨k, h1, h2⟩ := List.mem_map.1 h
  injection h2 with h2
  rw [Zlm hn hj (hk k h1) h2.symm]; exact h1
 ·intro h
  exact List.mem_map.2 ⟨j, h, rfl⟩
theorem Ztv : ∀ (L : List Tx) (n : Nat), (Zom L n).length <= L.length
 | [], _ => ZNJ _
 | t :: L, n => by
  have := Ztv L (n + 1)
  unfold Zom
  cases t.opn
  ·show (Zom L (n + 1)).length <= L.length + 1; omega
  ·show (Zom L (n + 1)).length + 1 <= L.length + 1; omega
theorem ZqR : ∀ (L : List Tx) (n k : Nat), k ∈ Zom L n -> k < n + L.length
 | [], _, _, h => by cases h
 | t :: L, n, k, h => by
  unfold Zom at h
  cases ho : t.opn
  ·rw [ho] at h
   have := ZqR L (n + 1) k h
   rw [ZOd]; omega
  ·rw [ho] at h
   rcases List.mem_cons.1 h with rfl | h
   ·rw [ZOd]; omega
   ·have := ZqR L (n + 1) k h
    rw [ZOd]; omega
structure WfB (B : Bk) (n : Nat) : Prop where
 nd : (B.txs.map (·.who)).Nodup
 lt : B.txs.length <= n
 kl : B.kept.length <= n
 ki : ∀ k ∈ B.kept, k < B.txs.length
 ol : B.out.length <= n
 rl : ∀ t ∈ B.txs, t.rds.length <= n /\ t.bad.length <= n
 fi : ∀ k ∈ B.fal, k < B.txs.length
 fl : B.fal.length <= n
theorem WfB.mono {B : Bk} {n m : Nat} (h : WfB B n) (hm : n <= m) : WfB B m :=
 ⟨h.nd, Nat.le_trans h.lt hm, Nat.le_trans h.kl hm, h.ki, Nat.le_trans h.ol hm, fun t ht => ⟨Nat.le_trans (h.rl t ht).1 hm, Nat.le_trans (h.rl t ht).2 hm⟩, h.fi, Nat.le_trans h.fl hm⟩
theorem ZBU (t : Tx) (i : Int) (x : Ent) : (rdT t i x).rds.length <= t.rds.length + 1 /\ (rdT t i x).bad.length <= t.bad.length + 1 /\ (rdT t i x).who = t.who := by
 unfold rdT
 split
 ·split
  ·exact ⟨by omega, by omega, rfl⟩
  ·refine ⟨by simp, by simp, rfl⟩
 ·exact ⟨by simp, by simp, rfl⟩
theorem WfB.set {B : Bk} {n : Nat} (h : WfB B n) {j : Nat} (hj : j < B.txs.length) {t : Tx} (hw : t.who = (B.txs.getD j tx0).who) (h1 : t.rds.length <= n + 1) (h2 : t.bad.length <= n + 1)
  {k : List Nat} (hk : k = B.kept \/ k = B.kept ++ [j]) {f : List Nat} (hf : f = B.fal \/ f = []) : WfB { B with txs := B.txs.set j t, kept := k, fal := f } (n + 1) := by
 have hm := YP (f := Tx.who) (l := B.txs) hw hj
 refine ⟨by show ((B.txs.set j t).map Tx.who).Nodup; rw [hm]; exact h.nd, ?_, ?_, ?_, by have := h.ol; show B.out.length <= n + 1; omega, ?_, ?_, ?_⟩
 ·show (B.txs.set j t).length <= n + 1
  rw [List.length_set]; have := h.lt; omega
 ·show k.length <= n + 1
  have := h.kl
  rcases hk with rfl | rfl
  ·omega
  ·rw [ZNY, ZNH]; omega
 ·show ∀ q ∈ k, q < (B.txs.set j t).length
  rw [List.length_set]
  rcases hk with rfl | rfl
  ·exact h.ki
  ·intro q hq
   rcases List.mem_append.1 hq with hq | hq
   ·exact h.ki q hq
   ·rw [List.mem_singleton.1 hq]; exact hj
 ·intro u hu
  rcases List.mem_or_eq_of_mem_set hu with hu | rfl
  ·have := h.rl u hu; omega
  ·exact ⟨h1, h2⟩
 ·show ∀ q ∈ f, q < (B.txs.set j t).length
  rw [List.length_set]
  rcases hf with rfl | rfl
  ·exact h.fi
  ·intro q hq; cases hq
 ·show f.length <= n + 1
  have := h.fl
  rcases hf with rfl | rfl
  ·omega
  ·exact Nat.zero_le _
theorem WfB.at {B : Bk} {n : Nat} (h : WfB B n) {j : Nat} (hj : j < B.txs.length) : (B.txs.getD j tx0).rds.length <= n /\ (B.txs.getD j tx0).bad.length <= n := by
 refine h.rl _ ?_
 rw [ZNT, ZNW hj, ZNO]; exact ZOg hj
theorem ZHE {B : Bk} {n : Nat} (h : WfB B n) (i : Int) (x : Ent) : WfB (ZaC B i x) (n + 1) := by
 have hmono := h.mono (Nat.le_succ n)
 have hflt : ∀ w, WfB (B.flt i w) (n + 1) := fun w => ⟨hmono.nd, hmono.lt, hmono.kl, hmono.ki, hmono.ol, hmono.rl, hmono.fi, hmono.fl⟩
 unfold ZaC
 generalize hj : ixL (xw x) B.txs = j
 have ho : ∀ {q : Bool}, (decide (j < B.txs.length) && q) = true -> j < B.txs.length := fun hq => by simp at hq; exact hq.1
 dsimp only
 split
 ·split
  ·exact hflt 1
  ·rename_i hne
   rw [<- hj] at hne
   have hno := Zyq hne
   refine ⟨?_, ?_, hmono.kl, ?_, hmono.ol, ?_, (fun q hq => nomatch hq), Nat.zero_le _⟩
   ·show ((B.txs ++ [_]).map Tx.who).Nodup
    rw [ZN9, List.nodup_append]
    refine ⟨h.nd, by simp, fun a ha b hb => ?_⟩
    rw [List.map_singleton, ZNM] at hb
    obtain ⟨t, ht, rfl⟩ := List.mem_map.1 ha
    rw [hb]; exact hno t ht
   ·show (B.txs ++ [_]).length <= n + 1
    rw [ZNY, ZNH]; have := h.lt; omega
   ·intro q hq
    have := h.ki q hq
    show q < (B.txs ++ [_]).length
    rw [ZNY]; omega
   ·intro u hu
    rcases List.mem_append.1 hu with hu | hu
    ·exact hmono.rl u hu
    ·rw [List.mem_singleton.1 hu]; exact ⟨Nat.zero_le _, Nat.zero_le _⟩
 ·split
  ·split
   ·exact ⟨hmono.nd, hmono.lt, hmono.kl, hmono.ki, by show (B.out ++ [_]).length <= n + 1; rw [ZNY, ZNH]; have := h.ol; omega, hmono.rl, (fun q hq => nomatch hq), Nat.zero_le _⟩
   ·split
    ·rename_i hop
     have hjl := ho hop
     have hl := ZBU (B.txs.getD j tx0) i x
     have ha := h.at hjl
     exact h.set hjl hl.2.2 (by omega) (by omega) (.inl rfl) (.inr rfl)
    ·exact hflt 1
  ·split
   ·split
    ·rename_i hop
     have hjl := ho hop
     have ha := h.at hjl
     exact h.set hjl (t := { B.txs.getD j tx0 with ch := YL (B.txs.getD j tx0).ch (kc x) ((Zj (YX x) : Nat) * 2 + b01 (xk x == 4)) }) rfl (by show (B.txs.getD j tx0).rds.length <= n + 1; omega) (by show (B.txs.getD j tx0).bad.length <= n + 1; omega) (.inl rfl) (.inl rfl)
    ·exact hflt 1
   ·split
    ·split
     ·rename_i hop
      have hjl := ho hop
      have ha := h.at hjl
      exact h.set hjl (t := { B.txs.getD j tx0 with opn := false }) rfl (by show (B.txs.getD j tx0).rds.length <= n + 1; omega) (by show (B.txs.getD j tx0).bad.length <= n + 1; omega) (.inl rfl) (.inl rfl)
     ·exact hflt 1
    ·split
     ·split
      ·exact hflt 1
      ·split
       ·exact hflt 2
       ·rename_i hq _
        have hjl : j < B.txs.length := by
         by_cases hop : (decide (j < B.txs.length) && (B.txs.getD j tx0).opn) = true
         ·exact ho hop
         ·have hm : j ∈ B.fal := by
           by_cases hm : j ∈ B.fal
           ·exact hm
           ·exact absurd (.inl ⟨by simpa using hop, hm⟩) hq
          exact h.fi j hm
        have ha := h.at hjl
        exact h.set hjl (t := { B.txs.getD j tx0 with opn := false, com := i }) rfl (by show (B.txs.getD j tx0).rds.length <= n + 1; omega) (by show (B.txs.getD j tx0).bad.length <= n + 1; omega) (.inr rfl) (.inl rfl)
     ·split
      ·refine ⟨?_, ?_, hmono.kl, ?_, hmono.ol, ?_, ?_, ?_⟩
       ·show ((B.txs.map fun t => { t with opn := false }).map Tx.who).Nodup
        rw [List.map_map]; exact h.nd
       ·show (B.txs.map _).length <= n + 1
        rw [ZN3]; exact hmono.lt
       ·intro q hq
        have := h.ki q hq
        show q < (B.txs.map _).length
        rw [ZN3]; exact this
       ·intro u hu
        obtain ⟨t, ht, rfl⟩ := List.mem_map.1 hu
        exact hmono.rl t ht
       ·intro q hq
        have := ZqR B.txs 0 q hq
        show q < (B.txs.map _).length
        rw [ZN3]; omega
       ·show (Zom B.txs 0).length <= n + 1
        have := Ztv B.txs 0
        have := h.lt
        omega
      ·exact hmono
theorem Y1 (B : Bk) (i : Int) (x : Ent) {j : Nat} (hj : ixL (xw x) B.txs = j) : ZaC B i x =
 if xk x = 1 then (if j < B.txs.length then B.flt i 1 else { B with txs := B.txs ++ [⟨xw x, i, -1, true, [], [], []⟩], fal := [] })
 else if xk x = 2 then (if xw x = 0 then { B with out := B.out ++ [i :: nr x], fal := [] } else if (decide (j < B.txs.length) && (B.txs.getD j tx0).opn) = true then { B with txs := B.txs.set j (rdT (B.txs.getD j tx0) i x), fal := [] } else B.flt i 1)
 else if xk x = 3 \/ xk x = 4 then (if (decide (j < B.txs.length) && (B.txs.getD j tx0).opn) = true then { B with txs := B.txs.set j { B.txs.getD j tx0 with ch := YL (B.txs.getD j tx0).ch (kc x) ((Zj (YX x) : Nat) * 2 + b01 (xk x == 4)) } } else B.flt i 1)
 else if xk x = 6 then (if (decide (j < B.txs.length) && (B.txs.getD j tx0).opn) = true then { B with txs := B.txs.set j { B.txs.getD j tx0 with opn := false } } else B.flt i 1)
 else if xk x = 5 then (if ((decide (j < B.txs.length) && (B.txs.getD j tx0).opn) = false /\ ¬ j ∈ B.fal) \/ 0 <= (B.txs.getD j tx0).com then B.flt i 1 else if ¬ xt x = B.kept.length + 1 then B.flt i 2 else { B with txs := B.txs.set j { B.txs.getD j tx0 with opn := false, com := i }, kept := B.kept ++ [j] })
 else if xk x = 7 then { B with txs := B.txs.map fun t => { t with opn := false }, fal := Zom B.txs 0 }
 else B := by subst hj; rfl
section
variable {B : Bk} {i : Int} {x : Ent} {j : Nat} (hj : ixL (xw x) B.txs = j)
include hj
theorem st1a (hk : xk x = 1) (h : j < B.txs.length) : ZaC B i x = B.flt i 1 := by rw [Y1 B i x hj, if_pos hk, if_pos h]
theorem st1b (hk : xk x = 1) (h : ¬ j < B.txs.length) : ZaC B i x = { B with txs := B.txs ++ [⟨xw x, i, -1, true, [], [], []⟩], fal := [] } := by rw [Y1 B i x hj, if_pos hk, if_neg h]
theorem st2a (hk : xk x = 2) (h : xw x = 0) : ZaC B i x = { B with out := B.out ++ [i :: nr x], fal := [] } := by rw [Y1 B i x hj, if_neg (by omega), if_pos hk, if_pos h]
theorem st2b (hk : xk x = 2) (h : ¬ xw x = 0) (h1 : j < B.txs.length) (h2 : (B.txs.getD j tx0).opn = true) : ZaC B i x = { B with txs := B.txs.set j (rdT (B.txs.getD j tx0) i x), fal := [] } := by
 rw [Y1 B i x hj, if_neg (by omega), if_pos hk, if_neg h, if_pos (by rw [h2, decide_eq_true h1]; rfl)]
theorem st2c (hk : xk x = 2) (h : ¬ xw x = 0) (h1 : j < B.txs.length -> (B.txs.getD j tx0).opn = false) : ZaC B i x = B.flt i 1 := by
 rw [Y1 B i x hj, if_neg (by omega), if_pos hk, if_neg h, if_neg (by simpa using h1)]
theorem st3a (hk : xk x = 3 \/ xk x = 4) (h1 : j < B.txs.length) (h2 : (B.txs.getD j tx0).opn = true) : ZaC B i x = { B with txs := B.txs.set j { B.txs.getD j tx0 with ch := YL (B.txs.getD j tx0).ch (kc x) ((Zj (YX x) : Nat) * 2 + b01 (xk x == 4)) } } := by
 rw [Y1 B i x hj, if_neg (by omega), if_neg (by omega), if_pos hk, if_pos (by rw [h2, decide_eq_true h1]; rfl)]
theorem ZMI (hk : xk x = 3 \/ xk x = 4) (h1 : j < B.txs.length -> (B.txs.getD j tx0).opn = false) : ZaC B i x = B.flt i 1 := by
 rw [Y1 B i x hj, if_neg (by omega), if_neg (by omega), if_pos hk, if_neg (by simpa using h1)]
theorem st6a (hk : xk x = 6) (h1 : j < B.txs.length) (h2 : (B.txs.getD j tx0).opn = true) : ZaC B i x = { B with txs := B.txs.set j { B.txs.getD j tx0 with opn := false } } := by
 rw [Y1 B i x hj, if_neg (by omega), if_neg (by omega), if_neg (by omega), if_pos hk, if_pos (by rw [h2, decide_eq_true h1]; rfl)]
theorem st6b (hk : xk x = 6) (h1 : j < B.txs.length -> (B.txs.getD j tx0).opn = false) : ZaC B i x = B.flt i 1 := by
 rw [Y1 B i x hj, if_neg (by omega), if_neg (by omega), if_neg (by omega), if_pos hk, if_neg (by simpa using h1)]
theorem ZKm (hk : xk x = 5) (h : ((j < B.txs.length -> (B.txs.getD j tx0).opn = false) /\ ¬ j ∈ B.fal) \/ 0 <= (B.txs.getD j tx0).com) : ZaC B i x = B.flt i 1 := by
 rw [Y1 B i x hj, if_neg (by omega), if_neg (by omega), if_neg (by omega), if_neg (by omega), if_pos hk, if_pos (h.imp (fun q => ⟨by simpa using q.1, q.2⟩) id)]
theorem st5b (hk : xk x = 5) (h : (j < B.txs.length /\ (B.txs.getD j tx0).opn = true) \/ j ∈ B.fal) (h2 : (B.txs.getD j tx0).com < 0) (h3 : ¬ xt x = B.kept.length + 1) : ZaC B i x = B.flt i 2 := by
 rw [Y1 B i x hj, if_neg (by omega), if_neg (by omega), if_neg (by omega), if_neg (by omega), if_pos hk, if_neg, if_pos h3]
 rintro (⟨q1, q2⟩ | q)
 ·rcases h with ⟨a, b⟩ | a
  ·rw [b, decide_eq_true a] at q1; cases q1
  ·exact q2 a
 ·omega
theorem st5c (hk : xk x = 5) (h : (j < B.txs.length /\ (B.txs.getD j tx0).opn = true) \/ j ∈ B.fal) (h2 : (B.txs.getD j tx0).com < 0) (h3 : xt x = B.kept.length + 1) :
  ZaC B i x = { B with txs := B.txs.set j { B.txs.getD j tx0 with opn := false, com := i }, kept := B.kept ++ [j] } := by
 rw [Y1 B i x hj, if_neg (by omega), if_neg (by omega), if_neg (by omega), if_neg (by omega), if_pos hk, if_neg, if_neg (by omega)]
 rintro (⟨q1, q2⟩ | q)
 ·rcases h with ⟨a, b⟩ | a
  ·rw [b, decide_eq_true a] at q1; cases q1
  ·exact q2 a
 ·omega
theorem st7 (hk : xk x = 7) : ZaC B i x = { B with txs := B.txs.map fun t => { t with opn := false }, fal := Zom B.txs 0 } := by
 rw [Y1 B i x hj, if_neg (by omega), if_neg (by omega), if_neg (by omega), if_neg (by omega), if_neg (by omega), if_pos hk]
theorem st0 (h : ¬ xk x = 1 /\ ¬ xk x = 2 /\ ¬ xk x = 3 /\ ¬ xk x = 4 /\ ¬ xk x = 5 /\ ¬ xk x = 6 /\ ¬ xk x = 7) : ZaC B i x = B := by
 rw [Y1 B i x hj, if_neg (by omega), if_neg (by omega), if_neg (by omega), if_neg (by omega), if_neg (by omega), if_neg (by omega)]
end
theorem Zk {R : List (List Int)} {J : Nat} (hJ : J < R.length) {row : List Int} (ks : List Nat) : ZbR (ZCJ R (J : Nat) (g0 (R.getD J []) :: row)) ks = ZbR R ks := by
 rw [Zgw hJ]
 exact Zhi (YP (f := g0) (d := []) (x := g0 (R.getD J []) :: row) rfl hJ) ks
theorem Zas {R : List (List Int)} {L : List Tx} {J : Nat} (hJ : J < R.length) {row : List Int} {t : Tx} (hL : J < L.length) (ht : t.who = (L.getD J tx0).who) : ZfF (ZCJ R (J : Nat) (g0 (R.getD J []) :: row)) (L.set J t) = ZfF R L := by
 rw [Zgw hJ]
 exact Zps (YP (f := g0) (d := []) (x := g0 (R.getD J []) :: row) rfl hJ) (YP (f := Tx.who) (d := tx0) ht hL)
theorem Zgc {L : List Tx} {J : Nat} (hL : J < L.length) {m : List (Int × Int)} {p : List Int} {r : List Ent} {b : List Int} :
  setT (setT L (J : Nat) (ZuS (L.getD J tx0) m p)) (J : Nat) (ZA2 ((setT L (J : Nat) (ZuS (L.getD J tx0) m p)).getD J tx0) r b) = L.set J (ZA2 (ZuS (L.getD J tx0) m p) r b) := by
 have h := Zgm (L := L) (i := (J : Nat)) (t := ZuS (L.getD J tx0) m p) (u := tx0) (by omega) (by omega)
 have h2 := h.2
 unfold atT at h2
 rw [ZN0] at h2
 rw [h2, (Zgm (by omega) (by omega)).1, ZDN hL]
theorem ZnO {x : List Ent} {n : Nat} (h : (Yj x n).fault = -1) : Yj x (n + 1) = ZaC (Yj x n) n (xa x n) := by
 show (if 0 <= (Yj x n).fault then Yj x n else ZaC (Yj x n) n (xa x n)) = _
 rw [if_neg (by rw [h]; omega)]
theorem ZmL {x : List Ent} {n : Nat} (h : 0 <= (Yj x n).fault) : ∀ {m : Nat}, n <= m -> Yj x m = Yj x n
 | 0, hm => by rw [Nat.le_zero.1 hm]
 | m + 1, hm => by
  rcases ZNN m n with hlt | hge
  ·rw [show m + 1 = n by omega]
  ·have := ZmL h hge
   show (if 0 <= (Yj x m).fault then Yj x m else _) = _
   rw [this, if_pos h]
theorem ZH1 {x : List Ent} {n : Nat} {B : Bk} {w : Int} (hB : Yj x n = B) (hf : B.fault = -1) (hn : n < x.length) (hs : ZaC B n (xa x n) = B.flt n w) : Yj x x.length = B.flt n w := by
 have h1 := ZnO (x := x) (n := n) (by rw [hB]; exact hf)
 rw [hB, hs] at h1
 rw [ZmL (n := n + 1) (by rw [h1]; show (0 : Int) <= n; omega) hn, h1]
theorem ZhN (x : List Ent) : ∀ n, WfB (Yj x n) n
 | 0 => ⟨List.nodup_nil, ZNJ _, ZNJ _, (fun k hk => nomatch hk), ZNJ _, (fun t ht => nomatch ht), (fun k hk => nomatch hk), ZNJ _⟩
 | n + 1 => by
  have ih := ZhN x n
  show WfB (if 0 <= (Yj x n).fault then Yj x n else ZaC (Yj x n) n (xa x n)) (n + 1)
  split
  ·exact ih.mono (Nat.le_succ n)
  ·exact ZHE ih _ _
theorem ZJd (x : Ent) : kc (nr x) = kc x := by unfold kc; rw [ZA6]
theorem ZgF (m : List (Int × Int)) (x : Ent) : Yc m (nr x) = Yc m x := by unfold Yc; rw [ZJd, ZpO, Zqh]
theorem ZvZ (q : Bool) : (b01 q == 1) = q := by cases q <;> rfl
theorem ZKp (t : Tx) (m : List (Int × Int)) : ZA2 (ZuS t m [t.com, b01 t.opn]) t.rds t.bad = { t with ch := m } := by
 have h := ZvZ t.opn
 unfold ZA2 ZuS
 simp only [List.getD_cons_zero, List.getD_cons_succ, h]
theorem rd_eq (t : Tx) (i : Int) (x : Ent) : ZA2 (ZuS t t.ch [t.com, b01 t.opn]) (if Zv t.ch (kc (nr x)) = true then t.rds else t.rds ++ [i :: nr (nr x)]) (if Zv t.ch (kc (nr x)) = true /\ Yc t.ch (nr x) = false then t.bad ++ [i] else t.bad) = rdT t i x := by
 have h := ZvZ t.opn
 unfold ZA2 ZuS rdT
 simp only [List.getD_cons_zero, List.getD_cons_succ, h, ZJd, ZgF, nr_nr]
 cases Zv t.ch (kc x)
 ·simp
 ·cases Yc t.ch x <;> simp
theorem ZeU (R : List (List Int)) (ks : List Nat) (J : Nat) : ZbR R (ks ++ [J]) = ZbR R ks ++ [[g0 (R.getD J [])]] := by unfold ZbR; rw [ZN9]; rfl
theorem ZD7 {α : Type} {l : List α} {j : Nat} {d : α} (hj : j < l.length) : l.set j (l.getD j d) = l := by
 apply List.ext_getElem?
 intro q
 by_cases hq : j = q
 ·subst hq
  rw [List.getElem?_set_self hj, ZNT, ZNW hj, ZNO]
 ·rw [List.getElem?_set_ne hq]
theorem Zt7 {x : List Ent} {n : Nat} (h : n <= x.length) : ZkJ (x.take n) (x.take n).length = ZkJ x n := by
 have hl : (x.take n).length = n := by rw [ZNV]; omega
 have e : ∀ i, i < n -> xa (x.take n) i = xa x i := fun i hi => Zdt hi
 unfold ZkJ
 congr 1
 apply propext
 rw [hl]
 exact ⟨fun q i hi => by rw [<- e i hi]; exact q i hi, fun q i hi => by rw [e i hi]; exact q i hi⟩
theorem Zdf (L : List Tx) (J : Nat) : atT L (J : Nat) = L.getD J tx0 := by unfold atT; rw [ZN0]
theorem Zbg {R : List (List Int)} (hn : (R.map g0).Nodup) {J : Nat} (hJ : J < R.length) : ZdD (g0 (R.getD J [])) R = J := by
 have hb : Zq0 R (g0 (R.getD J [])) := ⟨J, hJ, rfl⟩
 exact Zlm hn (Zah hb) hJ (ZcC (Zah hb))
theorem ZwD {R : List (List Int)} {J : Nat} (hJ : J < R.length) : R.getD J [] ∈ R := by
 rw [ZNT, ZNW hJ, ZNO]; exact ZOg hJ
end
end Go.Proofs.Ytidlngnhjffepaa
namespace Go.Proofs.Ytidlngnhjffepaa
noncomputable section
open Go.Eng
theorem ZzT {L : List Tx} {t : Tx} (ht : t ∈ L) : ixL t.who L < L.length := by
 rcases ZNN (ixL t.who L) L.length with h | h
 ·exact h
 ·exact absurd rfl (Zyq (by omega) t ht)
theorem Y3 {left : List (Int × Int)} : ∀ {L : List Tx} {n k : Nat}, k ∈ ZcV left L n ↔ n <= k /\ k - n < L.length /\ (L.getD (k - n) tx0).opn = true /\ Zv left (L.getD (k - n) tx0).who = false
 | [], n, k => by
  constructor
  ·intro h; cases h
  ·rintro ⟨_, h, _⟩; exact absurd h (Nat.not_lt_zero _)
 | t :: L, n, k => by
  have ih := Y3 (left := left) (L := L) (n := n + 1) (k := k)
  have hs : n + 1 <= k -> (t :: L).getD (k - n) tx0 = L.getD (k - (n + 1)) tx0 := fun h => by
   rw [show k - n = (k - (n + 1)) + 1 by omega]; rfl
  have h0 : k = n -> (t :: L).getD (k - n) tx0 = t := fun h => by rw [show k - n = 0 by omega]; rfl
  unfold ZcV
  split
  ·rename_i hc
   rw [List.mem_cons, ih]
   constructor
   ·rintro (h | ⟨a, b, c⟩)
    ·rw [h0 h]; exact ⟨by omega, by rw [ZOd]; omega, hc⟩
    ·rw [hs a]; exact ⟨by omega, by rw [ZOd]; omega, c⟩
   ·rintro ⟨a, b, c⟩
    rw [ZOd] at b
    by_cases h : k = n
    ·exact .inl h
    ·rw [hs (by omega)] at c
     exact .inr ⟨by omega, by omega, c⟩
  ·rename_i hc
   rw [ih]
   constructor
   ·rintro ⟨a, b, c⟩
    rw [hs a]; exact ⟨by omega, by rw [ZOd]; omega, c⟩
   ·rintro ⟨a, b, c⟩
    rw [ZOd] at b
    by_cases h : k = n
    ·rw [h0 h] at c; exact absurd c hc
    ·rw [hs (by omega)] at c
     exact ⟨by omega, by omega, c⟩
theorem Zai {left : List (Int × Int)} : ∀ {L : List Tx} {n : Nat}, (ZcV left L n).Nodup
 | [], _ => List.nodup_nil
 | t :: L, n => by
  unfold ZcV
  split
  ·rw [List.nodup_cons]
   exact ⟨fun h => by have := (Y3.1 h).1; omega, Zai⟩
  ·exact Zai
theorem Zhg (left : List (Int × Int)) : ∀ (L : List Tx) (n : Nat), (ZcV left L n).length <= L.length
 | [], _ => ZNJ _
 | t :: L, n => by
  have := Zhg left L (n + 1)
  unfold ZcV
  split
  ·rw [ZOd, ZOd]; omega
  ·rw [ZOd]; omega
theorem Zem : ∀ (L : List Tx) (n : Nat), ZcV [] L n = Zom L n
 | [], _ => rfl
 | t :: L, n => by
  unfold ZcV Zom
  rw [Zem L (n + 1)]
  cases t.opn <;> simp [Zv]
theorem ZlJ {left : List (Int × Int)} {L : List Tx} (h : ∀ t ∈ L, Zv left t.who = true) (n : Nat) : ZcV left L n = [] := by
 rw [List.eq_nil_iff_forall_not_mem]
 intro k hk
 obtain ⟨_, h2, _, h4⟩ := Y3.1 hk
 rw [h _ (by rw [ZNT, ZNW h2, ZNO]; exact ZOg h2)] at h4
 cases h4
theorem Znb {left : List (Int × Int)} {L : List Tx} (h : ∀ t ∈ L, Zv left t.who = true) : ZcX L left = L := by
 unfold ZcX
 have e : (L.map fun t => if Zv left t.who = true then t else { t with opn := false }) = L.map id := List.map_congr_left fun t ht => if_pos (h t ht)
 rw [e, List.map_id]
theorem Zex {R : List (List Int)} {L : List Tx} (hl : R.length = L.length) : ∀ t ∈ L, Zv (ZfF R L) t.who = true := fun t ht => by
 rw [(Zcq hl 0).2]; simp [ZzT ht]
theorem ZhX {R : List (List Int)} {L : List Tx} (hl : R.length = L.length) : (ZfF R L).map (·.1) = L.map (·.who) := by
 unfold ZfF
 rw [List.map_map]
 have : ((·.1) ∘ fun p : Tx × List Int => (p.1.who, g0 p.2)) = (fun t : Tx => t.who) ∘ Prod.fst := rfl
 rw [this, <- List.map_map, List.map_fst_zip (by omega)]
theorem ZeR (L : List Tx) (left : List (Int × Int)) : (ZcX L left).length = L.length := by unfold ZcX; rw [ZN3]
theorem ZeL (L : List Tx) (left : List (Int × Int)) {j : Nat} (hj : j < L.length) : (ZcX L left).getD j tx0 = if Zv left (L.getD j tx0).who = true then L.getD j tx0 else { L.getD j tx0 with opn := false } := by
 unfold ZcX
 rw [ZNT, ZNP, ZNT, ZNW hj]; rfl
theorem Zh2 {L : List Tx} {left : List (Int × Int)} (hn : (left.map (·.1)).Nodup) (hw : (L.map (·.who)).Nodup) {k : Int} {j : Nat} (hj : ixL k L = j) (hjl : j < L.length) (hk : Zv left k = true) :
  ZcX L (Zak left k) = (ZcX L left).set j { L.getD j tx0 with opn := false } := by
 have hwho : (L.getD j tx0).who = k := by rw [<- hj]; exact Zbe (by omega)
 apply List.ext_getElem?
 intro q
 rw [List.getElem?_set]
 have hg : ∀ (lf : List (Int × Int)), (ZcX L lf)[q]? = (L[q]?).map (fun t => if Zv lf t.who = true then t else { t with opn := false }) := fun lf => by unfold ZcX; rw [ZNP]
 rw [hg, hg, ZeR]
 by_cases hq : j = q
 ·subst hq
  rw [if_pos rfl, if_pos hjl]
  have e : L[j]? = some (L.getD j tx0) := by rw [ZNT, ZNW hjl, ZNO]
  rw [e, Option.map_some]
  congr 1
  exact if_neg (by rw [Za3 hn, hwho, decide_eq_true rfl]; simp)
 ·rw [if_neg hq]
  cases hL : L[q]? with
  | none => rfl
  | some t =>
   simp only [Option.map_some]
   have hne : ¬ k = t.who := fun h => hq (by
    have hql : q < L.length := (List.getElem?_eq_some_iff.1 hL).1
    have := Ze1 hw hql
    rw [ZNT, hL, ZNO, <- h, hj] at this
    exact this)
   rw [Za3 hn]
   simp [hne]
theorem Zji {L : List Tx} {left : List (Int × Int)} (hn : (left.map (·.1)).Nodup) (hw : (L.map (·.who)).Nodup) {k : Int} {j : Nat} (hj : ixL k L = j) (hjl : j < L.length) (hk : Zv left k = true) (ho : ((ZcX L left).getD j tx0).opn = false) :
  ZcX L (Zak left k) = ZcX L left := by
 rw [Zh2 hn hw hj hjl hk]
 have hwho : (L.getD j tx0).who = k := by rw [<- hj]; exact Zbe (by omega)
 rw [ZeL L left hjl, hwho, if_pos hk] at ho
 have e : ({ L.getD j tx0 with opn := false } : Tx) = (ZcX L left).getD j tx0 := by
  rw [ZeL L left hjl, hwho, if_pos hk]
  generalize L.getD j tx0 = t at ho
  cases t; simp only at ho; rw [ho]
 rw [e]
 exact ZD7 (by rw [ZeR]; exact hjl)
theorem mhas_del' {m : List (Int × Int)} (hn : (m.map (·.1)).Nodup) (k q : Int) : Zv (Zak m k) q = if k = q then false else Zv m q := by
 rw [Za3 hn]
 by_cases h : k = q <;> simp [h]
theorem Znu {L : List Tx} {left : List (Int × Int)} (hn : (left.map (·.1)).Nodup) (hw : (L.map (·.who)).Nodup) {k : Int} {j : Nat} (hj : ixL k L = j) (hjl : j < L.length) (hk : Zv left k = true) (ho : (L.getD j tx0).opn = true) :
  (ZcV left L 0 ++ [j]).Perm (ZcV (Zak left k) L 0) := by
 have hwho : (L.getD j tx0).who = k := by rw [<- hj]; exact Zbe (by omega)
 have hnj : ¬ j ∈ ZcV left L 0 := fun h => by
  have := (Y3.1 h).2.2.2
  rw [Nat.sub_zero, hwho, hk] at this; cases this
 refine (List.perm_ext_iff_of_nodup ?_ Zai).2 fun q => ?_
 ·rw [List.nodup_append]
  refine ⟨Zai, by simp, fun a ha b hb => ?_⟩
  rw [ZNM] at hb; subst hb
  intro e; subst e; exact hnj ha
 ·rw [ZOe, ZNM, Y3, Y3, mhas_del' hn]
  simp only [Nat.sub_zero]
  constructor
  ·rintro (⟨a, b, c, d⟩ | rfl)
   ·exact ⟨a, b, c, by rw [d]; split <;> rfl⟩
   ·exact ⟨Nat.zero_le _, hjl, ho, if_pos hwho.symm⟩
  ·rintro ⟨a, b, c, d⟩
   by_cases hq : q = j
   ·exact .inr hq
   ·refine .inl ⟨a, b, c, ?_⟩
    have hne : ¬ k = (L.getD q tx0).who := fun h => hq (by
     have := Ze1 hw b
     rw [<- h, hj] at this; exact this.symm)
    rw [if_neg hne] at d; exact d
theorem Zjc {L : List Tx} {left : List (Int × Int)} (hn : (left.map (·.1)).Nodup) (hw : (L.map (·.who)).Nodup) {k : Int} {j : Nat} (hj : ixL k L = j) (hjl : j < L.length) (ho : (L.getD j tx0).opn = false) :
  (ZcV left L 0).Perm (ZcV (Zak left k) L 0) := by
 refine (List.perm_ext_iff_of_nodup Zai Zai).2 fun q => ?_
 rw [Y3, Y3, mhas_del' hn]
 simp only [Nat.sub_zero]
 constructor
 ·rintro ⟨a, b, c, d⟩
  exact ⟨a, b, c, by rw [d]; split <;> rfl⟩
 ·rintro ⟨a, b, c, d⟩
  refine ⟨a, b, c, ?_⟩
  have hne : ¬ k = (L.getD q tx0).who := fun h => by
   have := Ze1 hw b
   rw [<- h, hj] at this
   rw [this, c] at ho; cases ho
  rw [if_neg hne] at d; exact d
theorem ZeX {R : List (List Int)} {a b : List Nat} (h : a.Perm b) : (ZbR R a).Perm (ZbR R b) := h.map _
end
end Go.Proofs.Ytidlngnhjffepaa
