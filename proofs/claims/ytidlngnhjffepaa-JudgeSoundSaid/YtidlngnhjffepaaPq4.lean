/- Part of a proof. -/
import Derived.Test.YtidlngnhjffepaaPq3
import Derived.ChangeSame
import Derived.Test.YtidlngnhjffepaaProg
import Derived.KernelRfl
set_option linter.unusedSimpArgs false
set_option linter.unusedVariables false
set_option maxRecDepth 20000
namespace Go.Eng
noncomputable section
section
variable {G : Type}
theorem p155 (a b : U G) : (ap2 155 a b).tP = (a = b) := by
 show (@decide (a = b) (Classical.propDecidable _) = true) = _
 exact propext ⟨fun h => @of_decide_eq_true _ (Classical.propDecidable _) h, fun h => @decide_eq_true _ (Classical.propDecidable _) h⟩
theorem ZE4 (a : U G) : ap1 2 a = .bool (!a.toBool) := rfl
theorem ZGo (a : U G) : ap1 23 a = .bool (decide (IntKind.min .i64 <= a.tI) && decide (a.tI <= IntKind.max .i64)) := rfl
theorem ZjJ (a : U G) : ap1 30 a = .int a.tN.length := rfl
theorem ZzS (a : U G) : ap1 31 a = .int a.tB.length := rfl
theorem YB (a : U G) : ap1 32 a = .int a.tR.length := rfl
theorem ZFz (a : U G) : ap1 33 a = .int a.tM.length := rfl
theorem ZAo (a : U G) : ap1 152 a = .ints [] := rfl
theorem ZBq (a : U G) : ap1 153 a = .bytes [] := rfl
theorem ZB2 (a : U G) : ap1 154 a = .rows [] := rfl
theorem ZDh (a : U G) : ap1 155 a = .amap [] := rfl
theorem ZF0 (a : U G) : ap1 35 a = .int (Zq a.tB : Nat) := rfl
theorem ZGc (a : U G) : ap1 36 a = .bytes (Za6 a.tI.toNat) := rfl
theorem Zzp (a b : U G) : ap2 40 a b = .int (a.tI + b.tI) := rfl
theorem ZGi (a b : U G) : ap2 41 a b = .int (a.tI - b.tI) := rfl
theorem ZFR (a b : U G) : ap2 42 a b = .int (a.tI * b.tI) := rfl
theorem ZEE (a b : U G) : ap2 43 a b = .int (a.tI.tdiv b.tI) := rfl
theorem ZGp (a b : U G) : ap2 44 a b = .int (a.tI.tmod b.tI) := rfl
theorem Znq (a b : U G) : ap2 45 a b = .bool (a.tI == b.tI) := rfl
theorem ZEo (a b : U G) : ap2 48 a b = .bool (a.toBool == b.toBool) := rfl
theorem ZD0 (a b : U G) : ap2 49 a b = .bool (a.toBool && b.toBool) := rfl
theorem ZEt (a b : U G) : ap2 50 a b = .bool (a.toBool || b.toBool) := rfl
theorem ZCz (a b : U G) : ap2 110 a b = .int (a.tN.getD b.tI.toNat 0) := rfl
theorem ZzX (a b : U G) : ap2 111 a b = .int ((a.tB.getD b.tI.toNat 0).toNat : Nat) := rfl
theorem Zz5 (a b : U G) : ap2 113 a b = .ints (a.tN.take b.tI.toNat) := rfl
theorem ZCb (a b : U G) : ap2 114 a b = .bytes (a.tB.take b.tI.toNat) := rfl
theorem ZA0 (a b : U G) : ap2 115 a b = .rows (a.tR.take b.tI.toNat) := rfl
theorem ZBu (a b : U G) : ap2 117 a b = .bytes (a.tB.drop b.tI.toNat) := rfl
theorem ZAQ (a b : U G) : ap2 118 a b = .rows (a.tR.drop b.tI.toNat) := rfl
theorem ZzZ (a b : U G) : ap2 120 a b = .bytes (a.tB ++ b.tB) := rfl
theorem ZAm (a b : U G) : ap2 121 a b = .rows (a.tR ++ b.tR) := rfl
theorem ZCm (a b : U G) : ap2 122 a b = .ints (a.tI :: b.tN) := rfl
theorem ZB4 (a b : U G) : ap2 123 a b = .bytes (UInt8.ofNat a.tI.toNat :: b.tB) := rfl
theorem ZBI (a b : U G) : ap2 124 a b = .rows (a.tN :: b.tR) := rfl
theorem ZDj (a b : U G) : ap2 126 a b = .bytes (List.replicate a.tI.toNat (UInt8.ofNat b.tI.toNat)) := rfl
theorem ZBt (a b : U G) : ap2 141 a b = .bool (Zt a.tM b.tI) := rfl
theorem ZC0 (a b : U G) : ap2 143 a b = .amap (YQ a.tM b.tI) := rfl
theorem ZAr (a b : U G) : ap2 150 a b = .bool (a.tB == b.tB) := rfl
theorem Zz3 (a b : U G) : ap2 153 a b = .bool (a.tN == b.tN) := rfl
theorem Zsx (a b c : U G) : ap3 112 a b c = .int ((a.tR.getD b.tI.toNat []).getD c.tI.toNat 0) := rfl
theorem ZCh (a b c : U G) : ap3 131 a b c = .bytes (a.tB.set b.tI.toNat (UInt8.ofNat c.tI.toNat)) := rfl
theorem ZAy (a b c : U G) : ap3 132 a b c = .rows (a.tR.set b.tI.toNat c.tN) := rfl
theorem ZAV (a b c : U G) : ap3 140 a b c = .int (Yr a.tI b.tM c.tI) := rfl
theorem ZCO (a b c : U G) : ap3 142 a b c = .amap (Ym a.tM b.tI c.tI) := rfl
def imin (x y : Int) : Int := if y < x then y else x
def imax (x y : Int) : Int := if y > x then y else x
theorem ZC4 {G : Type} (a b : U G) : ap2 51 a b = .int (imin a.tI b.tI) := rfl
theorem ZB5 {G : Type} (a b : U G) : ap2 52 a b = .int (imax a.tI b.tI) := rfl
def leB (x y : Int) : Bool := decide (x <= y)
def ltB (x y : Int) : Bool := decide (x < y)
theorem t47 {G : Type} (a b : U G) : (ap2 47 a b).toBool = leB a.tI b.tI := rfl
theorem t46 {G : Type} (a b : U G) : (ap2 46 a b).toBool = ltB a.tI b.tI := rfl
theorem Za {x y : Int} : leB x y = true ↔ x <= y := by unfold leB; simp
theorem Zk5 {x y : Int} : ltB x y = true ↔ x < y := by unfold ltB; simp
theorem Ze2 {p : Prop} {i : Decidable p} : (@decide p i = true) = p := propext ⟨fun h => of_decide_eq_true h, fun h => decide_eq_true h⟩
theorem p45 {G : Type} (a b : U G) : (ap2 45 a b).tP = (a.tI = b.tI) := by simp [Znq]
theorem p153 {G : Type} (a b : U G) : (ap2 153 a b).tP = (a.tN = b.tN) := by simp [Zz3]
theorem p46 {G : Type} (a b : U G) : (ap2 46 a b).tP = (a.tI < b.tI) := Ze2
theorem p47 {G : Type} (a b : U G) : (ap2 47 a b).tP = (a.tI <= b.tI) := Ze2
theorem ZAt {G : Type} (a b : U G) : (ap1 2 (ap2 45 a b)).tP = ¬ (a.tI = b.tI) := by simp [ZE4, Znq]
theorem p50 {G : Type} (a b : U G) : (ap2 50 a b).tP = (a.toBool = true \/ b.toBool = true) := by simp [ZEt]
theorem b46 {G : Type} (a b : U G) : ((ap2 46 a b).toBool = true) = (a.tI < b.tI) := p46 a b
theorem b47 {G : Type} (a b : U G) : ((ap2 47 a b).toBool = true) = (a.tI <= b.tI) := p47 a b
theorem p23 {G : Type} (a : U G) : (ap1 23 a).tP = (IntKind.min .i64 <= a.tI /\ a.tI <= IntKind.max .i64) := by
 rw [ZGo, U.tPi, Bool.and_eq_true, Ze2, Ze2]
end
/-! ### Bits of words without sign, and the check sum -/
end
end Go.Eng
namespace Go.Eng
noncomputable section
open Go.RowKit (Below)
open Go.ChangeShapes Go.WideShapes
theorem Zho {H : Type} {enc : TypeId × Value -> H} {P : Program} {f : Func} {s : ChangeSpec} {apart Zbh handsOn again : Bool} {W W' : World} {args : Array Value} {v : Value} {ds gs : List (DataW H)} {before pa pv : List MemPlace}
  (hW : DataW.Whole enc P f.params.toList s.vars apart W args.toList ds gs before)
  (hres : ∀ (b : Nat) (sp : Nat -> Bool) (hd : Bool), DataW.TrodAll enc P W' b sp hd f.resultTypes.toList (v.resultList f.resultTypes.size) (s.fn H (ds ++ gs)).results [])
  (hargs : ∀ sp : Nat -> Bool, (∀ p ∈ before, sp p.block = true) -> DataW.TrodAll enc P W' 0 sp true f.params.toList args.toList (s.fn H (ds ++ gs)).args pa)
  (hvars : ∀ sp : Nat -> Bool, (∀ p ∈ before, sp p.block = true) -> DataW.TrodVars enc P W' sp s.vars (s.fn H (ds ++ gs)).vars pv)
  (hps : before = pa ++ pv) (hb : Below W.heap.size W W')
  (hok : ∀ (j : Nat) (t : TypeId) (r : Value), f.resultTypes[j]? = some t -> (v.resultList f.resultTypes.size)[j]? = some r -> Value.okWide P W' .any 0 t r) :
  s.post enc P f apart Zbh handsOn again W args v W' := by
 have hlt := fun p (hp : p ∈ before) => hW.lt p hp
 have hold : ∀ p ∈ before, (fun b => decide (b < W.heap.size)) p.block = true := fun p hp => by simpa using hlt p hp
 refine ⟨ds, gs, before, [], pa, pv, hW, hres _ _ _, hargs _ hold, hvars _ hold, World.keptBut_mono (fun p hp => ⟨hp, ?_⟩) (hb.frame (· ∈ before)), fun _ => ?_⟩
 ·rw [hps, ZG2] at hp; exact Or.inr hp
 ·obtain ⟨_, _, _, _, _, hz, hn⟩ := hW
  refine ⟨hok, _, _, ([] ++ pa) ++ pv, ⟨[] ++ pa, pv, trodAll_append (hargs _ (fun _ _ => rfl)) (hres _ _ _), hvars _ (fun _ _ => rfl), rfl, fun b off hp => ?_, fun ha => ?_⟩, fun p hp _ => ?_⟩
  ·have hp' : MemPlace.cell b off ∈ before := by rw [hps]; simpa using hp
   have h1 := hlt _ hp'
   rw [hb.frozen (p := ⟨b, off, none⟩) h1]
   exact hz b off hp'
  ·have := hn ha
   rw [hps] at this
   simpa using this
  ·rw [hps]; simpa using hp
theorem Zn6 (w : World) : Sat w (Zd emp emp) w := by
 rw [emp_star]
 exact ⟨Hl.none, rfl, ⟨fun _ _ _ _ h => (by cases h), fun _ _ _ h => (by cases h), Below.refl _ _⟩⟩
end
end Go.Eng
namespace Go.Proofs.Ytidlngnhjffepaa
noncomputable section
open Go.Eng
def ai (n : Nat) : SX := .at .int n
def di (n : Nat) : SX := .at .int (1000000 + n)
def rA (n : Nat) : SX := .at .rows n
def iA (n : Nat) : SX := .at .ints n
def gA (n : Nat) : SX := .at .g n
def bA (n : Nat) : SX := .at .bytes n
def mA (n : Nat) : SX := .at .amap n
def qA (n : Nat) : SX := .at .bool n
def z0 : SX := .int 0
def nilI : SX := .f1 152 (.int 0)
def ZgO : SX := .f1 154 (.int 0)
def tk (x n : SX) : SX := .f2 115 x n
def Zk (x : SX) : SX := .f1 32 x
def Zdc (x : SX) : SX := .f1 30 x
def ZyQ (x : SX) : SX := .f1 31 x
def eqS (a b : SX) : SX := .f2 155 a b
def usI (k : Nat) (a b c : SX) : SX := .us .int k a b c (.int 0)
def usB (k : Nat) (a b c : SX) : SX := .us .bool k a b c (.int 0)
def usR (k : Nat) (a b c : SX) : SX := .us .rows k a b c (.int 0)
def usN (k : Nat) (a b c : SX) : SX := .us .ints k a b c (.int 0)
def usG (k : Nat) (a b c : SX) : SX := .us .g k a b c (.int 0)
def add1 (a : SX) : SX := SX.mk2 40 a (.int 1)
def ZaD (a b : SX) : SX := .f2 124 a b
def Zqv (n : SX) : SX := .f2 122 n nilI
def Zbt (a b : SX) : SX := .f2 122 a (.f2 122 b nilI)
def ints3 (a b c : SX) : SX := .f2 122 a (Zbt b c)
def ZjA (a b c d : SX) : SX := .f2 122 a (ints3 b c d)
def ints5 (a b c d e : SX) : SX := .f2 122 a (ZjA b c d e)
def ZeQ (a b c d e f : SX) : SX := .f2 122 a (ints5 b c d e f)
def nt (x i : SX) (k : Nat) : SX := .f3 112 x i (.int (k : Nat))
def slC (b n c : SX) (s : Nat) : SC := .slice b z0 z0 z0 n c s
def sl1 (b n c : SX) : SC := slC b n c 1
def iE : En := .ints .i64
def iAr (b x c : SX) : Ch := .arr iE b x c
def bAr (b x c : SX) : Ch := .arr .bytes b x c
def g0 (r : List Int) : Int := r.getD 0 0
def g1 (r : List Int) : Int := r.getD 1 0
def g2 (r : List Int) : Int := r.getD 2 0
def slV (b n c : Int) : Value := .slice (if b < 0 then none else some ⟨b.toNat, 0, none⟩) n.toNat c.toNat
def Zl (p : Prop) : Bool := @decide p (Classical.propDecidable p)
theorem Zh {p : Prop} : (Zl p = true) = p := propext ⟨fun h => @of_decide_eq_true p (Classical.propDecidable p) h, fun h => @decide_eq_true p (Classical.propDecidable p) h⟩
def sig0 : Sig Unit := { dg := (), ch := fun _ => true, usr := fun _ _ _ _ _ => .int 0, prd := fun _ _ _ _ => emp }
def bAD (b : Int) (x : List UInt8) (c : Int) : HProp := YL sig0 .bytes (.int b) (.bytes x) (.int c)
def iAD (b : Int) (x : List Int) (c : Int) : HProp := YL sig0 iE (.int b) (.ints x) (.int c)
def rAD (e : En) (b : Int) (x : List (List Int)) (c : Int) : HProp := YL sig0 e (.int b) (.rows x) (.int c)
section
variable {G : Type}
theorem Zcv (S : Sig G) (ρ : Go.Eng.Env G) (b n c : SX) (s : Nat) : (slC b n c s).den S ρ = slV (b.den S ρ).tI (n.den S ρ).tI (c.den S ρ).tI := by
 simp [slC, SC.den, slV, z0, SX.den]
theorem ZU (S : Sig G) (u : U G) : U.co S .int u = .int u.tI := rfl
theorem YP (S : Sig G) (u : U G) : U.co S .bool u = .bool u.toBool := rfl
theorem Zis (S : Sig G) (u : U G) : U.co S .ints u = .ints u.tN := rfl
theorem Zag (S : Sig G) (u : U G) : U.co S .rows u = .rows u.tR := rfl
theorem ZnC (S : Sig G) (u : U G) : U.co S .bytes u = .bytes u.tB := rfl
theorem Zjr (S : Sig G) (u : U G) : U.co S .amap u = .amap u.tM := rfl
theorem ZFe (S : Sig G) (x : G) : U.co S .g (.g x) = .g x := rfl
theorem i64lo : IntKind.min .i64 = -9223372036854775808 := rfl
theorem i64hi : IntKind.max .i64 = 9223372036854775807 := rfl
end
theorem Zdg {α : Type} {R : List α} {d : α} {n j : Nat} (h : j < n) : (R.take n).getD j d = R.getD j d := by
 rw [ZGH, ZGH, List.getElem?_take_of_lt h]
theorem ZaR {G : Type} (S : Sig G) {sp : Ctr} (H : ∀ (T : Sig G) (w0 : World) (ρ : Go.Eng.Env G) (h : Hl), T.usr = S.usr -> T.prd = S.prd -> T.dg = S.dg -> (∀ e ∈ sp.reqs, (e.den T ρ).tP) -> hpDen T ρ w0 sp.pre h →
  ∃ ρ', Ext sp.ss.length ρ ρ' /\ hpDen T ρ' w0 sp.post h /\ ∀ x ∈ sp.facts, (x.den T ρ').tP) : ZcQ S sp := by
 intro ch w0 F ρ w hr hs
 obtain ⟨x, ⟨a, b, d, rfl, ha, hb⟩, hi⟩ := hs
 have e : ∀ (e : SX) ρ, e.den (S.wc ch) ρ = e.den S ρ := fun e ρ => SX.den_wc S ρ ch e
 obtain ⟨ρ', h1, h2, h3⟩ := H (S.wc ch) w0 ρ a rfl rfl rfl (fun q hq => by rw [e]; exact hr q hq) ha
 exact ⟨ρ', h1, ⟨_, ⟨a, b, d, rfl, h2, hb⟩, hi⟩, fun q hq => by rw [<- e]; exact h3 q hq⟩
theorem ZhE {G : Type} {S : Sig G} {e : En} {b x c : U G} {h : Hl} (hd : YL S e b x c h) : (e.vals x).length <= c.tI.toNat * e.stride /\ 0 <= c.tI := by
 obtain ⟨sp, h1, h2, _⟩ := hd; exact ⟨by omega, h2⟩
theorem Zy2 {G : Type} (fs : List Go.Eng.Fd) (x : List (List Int)) : ((En.rows fs).vals (.rows x : U G)).length = x.length * fs.length := by
 simp only [En.vals, U.tRi]
 induction x with
 | nil => simp
 | cons r x ih => rw [List.flatMap_cons, ZGM, ih, ZN, ZG1, Nat.add_mul]; omega
theorem Zzk {fs : List Go.Eng.Fd} (hf : 0 < fs.length) {b c : Int} {x : List (List Int)} {h : Hl} (hd : rAD (.rows fs) b x c h) : (x.length : Int) <= c := by
 obtain ⟨h1, h2⟩ := ZhE hd
 rw [Zy2] at h1
 have : x.length <= c.toNat := Nat.le_of_mul_le_mul_right h1 hf
 have h2 : 0 <= c := h2
 omega
theorem ZFU {b c : Int} {x : List Int} {h : Hl} (hd : iAD b x c h) : (x.length : Int) <= c := by
 obtain ⟨h1, h2⟩ := ZhE hd
 have e1 : (iE.vals (.ints x : U Unit)).length = x.length := by simp [iE, En.vals]
 have e2 : iE.stride = 1 := rfl
 rw [e1, e2] at h1
 have h2 : 0 <= c := h2
 have h1 : x.length <= c.toNat * 1 := h1
 omega
theorem ZhJ (fs : List Go.Eng.Fd) : rAD (.rows fs) (-1) [] 0 = emp := by
 funext h
 have e0 : (En.rows fs).vals (.rows [] : U Unit) = [] := rfl
 refine propext ⟨fun hx => ?_, fun hx => ⟨[], by rw [e0]; simp, ZGS 0, .inr rfl, by rw [e0]; show row _ 0 [] true h; rw [ZdZ]; exact hx⟩⟩
 obtain ⟨sp, l1, _, _, l4⟩ := hx
 have : sp = [] := ZGW (by rw [e0] at l1; simpa using l1)
 subst this
 rw [e0] at l4
 have l4 : row _ 0 [] true h := l4
 rw [ZdZ] at l4
 exact l4
theorem Zvf : iAD (-1) [] 0 = emp := by
 funext h
 refine propext ⟨fun hx => ?_, fun hx => ⟨[], rfl, ZGS 0, .inr rfl, by show row _ 0 [] true h; rw [ZdZ]; exact hx⟩⟩
 obtain ⟨sp, l1, _, _, l4⟩ := hx
 have : sp = [] := ZGW (by have : (iE.vals (.ints [] : U Unit)).length = 0 := rfl; rw [this] at l1; simpa using l1)
 subst this
 have l4 : row _ 0 [] true h := l4
 rw [ZdZ] at l4
 exact l4
theorem Zp8 {A B B' : HProp} {h : Hl} (hs : Zd A B h) (f : ∀ h, B h -> B' h) : Zd A B' h := Zx (fun _ x => x) f h hs
theorem ZdA {A B : HProp} {h : Hl} (hs : Zd A B h) : ∃ a b, A a /\ B b := let ⟨a, b, _, _, x, y⟩ := hs; ⟨a, b, x, y⟩
theorem ZoN {α : Type} {k : List α} {d : α} {i : Nat} (hi : i < k.length) : k = k.take i ++ ([k.getD i d] ++ k.drop (i + 1)) := by
 rw [List.singleton_append, ZGH, ZGK hi, ZGC, <- List.drop_eq_getElem_cons hi, List.take_append_drop]
def ZzR : Ctr := ⟨[], [], [], [], [], .tup [], [iAr (.int (-1)) nilI z0], []⟩
theorem ZkF {G : Type} (S : Sig G) : ZcQ S ZzR := by
 refine ZaR S fun T w0 ρ h hu hp hd hr hpre => ⟨ρ, Ext.refl _ _, ?_, by intro x hx; exact nomatch hx⟩
 have e1 : hpDen T ρ w0 ZzR.pre = emp := rfl
 have e2 : hpDen T ρ w0 ZzR.post = Zd (iAD (-1) [] 0) emp := rfl
 rw [e1] at hpre
 rw [e2, Zi, Zvf]; exact hpre
/-! ### What the run is told, piece by piece -/
section
variable {G : Type} (S : Sig G) (P : Program)
def ZiR : List (Nat × List Ctr) -> Prop
 | [] => True
 | p :: l => (∀ sp ∈ p.2, sp.wf = true /\ ZH S P p.1 sp) /\ ZiR l
def Zog : List (Nat × List Ctr) -> Prop
 | [] => True
 | p :: l => (∀ sp ∈ p.2, sp.wf = true /\ Zla S P p.1 sp) /\ Zog l
def AnnOk : Ann -> Prop
 | .ghost sp _ => sp.wf = true /\ ZcQ S sp
 | .inv _ => True
 | .split _ => True
 | .iff _ => True
 | .cut _ _ _ _ => True
def ZuP : List (Nat × Ann) -> Prop
 | [] => True
 | p :: l => AnnOk S p.2 /\ ZuP l
def ZoA : List (Nat × List (Nat × Ann)) -> Prop
 | [] => True
 | p :: l => ZuP S p.2 /\ ZoA l
variable {S} {P}
theorem ZiR.get {f : Nat} {sps : List Ctr} : ∀ {l : List (Nat × List Ctr)}, ZiR S P l -> ZbB l f = some sps -> ∀ sp ∈ sps, sp.wf = true /\ ZH S P f sp
 | [], _, h => by cases h
 | (i, a) :: l, h1, h => by
  unfold ZbB at h
  cases hb : Nat.beq i f
  ·rw [hb] at h; exact h1.2.get h
  ·rw [hb] at h; cases h; rw [<- ZGI hb]; exact h1.1
theorem Zog.get {f : Nat} {sps : List Ctr} : ∀ {l : List (Nat × List Ctr)}, Zog S P l -> ZbB l f = some sps -> ∀ sp ∈ sps, sp.wf = true /\ Zla S P f sp
 | [], _, h => by cases h
 | (i, a) :: l, h1, h => by
  unfold ZbB at h
  cases hb : Nat.beq i f
  ·rw [hb] at h; exact h1.2.get h
  ·rw [hb] at h; cases h; rw [<- ZGI hb]; exact h1.1
theorem ZuP.get {i : Nat} {sp : Ctr} {args : List Operand} : ∀ {l : List (Nat × Ann)}, ZuP S l -> (i, Ann.ghost sp args) ∈ l -> sp.wf = true /\ ZcQ S sp
 | [], _, h => by cases h
 | p :: l, h1, h => by
  rcases List.mem_cons.1 h with rfl | h
  ·exact h1.1
  ·exact h1.2.get h
theorem ZoA.get {f : Nat} {al : List (Nat × Ann)} : ∀ {l : List (Nat × List (Nat × Ann))}, ZoA S l -> ZbB l f = some al -> ZuP S al
 | [], _, h => by cases h
 | (i, a) :: l, h1, h => by
  unfold ZbB at h
  cases hb : Nat.beq i f
  ·rw [hb] at h; exact h1.2.get h
  ·rw [hb] at h; cases h; exact h1.1
theorem Zab {C : Cx} (h1 : ZiR S P C.specs) (h2 : ZoA S C.anns) (h3 : Zog S P C.exts) : Zqt S P C :=
 ⟨fun f sps h => h1.get h, fun f l h i sp args hm => (h2.get h).get hm, fun f sps h => h3.get h⟩
theorem Zm {f : Nat} {sp : Ctr} (hw : sp.wf = true) (h : ZH S P f sp) : ∀ q ∈ [sp], q.wf = true /\ ZH S P f q := by
 intro q hq; rw [ZGA] at hq; subst hq; exact ⟨hw, h⟩
end
open Go.Eng
abbrev z : SX := .int 0
abbrev k (n : Int) : SX := .int n
abbrev e (a b : SX) : SX := .f2 45 a b
abbrev t (a b : SX) : SX := .f2 46 a b
abbrev l (a b : SX) : SX := .f2 47 a b
abbrev i (e : SX) (k : VC) : VC := .imp e k
abbrev n (e : SX) (k : VC) : VC := .need e k
abbrev u (n : Nat) (s : Srt) (k : VC) : VC := .all n s k
abbrev k0 : SX := .int 1099511627776
abbrev k1 : SX := .int 140737488355328
abbrev k2 : SX := .int 4294967296
abbrev a (n : Nat) : SX := .at .int n
abbrev v (k : Nat) (x : SX) : SX := .us .int k x z z z
abbrev d (k : Nat) (x y : SX) : SX := .us .int k x y z z
abbrev x (k : Nat) (x y w : SX) : SX := .us .int k x y w z
abbrev q (n : Nat) : SX := .at .bool n
abbrev p (k : Nat) (x : SX) : SX := .us .bool k x z z z
abbrev c (k : Nat) (x y : SX) : SX := .us .bool k x y z z
abbrev y (k : Nat) (x y w : SX) : SX := .us .bool k x y w z
abbrev g (n : Nat) : SX := .at .g n
abbrev w (k : Nat) (x : SX) : SX := .us .g k x z z z
abbrev f (k : Nat) (x y : SX) : SX := .us .g k x y z z
abbrev h (k : Nat) (x y w : SX) : SX := .us .g k x y w z
abbrev b (n : Nat) : SX := .at .bytes n
abbrev j (k : Nat) (x : SX) : SX := .us .bytes k x z z z
abbrev wB (k : Nat) (x y : SX) : SX := .us .bytes k x y z z
abbrev hB0 (k : Nat) (x y w : SX) : SX := .us .bytes k x y w z
abbrev s (n : Nat) : SX := .at .ints n
abbrev o (k : Nat) (x : SX) : SX := .us .ints k x z z z
abbrev wN (k : Nat) (x y : SX) : SX := .us .ints k x y z z
abbrev hN (k : Nat) (x y w : SX) : SX := .us .ints k x y w z
abbrev r (n : Nat) : SX := .at .rows n
abbrev vR (k : Nat) (x : SX) : SX := .us .rows k x z z z
abbrev wR (k : Nat) (x y : SX) : SX := .us .rows k x y z z
abbrev hR0 (k : Nat) (x y w : SX) : SX := .us .rows k x y w z
abbrev m (n : Nat) : SX := .at .amap n
abbrev vM (k : Nat) (x : SX) : SX := .us .amap k x z z z
abbrev wM0 (k : Nat) (x y : SX) : SX := .us .amap k x y z z
abbrev hM (k : Nat) (x y w : SX) : SX := .us .amap k x y w z
abbrev sB := (And.intro @U.bool.injEq (And.intro @U.bytes.injEq (And.intro @U.int.injEq (And.intro @U.ints.injEq (And.intro @U.rows.injEq (And.intro @U.tQi (And.intro @U.tBi (And.intro @U.tIi (And.intro @U.tNi (And.intro @U.tMi (And.intro @U.tPi (And.intro @U.tRi (And.intro @ZAo (And.intro @ZBq (And.intro @ZB2 (And.intro @ZDh (And.intro @ZE4 (And.intro @ZjJ (And.intro @ZzS (And.intro @YB (And.intro @ZFz (And.intro @ZF0 (And.intro @ZGc (And.intro @ZCz (And.intro @ZzX (And.intro @Zz5 (And.intro @ZCb (And.intro @ZA0 (And.intro @ZBu (And.intro @ZzZ (And.intro @ZAm (And.intro @ZCm (And.intro @ZB4 (And.intro @ZBI (And.intro @ZDj (And.intro @ZBt (And.intro @ZC0 (And.intro @ZAr (And.intro @Zzp (And.intro @ZGi (And.intro @ZFR (And.intro @ZEE (And.intro @ZGp (And.intro @Znq (And.intro @ZEo (And.intro @ZD0 (And.intro @ZC4 (And.intro @ZB5 (And.intro @Zsx (And.intro @ZCh (And.intro @ZAy (And.intro @ZAV (And.intro @ZCO (And.intro @b46 (And.intro @b47 (And.intro @YP (And.intro @ZnC (And.intro @ZFe (And.intro @ZU (And.intro @Zis (And.intro @Zjr (And.intro @Zag (And.intro @i64hi (And.intro @i64lo (And.intro @Za (And.intro @Zk5 (And.intro @p153 (And.intro @p155 (And.intro @p23 (And.intro @ZAt (And.intro @p45 (And.intro @p46 (And.intro @p47 (And.intro @p50 (And.intro @Zh (And.intro @t46 @t47))))))))))))))))))))))))))))))))))))))))))))))))))))))))))))))))))))))))))))
end
end Go.Proofs.Ytidlngnhjffepaa
namespace Go.Proofs.Ytidlngnhjffepaa
noncomputable section
open Go.Eng
abbrev Ent := List Int
def xk (r : Ent) : Int := r.getD 0 0
def xw (r : Ent) : Int := r.getD 1 0
def ZJ (r : Ent) : List UInt8 := Za6 (r.getD 2 0).toNat
def ZaU (r : Ent) : List UInt8 := Za6 (r.getD 3 0).toNat
def Zcu (r : Ent) : Bool := !(r.getD 4 0 == 0)
def xt (r : Ent) : Int := r.getD 5 0
def xa (x : List Ent) (i : Nat) : Ent := x.getD i []
def b01 (c : Bool) : Int := if c = true then 1 else 0
theorem ZY {G : Type} (a : U G) : ap1 3 a = .int (b01 a.toBool) := rfl
theorem Zfs (c : Bool) : (!(b01 c == 0)) = c := by cases c <;> rfl
/-! ### The reference, over the entries ahead of a place -/
def ZA (x : List Ent) (k w : Int) : Nat -> Int
 | 0 => -1
 | n + 1 => if 0 <= ZA x k w n then ZA x k w n else if xk (xa x n) = k /\ xw (xa x n) = w then n else -1
def Z6 (x : List Ent) (w : Int) : Nat -> Bool × Int
 | 0 => (false, -1)
 | n + 1 =>
  let s := Z6 x w n
  let r := xa x n
  if xk r = 1 /\ xw r = w then (true, s.2)
  else if (xk r = 5 \/ xk r = 6) /\ xw r = w then (false, s.2)
  else if xk r = 7 /\ s.1 = true then (false, (n : Int)) else s
def Zen (x : List Ent) (f a : Int) : Bool := Zl (0 <= f /\ ∀ i : Nat, f < i -> (i : Int) < a -> xk (xa x i) ≠ 1 /\ xk (xa x i) ≠ 2 /\ xk (xa x i) ≠ 7)
def latP (x : List Ent) (f a : Int) : Prop := ∀ i : Nat, f < i -> (i : Int) < a -> xk (xa x i) ≠ 1 /\ xk (xa x i) ≠ 2 /\ xk (xa x i) ≠ 7
def ZhT (x : List Ent) (n : Nat) : Bool :=
 let r := xa x n
 let o := Z6 x (xw r) n
 if xk r = 1 then decide (0 <= ZA x 1 (xw r) n)
 else if xk r = 2 then decide (0 < xw r) && !o.1
 else if xk r = 3 \/ xk r = 4 \/ xk r = 6 then !o.1
 else if xk r = 5 then (!o.1 && !Zen x o.2 n) || decide (0 <= ZA x 5 (xw r) n)
 else false
def ZjX (x : List Ent) : Nat -> Int
 | 0 => 0
 | n + 1 => if xk (xa x n) = 5 then xt (xa x n) else ZjX x n
def ZhC (x : List Ent) (n : Nat) : Bool := decide (xk (xa x n) = 5) && !decide (xt (xa x n) = ZjX x n + 1)
def ZaB (x : List Ent) : Nat -> Int × Int
 | 0 => (-1, 0)
 | n + 1 => if 0 <= (ZaB x n).1 then ZaB x n else if ZhT x n then (n, 1) else if ZhC x n then (n, 2) else (-1, 0)
def ZbX (r : Ent) : Bool :=
 let keyed := decide (xk r = 2) || decide (xk r = 3) || decide (xk r = 4)
 if xk r = 1 \/ xk r = 6 then decide (0 < xw r) && (ZJ r == []) && (ZaU r == []) && !Zcu r && decide (xt r = 0)
 else if xk r = 2 then decide (0 <= xw r) && !(ZJ r == []) && (Zcu r || (ZaU r == [])) && decide (xt r = 0)
 else if xk r = 3 then decide (0 < xw r) && !(ZJ r == []) && Zcu r && decide (xt r = 0)
 else if xk r = 4 then decide (0 < xw r) && !(ZJ r == []) && (ZaU r == []) && !Zcu r && decide (xt r = 0)
 else if xk r = 5 then decide (0 < xw r) && (ZJ r == []) && (ZaU r == []) && !Zcu r && decide (1 <= xt r) && decide (xt r <= 1099511627776)
 else if xk r = 7 then decide (xw r = 0) && (ZJ r == []) && (ZaU r == []) && !Zcu r && decide (xt r = 0)
 else false
def Zih (x : List Ent) (n : Nat) : Bool := Zl (∀ i < n, ZbX (xa x i) = true)
def Ye (x : List Ent) (w : Int) (k : List UInt8) : Nat -> Int
 | 0 => -1
 | n + 1 => if (xk (xa x n) = 3 \/ xk (xa x n) = 4) /\ xw (xa x n) = w /\ ZJ (xa x n) = k then n else Ye x w k n
def Zb5 (x : List Ent) (ks : List Int) (k : List UInt8) : Nat -> List UInt8 × Bool
 | 0 => ([], false)
 | n + 1 => let j := Ye x (ks.getD n 0) k x.length
  if 0 <= j then (ZaU (xa x j.toNat), decide (xk (xa x j.toNat) = 3)) else Zb5 x ks k n
def Zv (x : List Ent) : Nat -> List Int
 | 0 => []
 | n + 1 => if xk (xa x n) = 5 then Zv x n ++ [xw (xa x n)] else Zv x n
def Zdd (x : List Ent) (a : Nat) (ks : List Int) : Bool × Int :=
 let r := xa x a
 let j := Ye x (xw r) (ZJ r) a
 if 0 <= j /\ 0 < xw r then ((Zcu r == decide (xk (xa x j.toNat) = 3)) && (ZaU r == ZaU (xa x j.toNat)), 3)
 else let v := Zb5 x ks (ZJ r) ks.length; ((Zcu r == v.2) && (ZaU r == v.1), 4)
def Zhz (x : List Ent) (n : Nat) : Nat :=
 if 0 < xw (xa x n) then (let c := ZA x 5 (xw (xa x n)) x.length; if 0 <= c then c.toNat else n) else n
def ZbD (x : List Ent) : Nat -> Int × Int
 | 0 => (-1, 0)
 | n + 1 => if 0 <= (ZbD x n).1 then ZbD x n else if xk (xa x n) = 2 then
   (let t := Zdd x n (Zv x (Zhz x n)); if t.1 then (-1, 0) else ((n : Int), t.2)) else (-1, 0)
def lasV (x : List Ent) (j : Int) : List UInt8 := if 0 <= j then ZaU (xa x j.toNat) else []
def lasK (x : List Ent) (j : Int) : Int := if 0 <= j then xk (xa x j.toNat) else 0
def ZaA (x : List Ent) : Int := if 400 < x.length then 2 else if Zih x x.length then 0 else 280
def Ze1 (x : List Ent) : Int × Int × Int :=
 if ZaA x ≠ 0 then (0, 0, ZaA x) else if 0 <= (ZaB x x.length).1 then ((ZaB x x.length).1, (ZaB x x.length).2, 0) else ((ZbD x x.length).1, (ZbD x x.length).2, 0)
/-! ### What the words speak of -/
structure Tx where
 who : Int
 beg : Int
 com : Int
 opn : Bool
 ch : List (Int × Int)
 rds : List Ent
 bad : List Int
def tx0 : Tx := ⟨0, 0, 0, false, [], [], []⟩
inductive GG where
 | tx (l : List Tx)
def gg0 : GG := .tx []
def ZE : U GG -> List Tx
 | .g (.tx l) => l
 | _ => []
theorem ZT (l : List Tx) : ZE (.g (.tx l)) = l := rfl
theorem ZK (x : List Ent) (k w : Int) (n : Nat) : ZA x k w (n + 1) = if 0 <= ZA x k w n then ZA x k w n else if xk (xa x n) = k /\ xw (xa x n) = w then (n : Int) else -1 := rfl
theorem Yd (x : List Ent) (w : Int) (n : Nat) : Z6 x w (n + 1) = (if xk (xa x n) = 1 /\ xw (xa x n) = w then (true, (Z6 x w n).2)
  else if (xk (xa x n) = 5 \/ xk (xa x n) = 6) /\ xw (xa x n) = w then (false, (Z6 x w n).2)
  else if xk (xa x n) = 7 /\ (Z6 x w n).1 = true then (false, (n : Int)) else Z6 x w n) := rfl
theorem Ze5 {x : List Ent} {k w : Int} {n : Nat} (h : 0 <= ZA x k w n) : ∀ {m : Nat}, n <= m -> ZA x k w m = ZA x k w n
 | 0, hm => by rw [Nat.le_zero.1 hm]
 | m + 1, hm => by
  rcases ZGB m n with hlt | hge
  ·rw [show m + 1 = n by omega]
  ·have := Ze5 h hge
   rw [ZK, if_pos (by rw [this]; exact h), this]
theorem Zbu (x : List Ent) (k w : Int) : ∀ n : Nat, -1 <= ZA x k w n /\ ZA x k w n < n /\ (0 <= ZA x k w n -> xk (xa x (ZA x k w n).toNat) = k /\ xw (xa x (ZA x k w n).toNat) = w)
 | 0 => ⟨ZGS _, by show (-1 : Int) < 0; omega, fun h => absurd h (by show ¬ (0 : Int) <= -1; omega)⟩
 | n + 1 => by
  have ih := Zbu x k w n
  rw [ZK]
  split
  ·exact ⟨ih.1, by omega, ih.2.2⟩
  ·split
   ·rename_i h
    exact ⟨by omega, by omega, fun _ => by rw [ZGO]; exact h⟩
   ·exact ⟨ZGS _, by omega, fun h => absurd h (by omega)⟩
theorem Zjy (x : List Ent) (w : Int) : ∀ n : Nat, -1 <= (Z6 x w n).2 /\ (Z6 x w n).2 < n
 | 0 => ⟨ZGS _, by show (-1 : Int) < 0; omega⟩
 | n + 1 => by
  have ih := Zjy x w n
  rw [Yd]
  split
  ·exact ⟨ih.1, by have := ih.2; show (Z6 x w n).2 < _; omega⟩
  ·split
   ·exact ⟨ih.1, by have := ih.2; show (Z6 x w n).2 < _; omega⟩
   ·split
    ·exact ⟨by show (-1 : Int) <= n; omega, by show (n : Int) < _; omega⟩
    ·exact ⟨ih.1, by have := ih.2; omega⟩
theorem Zz {p : Prop} (h : ¬ p) : Zl p = false := by
 cases e : Zl p
 ·rfl
 ·exact absurd ((Zh (p := p)).mp e) h
theorem Zy {p : Prop} (h : p) : Zl p = true := (Zh (p := p)).mpr h
theorem Zgr {x : List Ent} {f a : Int} : Zen x f a = (decide (0 <= f) && Zl (latP x f a)) := by
 unfold Zen
 by_cases h1 : 0 <= f
 ·by_cases h2 : latP x f a
  ·rw [Zy ⟨h1, h2⟩, Zy h2]; simp [h1]
  ·rw [Zz (fun h => h2 h.2), Zz h2]; simp
 ·rw [Zz (fun h => h1 h.1)]; simp [h1]
theorem Zbz (x : List Ent) (w : Int) (k : List UInt8) (n : Nat) : Ye x w k (n + 1) = if (xk (xa x n) = 3 \/ xk (xa x n) = 4) /\ xw (xa x n) = w /\ ZJ (xa x n) = k then (n : Int) else Ye x w k n := rfl
theorem Zbc (x : List Ent) (n : Nat) : ZaB x (n + 1) = if 0 <= (ZaB x n).1 then ZaB x n else if ZhT x n then ((n : Int), 1) else if ZhC x n then ((n : Int), 2) else (-1, 0) := rfl
theorem Zoo (x : List Ent) (n : Nat) : ZbD x (n + 1) = if 0 <= (ZbD x n).1 then ZbD x n else if xk (xa x n) = 2 then (if (Zdd x n (Zv x (Zhz x n))).1 then (-1, 0) else ((n : Int), (Zdd x n (Zv x (Zhz x n))).2)) else (-1, 0) := rfl
theorem may_nr' (r : Ent) : ZbX [r.getD 0 0, r.getD 1 0, (Zq (Za6 (r.getD 2 0).toNat) : Nat), (Zq (Za6 (r.getD 3 0).toNat) : Nat), b01 (!r.getD 4 0 == 0), r.getD 5 0] = ZbX r := by
 unfold ZbX xk xw ZJ ZaU Zcu xt
 simp only [List.getD_cons_zero, List.getD_cons_succ, ZGO, Zn, Zfs]
theorem ZcN (x : List Ent) (n : Nat) : ZhT x n = if xk (xa x n) = 1 then decide (0 <= ZA x 1 (xw (xa x n)) n)
 else if xk (xa x n) = 2 then decide (0 < xw (xa x n)) && !(Z6 x (xw (xa x n)) n).1
 else if xk (xa x n) = 3 \/ xk (xa x n) = 4 \/ xk (xa x n) = 6 then !(Z6 x (xw (xa x n)) n).1
 else if xk (xa x n) = 5 then (!(Z6 x (xw (xa x n)) n).1 && !Zen x (Z6 x (xw (xa x n)) n).2 n) || decide (0 <= ZA x 5 (xw (xa x n)) n)
 else false := rfl
theorem ZbT (x : List Ent) (ks : List Int) (k : List UInt8) (n : Nat) : Zb5 x ks k (n + 1) = if 0 <= Ye x (ks.getD n 0) k x.length then (ZaU (xa x (Ye x (ks.getD n 0) k x.length).toNat), decide (xk (xa x (Ye x (ks.getD n 0) k x.length).toNat) = 3)) else Zb5 x ks k n := rfl
theorem Yi (x : List Ent) (n : Nat) : Zv x (n + 1) = if xk (xa x n) = 5 then Zv x n ++ [xw (xa x n)] else Zv x n := rfl
theorem ZzK (x : List Ent) (a : Nat) (ks : List Int) : Zdd x a ks = if 0 <= Ye x (xw (xa x a)) (ZJ (xa x a)) a /\ 0 < xw (xa x a) then
   ((Zcu (xa x a) == decide (xk (xa x (Ye x (xw (xa x a)) (ZJ (xa x a)) a).toNat) = 3)) && (ZaU (xa x a) == ZaU (xa x (Ye x (xw (xa x a)) (ZJ (xa x a)) a).toNat)), 3)
  else ((Zcu (xa x a) == (Zb5 x ks (ZJ (xa x a)) ks.length).2) && (ZaU (xa x a) == (Zb5 x ks (ZJ (xa x a)) ks.length).1), 4) := rfl
theorem Zeo (x : List Ent) (n : Nat) : Zhz x n = if 0 < xw (xa x n) then (if 0 <= ZA x 5 (xw (xa x n)) x.length then (ZA x 5 (xw (xa x n)) x.length).toNat else n) else n := rfl
theorem Zq6 {x : List Ent} : ∀ {n : Nat}, ¬ 0 <= (ZbD x n).1 -> ZbD x n = (-1, 0)
 | 0, _ => rfl
 | n + 1, h => by
  rw [Zoo] at h ⊢
  split
  ·rename_i q; rw [if_pos q] at h; exact absurd q h
  ·rename_i q; rw [if_neg q] at h
   split
   ·rename_i r; rw [if_pos r] at h
    split
    ·rfl
    ·rename_i t; rw [if_neg t] at h; exact absurd (show (0 : Int) <= n by omega) h
   ·rfl
structure RfSig (S : Sig GG) : Prop where
 u500 : ∀ a b c d, S.usr 500 a b c d = .int (ZA a.tR b.tI c.tI d.tI.toNat)
 u501 : ∀ a b c d, S.usr 501 a b c d = .bool (Z6 a.tR b.tI c.tI.toNat).1
 u502 : ∀ a b c d, S.usr 502 a b c d = .int (Z6 a.tR b.tI c.tI.toNat).2
 u503 : ∀ a b c d, S.usr 503 a b c d = .bool (Zen a.tR b.tI c.tI)
 u504 : ∀ a b c d, S.usr 504 a b c d = .bool (Zl (latP a.tR b.tI c.tI))
 u505 : ∀ a b c d, S.usr 505 a b c d = .bool (ZhT a.tR b.tI.toNat)
 u506 : ∀ a b c d, S.usr 506 a b c d = .int (ZjX a.tR b.tI.toNat)
 u507 : ∀ a b c d, S.usr 507 a b c d = .bool (ZhC a.tR b.tI.toNat)
 u508 : ∀ a b c d, S.usr 508 a b c d = .int (ZaB a.tR b.tI.toNat).1
 u509 : ∀ a b c d, S.usr 509 a b c d = .int (ZaB a.tR b.tI.toNat).2
 u510 : ∀ a b c d, S.usr 510 a b c d = .bool (ZbX a.tN)
 u511 : ∀ a b c d, S.usr 511 a b c d = .bool (Zih a.tR b.tI.toNat)
 u512 : ∀ a b c d, S.usr 512 a b c d = .int (Ye a.tR b.tI c.tB d.tI.toNat)
 u513 : ∀ a b c d, S.usr 513 a b c d = .bytes (Zb5 a.tR b.tN c.tB d.tI.toNat).1
 u514 : ∀ a b c d, S.usr 514 a b c d = .bool (Zb5 a.tR b.tN c.tB d.tI.toNat).2
 u515 : ∀ a b c d, S.usr 515 a b c d = .ints (Zv a.tR b.tI.toNat)
 u516 : ∀ a b c d, S.usr 516 a b c d = .bool (Zdd a.tR b.tI.toNat c.tN).1
 u517 : ∀ a b c d, S.usr 517 a b c d = .int (Zdd a.tR b.tI.toNat c.tN).2
 u518 : ∀ a b c d, S.usr 518 a b c d = .int (ZbD a.tR b.tI.toNat).1
 u519 : ∀ a b c d, S.usr 519 a b c d = .int (ZbD a.tR b.tI.toNat).2
 u520 : ∀ a b c d, S.usr 520 a b c d = .int (Ze1 a.tR).1
 u521 : ∀ a b c d, S.usr 521 a b c d = .int (Ze1 a.tR).2.1
 u522 : ∀ a b c d, S.usr 522 a b c d = .int (Ze1 a.tR).2.2
 u524 : ∀ a b c d, S.usr 524 a b c d = .bytes (lasV a.tR b.tI)
 u525 : ∀ a b c d, S.usr 525 a b c d = .int (lasK a.tR b.tI)
 u523 : ∀ a b c d, S.usr 523 a b c d = .int (ZaA a.tR)
theorem Y3 (a b : U GG) : (ap2 48 a b).tP = (a.toBool = b.toBool) := by
 apply propext
 simp only [ap2, U.tP, U.toBool, beq_iff_eq]
/-! ### Short names -/
def hF : List Go.Eng.Fd := [.int .i64, .int .i64, .str, .str, .bool, .int .i64]
def hE : En := .rows hF
def hS (b : Nat) : SC := .slice (ai b) (ai (b + 1)) z0 z0 (ai (b + 2)) (ai (b + 3)) 6
def hC (j b : Nat) : Ch := .rd j hE (ai b) (ai (b + 1)) (rA (b + 4)) (ai (b + 5))
def hQ (b : Nat) : List SX := [eLe z0 (ai (b + 2)), .f2 45 (ai (b + 2)) (Zk (rA (b + 4))), eLe (ai (b + 2)) (ai (b + 3)), eLe (ai (b + 2)) (.int 9223372036854775807)]
def hA : List Srt := [.int, .int, .int, .int, .rows, .int]
def entX : SX := ZeQ (ai 0) (ai 1) (.f1 35 (bA 2)) (.f1 35 (bA 3)) (.f1 3 (qA 4)) (ai 5)
def ZFp : Ctr := ⟨[.int, .int, .bytes, .bytes, .bool, .int], [.agg [.int .i64 (ai 0), .int .i64 (ai 1), .str (bA 2), .str (bA 3), .bool (qA 4), .int .i64 (ai 5)]], [], [], [.bool], .one (.bool (qA 6)), [], [.f2 48 (qA 6) (usB 510 entX z0 z0)]⟩
def kc (r : Ent) : Int := (Zq (ZJ r) : Nat)
def nr (r : Ent) : Ent := [xk r, xw r, (Zq (ZJ r) : Nat), (Zq (ZaU r) : Nat), b01 (Zcu r), xt r]
def ZR (m : List (Int × Int)) (r : Ent) : Bool :=
 (Zcu r == (Zt m (kc r) && decide ((Yr 0 m (kc r)).tmod 2 = 0))) && (!Zcu r || ZaU r == Za6 ((Yr 0 m (kc r)).tdiv 2).toNat)
def vw (c : Int) : List UInt8 × Bool := (Za6 (c.tdiv 2).toNat, decide (c.tmod 2 = 0))
def ZsH (m1 m2 m3 : List (Int × Int)) : Prop := ∀ k, Zt m3 k = (Zt m1 k || Zt m2 k) /\ vw (Yr 0 m3 k) = if Zt m2 k = true then vw (Yr 0 m2 k) else vw (Yr 0 m1 k)
def layM (m1 m2 left m3 : List (Int × Int)) : Prop := (left.map (·.1)).Nodup /\ (∀ k, Zt left k = true -> Zt m2 k = true) ∧
 ∀ k, Zt m3 k = (Zt m1 k || (Zt m2 k && !Zt left k)) /\ vw (Yr 0 m3 k) = if Zt m2 k = true /\ Zt left k = false then vw (Yr 0 m2 k) else vw (Yr 0 m1 k)
def revN (x : List Ent) (n : Nat) : List Ent := ((x.drop (x.length - n)).map nr).reverse
def eqE (r s : Ent) : Prop := nr r = nr s
structure JbSig (S : Sig GG) : Prop where
 rf : RfSig S
 u530 : ∀ a b c d, S.usr 530 a b c d = .bool (ZR a.tM b.tN)
 u531 : ∀ a b c d, S.usr 531 a b c d = .bool (Zl (ZsH a.tM b.tM c.tM))
 u532 : ∀ a b c d, S.usr 532 a b c d = .bool (Zl (layM a.tM b.tM c.tM d.tM))
 u533 : ∀ a b c d, S.usr 533 a b c d = .rows (revN a.tR b.tI.toNat)
 u534 : ∀ a b c d, S.usr 534 a b c d = .rows ((a.tR.take c.tI.toNat).map nr ++ b.tR.drop c.tI.toNat)
 u536 : ∀ a b c d, S.usr 536 a b c d = .bool (Zl ((a.tM.map (·.1)).Nodup))
 u535 : ∀ a b c d, S.usr 535 a b c d = .bool (Zl (∀ i : Nat, b.tI <= (i : Int) -> (i : Int) < c.tI -> eqE (xa a.tR i) (xa d.tR i)))
theorem JbSig.of {S T : Sig GG} (h : JbSig S) (hu : T.usr = S.usr) : JbSig T := by
 constructor
 ·have := h.rf
  constructor
  all_goals (rw [hu]; first | exact this.u500 | exact this.u501 | exact this.u502 | exact this.u503 | exact this.u504 | exact this.u505 | exact this.u506 | exact this.u507 | exact this.u508 | exact this.u509 | exact this.u510 | exact this.u511 | exact this.u512 | exact this.u513 | exact this.u514 | exact this.u515 | exact this.u516 | exact this.u517 | exact this.u518 | exact this.u519 | exact this.u520 | exact this.u521 | exact this.u522 | exact this.u523 | exact this.u524 | exact this.u525)
 all_goals (rw [hu]; first | exact h.u530 | exact h.u531 | exact h.u532 | exact h.u533 | exact h.u534 | exact h.u535 | exact h.u536)
theorem ZAn (r : Ent) : xk (nr r) = xk r := rfl
theorem ZwZ (r : Ent) : xw (nr r) = xw r := rfl
theorem xt_nr (r : Ent) : xt (nr r) = xt r := rfl
theorem ZiE (r : Ent) : ZJ (nr r) = ZJ r := by
 show Za6 (Int.toNat (Zq (ZJ r) : Nat)) = _
 rw [ZGO, Zn]
theorem Zf7 (r : Ent) : ZaU (nr r) = ZaU r := by
 show Za6 (Int.toNat (Zq (ZaU r) : Nat)) = _
 rw [ZGO, Zn]
theorem Zid (r : Ent) : Zcu (nr r) = Zcu r := by
 exact Zfs _
theorem ZE8 (r : Ent) : [r.getD 0 0, r.getD 1 0, (Zq (Za6 (r.getD 2 0).toNat) : Nat), (Zq (Za6 (r.getD 3 0).toNat) : Nat), b01 (!r.getD 4 0 == 0), r.getD 5 0] = nr r := rfl
theorem nr_nr (r : Ent) : nr (nr r) = nr r := by
 unfold nr
 rw [show [xk r, xw r, (Zq (ZJ r) : Nat), (Zq (ZaU r) : Nat), b01 (Zcu r), xt r] = nr r from rfl, ZAn, ZwZ, xt_nr, ZiE, Zf7, Zid]
 rfl
theorem ZnT (m : List (Int × Int)) (k v q : Int) : Zt (Ym m k v) q = (decide (k = q) || Zt m q) := by
 induction m with
 | nil => simp [Ym, Zt]
 | cons p m ih =>
  obtain ⟨a, b⟩ := p
  unfold Ym
  by_cases h : a = k
  ·subst h; simp only [if_true, Zt]; by_cases hq : a = q <;> simp [hq]
  ·rw [if_neg h]
   simp only [Zt]
   by_cases hq : a = q
   ·simp [hq]
   ·rw [if_neg hq, if_neg hq, ih]
theorem ZoF (d : Int) (m : List (Int × Int)) (k v q : Int) : Yr d (Ym m k v) q = if k = q then v else Yr d m q := by
 induction m with
 | nil => simp [Ym, Yr]
 | cons p m ih =>
  obtain ⟨a, b⟩ := p
  unfold Ym
  by_cases h : a = k
  ·subst h; simp only [if_true, Yr]; by_cases hq : a = q <;> simp [hq]
  ·rw [if_neg h]
   simp only [Yr]
   by_cases hq : a = q
   ·have : ¬ k = q := fun e => h (by rw [hq, e])
    simp [hq, this]
   ·rw [if_neg hq, if_neg hq, ih]
theorem Zbr {m : List (Int × Int)} (hn : (m.map (·.1)).Nodup) (k : Int) : ((YQ m k).map (·.1)).Nodup := by
 induction m with
 | nil => exact hn
 | cons p m ih =>
  obtain ⟨a, b⟩ := p
  simp only [ZGQ, List.nodup_cons] at hn
  unfold YQ
  split
  ·exact hn.2
  ·simp only [ZGQ, List.nodup_cons]
   refine ⟨fun h => hn.1 ?_, ih hn.2⟩
   obtain ⟨q, hq, he⟩ := List.mem_map.1 h
   exact List.mem_map.2 ⟨q, ZiG hq, he⟩
theorem ZcV {m : List (Int × Int)} {k : Int} (h : Zt m k = true) : (YQ m k).length < m.length := by
 induction m with
 | nil => cases h
 | cons p m ih =>
  obtain ⟨a, b⟩ := p
  unfold YQ
  simp only [Zt] at h
  split
  ·simp
  ·rename_i hne; rw [if_neg hne] at h
   have := ih h
   simp only [ZG1]; omega
theorem ZEk (t : List UInt8) (b : Bool) : vw ((Zq t : Nat) * 2 + b01 b) = (t, !b) := by
 unfold vw b01
 cases b
 ·have h1 : (((Zq t : Nat) : Int) * 2 + if false = true then 1 else 0).tdiv 2 = (Zq t : Nat) := by
   rw [Int.tdiv_eq_ediv_of_nonneg (by split <;> omega)]; split <;> omega
  have h2 : (((Zq t : Nat) : Int) * 2 + if false = true then 1 else 0).tmod 2 = 0 := by
   rw [Int.tmod_eq_emod_of_nonneg (by split <;> omega)]; simp
  rw [h1, h2, ZGO, Zn]; rfl
 ·have h1 : (((Zq t : Nat) : Int) * 2 + if true = true then 1 else 0).tdiv 2 = (Zq t : Nat) := by
   rw [Int.tdiv_eq_ediv_of_nonneg (by split <;> omega)]; split <;> omega
  have h2 : (((Zq t : Nat) : Int) * 2 + if true = true then 1 else 0).tmod 2 = 1 := by
   rw [Int.tmod_eq_emod_of_nonneg (by split <;> omega)]; simp
  rw [h1, h2, ZGO, Zn]; rfl
theorem Zas {m : List (Int × Int)} (hn : (m.map (·.1)).Nodup) (k q : Int) : Zt (YQ m k) q = (!decide (k = q) && Zt m q) := by
 induction m with
 | nil => simp [YQ, Zt]
 | cons p m ih =>
  obtain ⟨a, b⟩ := p
  simp only [ZGQ, List.nodup_cons] at hn
  have no : Zt m a = false := by
   cases h : Zt m a
   ·rfl
   ·exfalso; apply hn.1
    clear ih hn
    induction m with
    | nil => cases h
    | cons p m ih2 =>
     obtain ⟨c, e⟩ := p
     simp only [Zt] at h
     split at h
     ·rename_i hc; simp [hc]
     ·simp [ih2 h]
  unfold YQ
  by_cases h : a = k
  ·subst h
   rw [if_pos rfl]
   simp only [Zt]
   by_cases hq : a = q
   ·subst hq; simp [no]
   ·simp [hq]
  ·rw [if_neg h]
   simp only [Zt]
   by_cases hq : a = q
   ·have : ¬ k = q := fun e => h (by rw [hq, e])
    simp [hq, this]
   ·rw [if_neg hq, if_neg hq, ih hn.2]
def scC (b m : SX) : Ch := .map .str .sb b m
def ndmC : Ctr := ⟨[.int, .amap], [.one (.map (ai 0))], [scC (ai 0) (mA 1)], [], [], .tup [], [scC (ai 0) (mA 1)], [usB 536 (mA 1) z0 z0]⟩
theorem ZD4 (S : Sig GG) (hS : JbSig S) : ZcQ S ndmC := by
 refine ZaR S fun T w0 ρ h hu hp hd hr hpre => ⟨ρ, Ext.refl _ _, hpre, ?_⟩
 have hT := hS.of hu
 intro x hx
 simp only [ndmC, ZGA] at hx
 subst hx
 have e1 : hpDen T ρ w0 ndmC.pre = Zd ((scC (ai 0) (mA 1)).den T ρ w0) emp := rfl
 rw [e1, Zi] at hpre
 obtain ⟨_, es, clock, ⟨_, hn, _⟩, _⟩ := hpre
 simp only [usB, SX.den, hT.u536, YP, U.tPi, U.tQi, Zh]
 exact hn
def Zue : Ctr := ZFp
def ZEL : Cx := { specs := [], anns := [] }
def Zrm : Ctr := ⟨hA, [.one (hS 0), .one (.fn 32)], [hC 0 0], [eLe z0 (ai 2), eLe (ai 2) (Zk (rA 4)), eLe (ai 2) (ai 3), eLe (ai 2) (.int 9223372036854775807)], [.bool], .one (.bool (qA 6)), [hC 0 0], [.f2 48 (qA 6) (.f1 2 (usB 511 (rA 4) (ai 2) z0))]⟩
def cfnI : Inv := ⟨[.int], [(8, .one (.int .i64 (di 0)))], [], [eLe z0 (di 0), eLe (di 0) (ai 2), usB 511 (rA 4) (di 0) z0], .f2 41 (ai 2) (di 0)⟩
def ZDN : Cx := { specs := [(33, [Zue])], anns := [(49, [(2, .inv cfnI)])] }
def entY : SX := ZeQ (ai 2) (ai 3) (.f1 35 (bA 4)) (.f1 35 (bA 5)) (.f1 3 (qA 6)) (ai 7)
def Zhx : Ctr := ⟨[.int, .amap, .int, .int, .bytes, .bytes, .bool, .int], [.one (.map (ai 0)), .agg [.int .i64 (ai 2), .int .i64 (ai 3), .str (bA 4), .str (bA 5), .bool (qA 6), .int .i64 (ai 7)]], [scC (ai 0) (mA 1)], [eLe z0 (ai 0)], [.bool],
 .one (.bool (qA 8)), [scC (ai 0) (mA 1)], [.f2 48 (qA 8) (usB 530 (mA 1) entY z0)]⟩
def ZDB : Cx := { specs := [], anns := [] }
def ZkG : Ctr := ⟨[.int, .amap, .int, .amap], [.one (.map (ai 0)), .one (.map (ai 2))], [scC (ai 0) (mA 1), scC (ai 2) (mA 3)], [eLe z0 (ai 0), eLe z0 (ai 2)], [.amap], .tup [], [scC (ai 0) (mA 4), scC (ai 2) (mA 3)], [usB 531 (mA 1) (mA 3) (mA 4)]⟩
def layI : Inv := ⟨[.amap, .ints, .amap], [], [.itr .str .sb (ai 2) (mA 3) (ai 4) (mA 1000000) (iA 1000001), scC (ai 0) (mA 1000002)], [.us .bool 532 (mA 1) (mA 3) (mA 1000000) (mA 1000002)], .f1 33 (mA 1000000)⟩
def ZD2 : Cx := { specs := [], anns := [(40, [(0, .ghost ndmC [.tmp 1]), (1, .inv layI)])] }
def emHC : Ctr := ⟨[], [], [], [], [], .tup [], [.arr hE (.int (-1)) ZgO z0], []⟩
theorem ZDI {G : Type} (S : Sig G) : ZcQ S emHC := by
 refine ZaR S fun T w0 ρ h hu hp hd hr hpre => ⟨ρ, Ext.refl _ _, ?_, by intro x hx; exact nomatch hx⟩
 have e1 : hpDen T ρ w0 emHC.pre = emp := rfl
 have e2 : hpDen T ρ w0 emHC.post = Zd (rAD hE (-1) [] 0) emp := rfl
 rw [e1] at hpre
 rw [e2, Zi, hE, ZhJ]; exact hpre
def ZBf : SX := e (a 0) (k 2)
def Zv2 : SX := .f2 150 (b 2) (b 2)
def ZAv : SX := .f2 150 (b 3) (b 3)
def ZyX : SX := e (a 5) z
def ZAG : SX := .f2 49 (.f2 48 (q 4) (q 4)) ZyX
def ZAR : SX := .f2 49 Zv2 (.f2 49 ZAv ZAG)
def ZCx : SX := l z (a 1)
def Zxs : SX := .f2 150 (b 2) (.byt [])
def ZpQ : SX := p 510 (.f2 122 (a 0) (.f2 122 (a 1) (.f2 122 (.f1 35 (b 2)) (.f2 122 (.f1 35 (b 3)) (.f2 122 (.f1 3 (q 4)) (.f2 122 (a 5) (.f1 152 z)))))))
def Zu4 : SX := .f2 48 (.f1 2 Zxs) ZpQ
def Zuo : SX := t (a 1) z
def ZaC : SX := .f2 48 (.bool false) ZpQ
def ZnE : SX := .f2 150 (b 3) (.byt [])
def ZuR : SX := .f2 49 Zv2 (.f2 49 ZnE ZAG)
def ZuO : SX := e (a 0) (k 3)
def Zv1 : SX := .f2 49 Zv2 (.f2 49 ZAv (.f2 49 (.f2 48 (q 4) (.bool true)) ZyX))
def Zjb : SX := t z (a 1)
def Zpo : SX := l (a 1) z
def Zrv : SX := e (a 0) (k 4)
def Zrk : SX := .f2 48 (q 4) (.bool false)
def Ztq : SX := .f2 49 ZnE (.f2 49 Zrk ZyX)
def Zud : SX := .f2 49 Zv2 Ztq
def ZqP : SX := e (a 0) (k 5)
def Zuy : SX := .f2 49 Zxs (.f2 49 ZnE Zrk)
def ZoP : SX := e (a 0) (k 1)
def Zj7 : SX := .f2 49 Zxs Ztq
def Zuw : SX := .f2 48 Zjb ZpQ
def ZtM : SX := .f1 2 Zj7
def Zus : SX := e (a 0) (k 6)
def ZnH : SX := e (a 0) (k 7)
def ZF4 : VC := u 6 .int (i (l z (a 6)) (u 7 .int (i (l z (a 7)) (.and (i ZBf (.and (i (q 4) (.and (i ZAR (.and (i ZCx (n Zu4 .tt)) (i Zuo (n ZaC .tt)))) (i (.f1 2 ZAR) (n ZaC .tt)))) (i (.f1 2 (q 4)) (.and (i ZuR (.and (i ZCx (n Zu4 .tt)) (i Zuo (n ZaC .tt)))) (i (.f1 2 ZuR) (n ZaC .tt)))))) (i (.f1 2 ZBf) (.and (i ZuO (.and (i Zv1 (.and (i Zjb (n Zu4 .tt)) (i Zpo (n ZaC .tt)))) (i (.f1 2 Zv1) (n ZaC .tt)))) (i (.f1 2 ZuO) (.and (i Zrv (.and (i Zud (.and (i Zjb (n Zu4 .tt)) (i Zpo (n ZaC .tt)))) (i (.f1 2 Zud) (n ZaC .tt)))) (i (.f1 2 Zrv) (.and (i ZqP (.and (i Zuy (.and (i Zjb (.and (i (l (k 1) (a 5)) (n (.f2 48 (l (a 5) k0) ZpQ) .tt)) (i (t (a 5) (k 1)) (n ZaC .tt)))) (i Zpo (n ZaC .tt)))) (i (.f1 2 Zuy) (n ZaC .tt)))) (i (.f1 2 ZqP) (.and (i ZoP (.and (i ZoP (.and (i Zj7 (n Zuw .tt)) (i ZtM (n ZaC .tt)))) .tt)) (i (.f1 2 ZoP) (.and (i Zus (.and (i Zj7 (n Zuw .tt)) (i ZtM (n ZaC .tt)))) (i (.f1 2 Zus) (.and (i ZnH (n (.f2 48 (.f2 49 ZnH (.f2 49 (e (a 1) z) Zj7)) ZpQ) .tt)) (i (.f1 2 ZnH) (n ZaC .tt))))))))))))))))))
theorem ZFB : Zb4 Try.prog ZEL 12 33 Zue = ZF4 := by kernel_rfl
def ZB6 : SX := l z (a 6)
def ZB9 : SX := .f1 2 (c 511 (r 4) (a 2))
def Zqd : SX := .f2 40 (a 6) (k 1)
def ZAu : SX := .f2 41 (a 2) Zqd
def ZD9 : VC := i (l z (a 2)) (i (l (a 2) (.f1 32 (r 4))) (i (l (a 2) (a 3)) (i (l (a 2) (k 9223372036854775807)) (n (p 511 (r 4)) (u 6 .int (i ZB6 (i (l (a 6) (a 2)) (i (c 511 (r 4) (a 6)) (.and (i (t (a 6) (a 2)) (n (t (a 6) (.f1 32 (r 4))) (u 7 .int (i (l z (a 7)) (u 8 .bool (i (.f2 48 (q 8) (p 510 (.f2 122 (.f3 112 (r 4) (a 6) z) (.f2 122 (.f3 112 (r 4) (a 6) (k 1)) (.f2 122 (.f1 35 (.f1 36 (.f3 112 (r 4) (a 6) (k 2)))) (.f2 122 (.f1 35 (.f1 36 (.f3 112 (r 4) (a 6) (k 3)))) (.f2 122 (.f1 3 (.f1 2 (e (.f3 112 (r 4) (a 6) (k 4)) z))) (.f2 122 (.f3 112 (r 4) (a 6) (k 5)) (.f1 152 z))))))))) (.and (i (.f1 2 (q 8)) (n (.f2 48 ZB6 ZB9) .tt)) (i (.f1 2 (.f1 2 (q 8))) (n (.f1 23 Zqd) (n (l z ZAu) (n (t ZAu (.f2 41 (a 2) (a 6))) (n (l z Zqd) (n (l Zqd (a 2)) (n (c 511 (r 4) Zqd) .tt)))))))))))))) (i (l (a 2) (a 6)) (n (.f2 48 (.bool false) ZB9) .tt)))))))))))
theorem ZFh : Zb4 Try.prog ZDN 12 31 Zrm = ZD9 := by kernel_rfl
def ZCJ : SX := .f2 141 (m 1) (.f1 35 (b 4))
def ZAY : SX := .f3 140 z (m 1) (.f1 35 (b 4))
def ZC9 : SX := .f2 48 (q 6) (e (.f2 44 ZAY (k 2)) z)
def ZAB : SX := .f1 2 (.f1 2 (q 6))
def Zx8 : SX := c 530 (m 1) (.f2 122 (a 2) (.f2 122 (a 3) (.f2 122 (.f1 35 (b 4)) (.f2 122 (.f1 35 (b 5)) (.f2 122 (.f1 3 (q 6)) (.f2 122 (a 7) (.f1 152 z)))))))
def ZC5 : SX := .f2 48 (.f2 150 (b 5) (.f1 36 (.f2 43 ZAY (k 2)))) Zx8
def ZDi : SX := .f2 48 (.bool true) Zx8
def ZBL : SX := .f2 48 (.bool false) Zx8
def ZBp : SX := .f2 48 (q 6) (.bool false)
def ZF7 : VC := i (l z (a 0)) (u 8 .int (i (l z (a 8)) (u 9 .int (i (l z (a 9)) (.and (i ZCJ (.and (i ZC9 (.and (i ZAB (n ZC5 .tt)) (i (.f1 2 (q 6)) (n ZDi .tt)))) (i (.f1 2 ZC9) (n ZBL .tt)))) (i (.f1 2 ZCJ) (.and (i ZBp (.and (i ZAB (n ZC5 .tt)) (i (.f1 2 (q 6)) (n ZDi .tt)))) (i (.f1 2 ZBp) (n ZBL .tt)))))))))
theorem ZEf : Zb4 Try.prog ZDB 12 24 Zhx = ZF7 := by kernel_rfl
def ZBM : SX := .f2 143 (m 5) (.f1 35 (b 8))
def Zz7 : SX := .f3 140 z (m 3) (.f1 35 (b 8))
def ZGb : VC := i (l z (a 0)) (i (l z (a 2)) (i (p 536 (m 3)) (u 4 .int (i (l z (a 4)) (n (.us .bool 532 (m 1) (m 3) (m 3) (m 1)) (u 5 .amap (u 6 .ints (u 7 .amap (i (.us .bool 532 (m 1) (m 3) (m 5) (m 7)) (.and (i (e (.f1 33 (m 5)) z) (n (y 531 (m 1) (m 3) (m 7)) .tt)) (u 8 .bytes (i (.f2 141 (m 5) (.f1 35 (b 8))) (u 9 .int (i (l z (a 9)) (n (t (.f1 33 ZBM) (.f1 33 (m 5))) (n (.us .bool 532 (m 1) (m 3) ZBM (.f3 142 (m 7) (.f1 35 (b 8)) (.f2 40 (.f2 42 (.f1 35 (.f1 36 (.f2 43 Zz7 (k 2)))) (k 2)) (.f1 3 (.f1 2 (e (.f2 44 Zz7 (k 2)) z)))))) .tt))))))))))))))))
theorem ZFf : Zb4 Try.prog ZD2 12 25 ZkG = ZGb := by kernel_rfl
theorem ZEK (S : Sig GG) (hS : JbSig S) : ZH S Try.prog 33 Zue := by
 refine Zp S (C := ZEL) (fuel := 12) (Zab trivial trivial trivial) fun ρ => ?_
 rw [ZFB]
 simp only [ZF4, ZBf, Zv2, ZAv, ZyX, ZAG, ZAR, ZCx, Zxs, ZpQ, Zu4, Zuo, ZaC, ZnE, ZuR, ZuO, Zv1, Zjb, Zpo, Zrv, Zrk, Ztq, Zud, ZqP, Zuy, ZoP, Zj7, Zuw, ZtM, Zus, ZnH, hS.rf.u510, VC.den, SX.den, Env.upd, Y3, ZY, beq_iff_eq, ZGG, beq_eq_false_iff_ne, ne_eq, ZGF, ZGE, Int.reduceToNat, Nat.reduceEqDiff, reduceIte, sB]
 generalize (ρ 0).tI = k
 generalize (ρ 1).tI = w
 generalize (ρ 2).tB = a
 generalize (ρ 3).tB = b
 generalize (ρ 4).toBool = c
 generalize (ρ 5).tI = d
 unfold ZbX xk xw ZJ ZaU Zcu xt leB ltB
 simp only [List.getD_cons_zero, List.getD_cons_succ, ZGO, Zn, Zfs]
 have hw : ∀ x y : Int, (x == y) = decide (x = y) := fun x y => by rw [Bool.eq_iff_iff]; simp
 have ha : ∀ x : List UInt8, (x == x) = true := fun x => by simp
 have hc : (c == c) = true := by simp
 simp only [hw, ha, hc, Bool.true_and]
 generalize (a == []) = A
 generalize (b == []) = B
 intro _ _ _ _
 repeat' (first | exact trivial | apply And.intro | intro _)
 all_goals (try simp_all)
 all_goals (first | omega | (cases A <;> cases B <;> cases c <;> simp_all))
theorem ZEj (S : Sig GG) (hS : JbSig S) : ZH S Try.prog 31 Zrm := by
 refine Zp S (C := ZDN) (fuel := 12) (Zab ⟨Zm (by decide) (ZEK S hS), trivial⟩ ⟨⟨trivial, trivial⟩, trivial⟩ trivial) fun ρ => ?_
 rw [ZFh]
 simp only [ZD9, ZB6, ZB9, Zqd, ZAu, hS.rf.u510, hS.rf.u511, VC.den, SX.den, Env.upd, Y3, ZY, beq_iff_eq, ZGG, beq_eq_false_iff_ne, ne_eq, ZGF, ZGE, Int.reduceToNat, Nat.reduceEqDiff, reduceIte, sB]
 generalize (ρ 4).tR = X
 generalize (ρ 2).tI = l
 intro h1 h2 h3 h4
 refine ⟨Zy fun i hi => absurd hi (Nat.not_lt_zero _), fun x hx0 hx1 hx2 => ?_⟩
 obtain ⟨n, rfl⟩ := ZGz hx0
 have e1 : ((n : Int) + 1).toNat = n + 1 := by omega
 simp only [e1, ZGO] at hx2 ⊢
 have hx2 := (Zh (p := ∀ i < n, ZbX (xa X i) = true)).mp hx2
 rw [may_nr']
 refine ⟨fun hlt => ⟨by omega, fun _ _ y hy => ⟨fun q => ⟨?_, trivial⟩, fun q => ⟨by omega, by omega, by omega, by omega, by omega, Zy fun i hi => ?_, trivial⟩⟩⟩, fun hge => ⟨?_, trivial⟩⟩
 ·have hf : Zih X l.toNat = false := Zz fun h => by
   have := h n (by omega)
   have hy : y = ZbX (xa X n) := hy
   rw [<- hy, q] at this; cases this
  rw [hf, Za.2 (by omega)]; rfl
 ·rcases ZGB i n with h | h
  ·exact hx2 i h
  ·rw [show i = n by omega]
   have hy : y = ZbX (xa X n) := hy
   rw [<- hy, q]
 ·have hf : Zih X l.toNat = true := Zy fun i hi => hx2 i (by omega)
  rw [hf]; rfl
theorem ZnS (S : Sig GG) (hS : JbSig S) : ZH S Try.prog 24 Zhx := by
 refine Zp S (C := ZDB) (fuel := 12) (Zab trivial trivial trivial) fun ρ => ?_
 rw [ZEf]
 simp only [ZF7, ZCJ, ZAY, ZC9, ZAB, Zx8, ZC5, ZDi, ZBL, ZBp, hS.u530, VC.den, SX.den, Env.upd, Y3, ZY, beq_iff_eq, ZGG, beq_eq_false_iff_ne, ne_eq, ZGF, ZGE, Int.reduceToNat, Nat.reduceEqDiff, reduceIte, sB]
 generalize (ρ 1).tM = M
 generalize (ρ 2).tI = k
 generalize (ρ 3).tI = w
 generalize (ρ 4).tB = a
 generalize (ρ 5).tB = b
 generalize (ρ 6).toBool = c
 generalize (ρ 7).tI = d
 unfold ZR kc ZJ ZaU Zcu
 simp only [List.getD_cons_zero, List.getD_cons_succ, ZGO, Zn, Zfs]
 generalize Zt M (Zq a : Nat) = h
 generalize Yr 0 M (Zq a : Nat) = g
 have hd : (g.tmod 2 == 0) = decide (g.tmod 2 = 0) := by rw [Bool.eq_iff_iff]; simp
 rw [hd]
 generalize decide (g.tmod 2 = 0) = e
 generalize (b == Za6 (g.tdiv 2).toNat) = f
 intro _ _ _ _ _
 cases h <;> cases c <;> cases e <;> cases f <;> simp
theorem Zt2 (S : Sig GG) (hS : JbSig S) : ZH S Try.prog 25 ZkG := by
 refine Zp S (C := ZD2) (fuel := 12) (Zab trivial ⟨⟨⟨by decide, ZD4 S hS⟩, trivial, trivial⟩, trivial⟩ trivial) fun ρ => ?_
 rw [ZFf]
 simp only [ZGb, ZBM, Zz7, hS.u531, hS.u532, hS.u536, VC.den, SX.den, Env.upd, Y3, ZY, beq_iff_eq, ZGG, beq_eq_false_iff_ne, ne_eq, ZGF, ZGE, Int.reduceToNat, Nat.reduceEqDiff, reduceIte, sB]
 generalize (ρ 1).tM = M
 generalize (ρ 3).tM = N
 intro h1 h2 h3 _ _
 refine ⟨⟨h3, fun k hk => hk, fun k => ⟨?_, ?_⟩⟩, fun L _ R hL => ⟨fun hz => ⟨?_, trivial⟩, fun t ht _ _ => ⟨by have := ZcV ht; omega, ?_, trivial⟩⟩⟩
 ·cases Zt N k <;> simp
 ·rw [if_neg (by rintro ⟨a, b⟩; rw [a] at b; cases b)]
 ·have hz : L = [] := ZGW (by omega)
  subst hz
  obtain ⟨_, _, hl⟩ := hL
  intro k
  obtain ⟨a, b⟩ := hl k
  have hm : Zt [] k = false := rfl
  rw [hm] at a b
  refine ⟨by rw [a]; simp, ?_⟩
  rw [b]
  by_cases q : Zt N k = true
  ·rw [if_pos ⟨q, rfl⟩, if_pos q]
  ·rw [if_neg (fun h => q h.1), if_neg q]
 ·obtain ⟨l1, l2, l3⟩ := hL
  refine ⟨Zbr l1 _, fun k hk => ?_, fun k => ?_⟩
  ·rw [Zas l1] at hk
   exact l2 k (by simp at hk; exact hk.2)
  ·obtain ⟨a, b⟩ := l3 k
   have hN := l2 _ ht
   rw [ZnT, ZoF, Zas l1, a]
   by_cases hk : ((Zq t : Nat) : Int) = k
   ·subst hk
    refine ⟨by rw [hN]; simp, ?_⟩
    rw [if_pos rfl, if_pos ⟨hN, by simp⟩, ZEk]
    unfold vw
    have hd : ((Yr 0 N ((Zq t : Nat) : Int)).tmod 2 == 0) = decide ((Yr 0 N ((Zq t : Nat) : Int)).tmod 2 = 0) := by rw [Bool.eq_iff_iff]; simp
    rw [ZGF, hd]
   ·rw [if_neg hk, b]
    simp [hk]
structure Bk where
 txs : List Tx
 kept : List Nat
 out : List Ent
 fal : List Nat
 fault : Int
 what : Int
def bk0 : Bk := ⟨[], [], [], [], -1, 0⟩
def ixL (w : Int) : List Tx -> Nat
 | [] => 0
 | t :: l => bif t.who == w then 0 else ixL w l + 1
def rdT (t : Tx) (i : Int) (x : Ent) : Tx := if Zt t.ch (kc x) = true then (if ZR t.ch x = true then t else { t with bad := t.bad ++ [i] }) else { t with rds := t.rds ++ [i :: nr x] }
def Bk.flt (B : Bk) (i w : Int) : Bk := { B with fault := i, what := w }
def ZkY : List Tx -> Nat -> List Nat
 | [], _ => []
 | t :: l, n => bif t.opn then n :: ZkY l (n + 1) else ZkY l (n + 1)
def Y6 (B : Bk) (i : Int) (x : Ent) : Bk :=
 let j := ixL (xw x) B.txs
 let t := B.txs.getD j tx0
 let op := decide (j < B.txs.length) && t.opn
 if xk x = 1 then (if j < B.txs.length then B.flt i 1 else { B with txs := B.txs ++ [⟨xw x, i, -1, true, [], [], []⟩], fal := [] })
 else if xk x = 2 then (if xw x = 0 then { B with out := B.out ++ [i :: nr x], fal := [] } else if op = true then { B with txs := B.txs.set j (rdT t i x), fal := [] } else B.flt i 1)
 else if xk x = 3 \/ xk x = 4 then (if op = true then { B with txs := B.txs.set j { t with ch := Ym t.ch (kc x) ((Zq (ZaU x) : Nat) * 2 + b01 (xk x == 4)) } } else B.flt i 1)
 else if xk x = 6 then (if op = true then { B with txs := B.txs.set j { t with opn := false } } else B.flt i 1)
 else if xk x = 5 then (if (op = false /\ ¬ j ∈ B.fal) \/ 0 <= t.com then B.flt i 1 else if ¬ xt x = B.kept.length + 1 then B.flt i 2 else { B with txs := B.txs.set j { t with opn := false, com := i }, kept := B.kept ++ [j] })
 else if xk x = 7 then { B with txs := B.txs.map fun t => { t with opn := false }, fal := ZkY B.txs 0 }
 else B
def ZV (h : List Ent) : Nat -> Bk
 | 0 => bk0
 | n + 1 => if 0 <= (ZV h n).fault then ZV h n else Y6 (ZV h n) n (xa h n)
/-! ### In memory -/
def g3 (r : List Int) : Int := r.getD 3 0
def g4 (r : List Int) : Int := r.getD 4 0
def g5 (r : List Int) : Int := r.getD 5 0
def rE : En := .rows (.int .i64 :: hF)
def mapV (b : Int) : Value := .map (if b < 0 then none else some b.toNat)
def ZzF (b : Int) (who beg com : Int) (opn : Bool) (mb rb rl rc bb bl bc : Int) : HProp := fun h => (0 <= b \/ False) /\ row b.toNat 0 [.int .i64 who, .int .i64 beg, .int .i64 com, .bool opn, mapV mb, slV rb rl rc, slV bb bl bc] true h
def ZrY (b : Int) (m : List (Int × Int)) : HProp := fun h => 0 <= b /\ ∃ es clock, ZeS .str .sb es clock m /\ Zd7 b.toNat (.map es clock) h
def ZcJ (r : List Int) (t : Tx) : HProp := Zd (ZzF (g0 r) t.who t.beg t.com t.opn (g1 r) (g2 r) (t.rds.length : Nat) (g3 r) (g4 r) (t.bad.length : Nat) (g5 r)) (Zd (ZrY (g1 r) t.ch) (Zd (rAD rE (g2 r) t.rds (g3 r)) (iAD (g4 r) t.bad (g5 r))))
def ZdW : List (List Int) -> List Tx -> HProp
 | [], [] => emp
 | r :: rs, t :: ts => Zd (ZcJ r t) (ZdW rs ts)
 | _, _ => fun _ => False
def ZFm (i : Int) (R : List (List Int)) (L : List Tx) : HProp := Zd (ZdW (R.take i.toNat) (L.take i.toNat)) (ZdW (R.drop (i.toNat + 1)) (L.drop (i.toNat + 1)))
def Zxh (R : List (List Int)) (i : Int) (r : List Int) : List (List Int) := R.take i.toNat ++ r :: R.drop (i.toNat + 1)
def setT (L : List Tx) (i : Int) (t : Tx) : List Tx := L.take i.toNat ++ t :: L.drop (i.toNat + 1)
def plOk (R : List (List Int)) (L : List Tx) : Prop := R.length = L.length /\ (R.map g0).Nodup /\ ∀ r ∈ R, 0 <= g0 r
def Zei (R : List (List Int)) (L : List Tx) : List (Int × Int) := (L.zip R).map fun p => (p.1.who, g0 p.2)
def Zbf (R : List (List Int)) (ks : List Nat) : List (List Int) := ks.map fun k => [g0 (R.getD k [])]
def Zp5 (t : Tx) (m : List (Int × Int)) (p : List Int) : Tx := { t with ch := m, com := p.getD 0 0, opn := p.getD 1 0 == 1 }
def ZvE (t : Tx) (r : List Ent) (b : List Int) : Tx := { t with rds := r, bad := b }
def ZcF (l : Int) : List (List Int) -> Nat
 | [] => 0
 | r :: R => bif g0 r == l then 0 else ZcF l R + 1
def ZmL (R : List (List Int)) (b : Int) : Prop := ∃ k, k < R.length /\ b = g0 (R.getD k [])
def ZgK (R : List (List Int)) (L : List Tx) (i : Nat) : HProp := ZzF (g0 (R.getD i [])) (L.getD i tx0).who (L.getD i tx0).beg (L.getD i tx0).com (L.getD i tx0).opn (g1 (R.getD i [])) (g2 (R.getD i [])) ((L.getD i tx0).rds.length : Nat) (g3 (R.getD i [])) (g4 (R.getD i [])) ((L.getD i tx0).bad.length : Nat) (g5 (R.getD i []))
def ZDr (v y : Int) (R : List (List Int)) (L : List Tx) : HProp := fun h => ∀ h', Hl.Disj h h' -> Zd (ZgK R L (ZcF v R)) (ZgK R L (ZcF y R)) h' -> ZdW R L (Hl.un h h')
def atT (L : List Tx) (i : Int) : Tx := L.getD i.toNat tx0
def Zb3 (L : List Tx) (left : List (Int × Int)) : List Tx := L.map fun t => if Zt left t.who = true then t else { t with opn := false }
def Zb1 (left : List (Int × Int)) : List Tx -> Nat -> List Nat
 | [], _ => []
 | t :: l, n => if t.opn = true /\ Zt left t.who = false then n :: Zb1 left l (n + 1) else Zb1 left l (n + 1)
def ZEu (b : Int) (m : List (Int × Int)) : HProp := fun h => 0 <= b /\ ∃ es clock, ZeS (.int .i64) (.one .ptr) es clock m /\ Zd7 b.toNat (.map es clock) h
def celB (b ma kb kl kc ob ol oc ft wt : Int) : HProp := fun h => (0 <= b \/ False) /\ row b.toNat 0 [mapV ma, slV kb kl kc, slV ob ol oc, .int .i64 ft, .int .i64 wt] true h
def bookB (b : Int) (B : Bk) : HProp := fun h => ∃ (ma kb kc ob oc : Int) (R : List (List Int)), Zd (celB b ma kb (B.kept.length : Nat) kc ob (B.out.length : Nat) oc B.fault B.what)
 (Zd (ZEu ma (Zei R B.txs)) (Zd (rAD (.rows [.ptr]) kb (Zbf R B.kept) kc) (Zd (rAD rE ob B.out oc) (ZdW R B.txs)))) h
def ZpX (b : Int) (x : List Ent) : HProp := if b < 0 then emp else bookB b (ZV x x.length)
structure JtSig (S : Sig GG) : Prop where
 jb : JbSig S
 p100 : ∀ w0 k x, S.prd 100 w0 k x = ZdW k.tR (ZE x)
 p101 : ∀ w0 k x, S.prd 101 w0 k x = ZFm (g0 (k.tR.getD 0 [])) (k.tR.drop 1) (ZE x)
 p103 : ∀ w0 k x, S.prd 103 w0 k x = ZpX (g0 (k.tR.getD 0 [])) (k.tR.drop 1)
 u568 : ∀ a b c d, S.usr 568 a b c d = .g (.tx (Zb3 (ZE a) b.tM))
 u571 : ∀ a b c d, S.usr 571 a b c d = .bool (Zl ((a.tM.map (·.1)).Nodup /\ ∀ k, Zt a.tM k = true -> Zt b.tM k = true))
 u569 : ∀ a b c d, S.usr 569 a b c d = .bool (Zl (a.tR.map g0 = b.tR.map g0))
 u570 : ∀ a b c d, S.usr 570 a b c d = .bool (Zl (d.tR.Perm (Zbf c.tR (Zb1 b.tM (ZE a) 0))))
 p102 : ∀ w0 k x, S.prd 102 w0 k x = ZDr (g0 (k.tR.getD 0 [])) (g1 (k.tR.getD 0 [])) (k.tR.drop 1) (ZE x)
 u565 : ∀ a b c d, S.usr 565 a b c d = .bool (Zl (ZmL a.tR b.tI))
 u566 : ∀ a b c d, S.usr 566 a b c d = .int (ZcF b.tI a.tR : Nat)
 u540 : ∀ a b c d, S.usr 540 a b c d = .int (atT (ZE a) b.tI).who
 u541 : ∀ a b c d, S.usr 541 a b c d = .int (atT (ZE a) b.tI).beg
 u542 : ∀ a b c d, S.usr 542 a b c d = .int (atT (ZE a) b.tI).com
 u543 : ∀ a b c d, S.usr 543 a b c d = .bool (atT (ZE a) b.tI).opn
 u544 : ∀ a b c d, S.usr 544 a b c d = .amap (atT (ZE a) b.tI).ch
 u545 : ∀ a b c d, S.usr 545 a b c d = .rows (atT (ZE a) b.tI).rds
 u546 : ∀ a b c d, S.usr 546 a b c d = .ints (atT (ZE a) b.tI).bad
 u547 : ∀ a b c d, S.usr 547 a b c d = .amap (Zei a.tR (ZE b))
 u548 : ∀ a b c d, S.usr 548 a b c d = .rows (Zbf c.tR (ZV a.tR b.tI.toNat).kept)
 u549 : ∀ a b c d, S.usr 549 a b c d = .rows (ZV a.tR b.tI.toNat).out
 u550 : ∀ a b c d, S.usr 550 a b c d = .int (ZV a.tR b.tI.toNat).fault
 u551 : ∀ a b c d, S.usr 551 a b c d = .int (ZV a.tR b.tI.toNat).what
 u552 : ∀ a b c d, S.usr 552 a b c d = .int ((ZE a).length : Nat)
 u553 : ∀ a b c d, S.usr 553 a b c d = .int (ixL b.tI (ZE a) : Nat)
 u554 : ∀ a b c d, S.usr 554 a b c d = .rows (Zxh a.tR b.tI c.tN)
 u555 : ∀ a b c d, S.usr 555 a b c d = .g (.tx (setT (ZE a) b.tI (Zp5 (atT (ZE a) b.tI) c.tM d.tN)))
 u556 : ∀ a b c d, S.usr 556 a b c d = .g (.tx (setT (ZE a) b.tI (ZvE (atT (ZE a) b.tI) c.tR d.tN)))
 u557 : ∀ a b c d, S.usr 557 a b c d = .g (.tx (ZE a ++ [⟨b.tI, c.tI, -1, true, [], [], []⟩]))
 u558 : ∀ a b c d, S.usr 558 a b c d = .bool (Zl (plOk a.tR (ZE b)))
 u559 : ∀ a b c d, S.usr 559 a b c d = .bool (Zl (d.tR.Perm (Zbf c.tR (ZV a.tR b.tI.toNat).fal)))
 u560 : ∀ a b c d, S.usr 560 a b c d = .bool (Zl (∀ r ∈ a.tR, ∃ b', r = [b'] /\ ZmL b.tR b'))
 u561 : ∀ a b c d, S.usr 561 a b c d = .g (.tx (ZV a.tR b.tI.toNat).txs)
 u562 : ∀ a b c d, S.usr 562 a b c d = .bool (Zl ([b.tI] ∈ a.tR))
 u563 : ∀ a b c d, S.usr 563 a b c d = .rows (if Zt a.tM (kc b.tN) = true then c.tR else c.tR ++ [d.tI :: nr b.tN])
 u564 : ∀ a b c d, S.usr 564 a b c d = .ints (if Zt a.tM (kc b.tN) = true /\ ZR a.tM b.tN = false then c.tN ++ [d.tI] else c.tN)
theorem JtSig.of {S T : Sig GG} (h : JtSig S) (hu : T.usr = S.usr) (hp : T.prd = S.prd) : JtSig T := by
 constructor
 ·exact h.jb.of hu
 all_goals first | (rw [hp]; first | exact h.p100 | exact h.p101 | exact h.p102 | exact h.p103) | (rw [hu]; first | exact h.u568 | exact h.u569 | exact h.u570 | exact h.u571 | exact h.u565 | exact h.u566 | exact h.u540 | exact h.u541 | exact h.u542 | exact h.u543 | exact h.u544 | exact h.u545 | exact h.u546 | exact h.u547 | exact h.u548 | exact h.u549 | exact h.u550 | exact h.u551 | exact h.u552 | exact h.u553 | exact h.u554 | exact h.u555 | exact h.u556 | exact h.u557 | exact h.u558 | exact h.u559 | exact h.u560 | exact h.u561 | exact h.u562 | exact h.u563 | exact h.u564)
def txC (R g : SX) : Ch := .prd 100 R g
def txO (i R g : SX) : Ch := .prd 101 (ZaD (Zqv i) R) g
def usM (k : Nat) (a b : SX) : SX := .us .amap k a b z0 z0
def rAr (b x c : SX) : Ch := .arr rE b x c
def ZxJ (who beg com : SX) (opn : SX) (mb rb rl rc bb bl bc : SX) : List SC := [.int .i64 who, .int .i64 beg, .int .i64 com, .bool opn, .map mb, slC rb rl rc 7, sl1 bb bl bc]
def txQ (R g i : SX) : List SC := ZxJ (usI 540 g i z0) (usI 541 g i z0) (usI 542 g i z0) (usB 543 g i z0) (nt R i 1) (nt R i 2) (Zk (usR 545 g i z0)) (nt R i 3) (nt R i 4) (Zdc (usN 546 g i z0)) (nt R i 5)
def txP (b R g i : SX) : List Ch := [.cel b 0 (txQ R g i), scC (nt R i 1) (usM 544 g i), rAr (nt R i 2) (usR 545 g i z0) (nt R i 3), iAr (nt R i 4) (usN 546 g i z0) (nt R i 5)]
def ixW (g w : SX) : SX := usI 553 g w z0
def ZF9 (R g i : SX) : List SX := [eLe (Zk (usR 545 g i z0)) (nt R i 3), eLe (Zdc (usN 546 g i z0)) (nt R i 5), .f2 50 (eLe z0 (nt R i 2)) (.f2 45 (Zk (usR 545 g i z0)) z0), .f2 50 (eLe z0 (nt R i 4)) (.f2 45 (Zdc (usN 546 g i z0)) z0), eLe z0 (nt R i 1), eLe z0 (nt R i 0), .f2 45 (Zk R) (usI 552 g z0 z0)]
def ZxH : Ctr := ⟨[.int, .int, .rows, .g], [.one (.ptr (ai 0) 0), .one (.int .i64 (ai 1))], [txC (rA 2) (gA 3)], [eLt (ixW (gA 3) (ai 1)) (usI 552 (gA 3) z0 z0), .f2 45 (ai 0) (nt (rA 2) (ixW (gA 3) (ai 1)) 0)], [], .tup [],
 txP (ai 0) (rA 2) (gA 3) (ixW (gA 3) (ai 1)) ++ [txO (ixW (gA 3) (ai 1)) (rA 2) (gA 3)], ZF9 (rA 2) (gA 3) (ixW (gA 3) (ai 1))⟩
def Zi0 : Ctr := ⟨[.int, .int, .rows, .g], [.one (.ptr (ai 0) 0)], txO (ai 1) (rA 2) (gA 3) :: txP (ai 0) (rA 2) (gA 3) (ai 1), [.f2 45 (Zk (rA 2)) (usI 552 (gA 3) z0 z0), eLe z0 (ai 1), eLt (ai 1) (usI 552 (gA 3) z0 z0), .f2 45 (ai 0) (nt (rA 2) (ai 1) 0)], [], .tup [], [txC (rA 2) (gA 3)], []⟩
def ZlI : Ctr := ⟨[.int, .int, .rows, .g, .int, .int, .int, .bool, .int, .int, .int, .int, .int, .amap, .rows, .ints, .int, .int], [.one (.ptr (ai 0) 0)],
 [txO (ai 1) (rA 2) (gA 3), .cel (ai 0) 0 (ZxJ (ai 4) (ai 5) (ai 6) (qA 7) (ai 8) (ai 9) (ai 16) (ai 10) (ai 11) (ai 17) (ai 12)), scC (ai 8) (mA 13), rAr (ai 9) (rA 14) (ai 10), iAr (ai 11) (iA 15) (ai 12)],
 [.f2 45 (Zk (rA 2)) (usI 552 (gA 3) z0 z0), eLe z0 (ai 1), eLt (ai 1) (usI 552 (gA 3) z0 z0), .f2 45 (ai 4) (usI 540 (gA 3) (ai 1) z0), .f2 45 (ai 5) (usI 541 (gA 3) (ai 1) z0), .f2 45 (ai 16) (Zk (rA 14)), .f2 45 (ai 17) (Zdc (iA 15))], [], .tup [],
 [txC (usR 554 (rA 2) (ai 1) (ZeQ (ai 0) (ai 8) (ai 9) (ai 10) (ai 11) (ai 12))) (.us .g 556 (.us .g 555 (gA 3) (ai 1) (mA 13) (Zbt (ai 6) (.f1 3 (qA 7)))) (ai 1) (rA 14) (iA 15))], []⟩
def adTC : Ctr := ⟨[.int, .rows, .g, .int, .int, .int], [.one (.ptr (ai 0) 0)],
 [.cel (ai 0) 0 [.int .i64 (ai 3), .int .i64 (ai 4), .int .i64 (.int (-1)), .bool (.bool true), .map (ai 5), slC (.int (-1)) z0 z0 1, sl1 (.int (-1)) z0 z0], scC (ai 5) (.f1 155 z0), txC (rA 1) (gA 2)], [], [], .tup [],
 [txC (.f2 121 (rA 1) (ZaD (ZeQ (ai 0) (ai 5) (.int (-1)) z0 (.int (-1)) z0) ZgO)) (usG 557 (gA 2) (ai 3) (ai 4))], []⟩
def pE : En := .rows [.ptr]
def ixB (R b : SX) : SX := usI 566 R b z0
def twC (v y R g : SX) : Ch := .prd 102 (ZaD (Zbt v y) R) g
def Zyn : Ctr := ⟨[.int, .int, .int, .int, .int, .rows, .int, .rows, .g], [.one (slC (ai 0) (ai 1) (ai 2) 1), .one (.int .i64 (ai 3)), .one (.ptr (ai 4) 0)], [.arr pE (ai 0) (rA 5) (ai 6), txC (rA 7) (gA 8)],
 [usB 565 (rA 7) (ai 4) z0, usB 565 (rA 7) (nt (rA 5) (ai 3) 0) z0, .f1 2 (.f2 45 (ai 4) (nt (rA 5) (ai 3) 0))], [], .tup [],
 [.arr pE (ai 0) (rA 5) (ai 6), .cel (ai 4) 0 (txQ (rA 7) (gA 8) (ixB (rA 7) (ai 4))), .cel (nt (rA 5) (ai 3) 0) 0 (txQ (rA 7) (gA 8) (ixB (rA 7) (nt (rA 5) (ai 3) 0))), twC (ai 4) (nt (rA 5) (ai 3) 0) (rA 7) (gA 8)], []⟩
def ZxX : Ctr := ⟨[.int, .int, .rows, .g], [.one (.ptr (ai 0) 0)], [twC (ai 0) (ai 1) (rA 2) (gA 3), .cel (ai 0) 0 (txQ (rA 2) (gA 3) (ixB (rA 2) (ai 0))), .cel (ai 1) 0 (txQ (rA 2) (gA 3) (ixB (rA 2) (ai 1)))],
 [usB 565 (rA 2) (ai 0) z0, usB 565 (rA 2) (ai 1) z0], [], .tup [], [txC (rA 2) (gA 3)], []⟩
def ZET : Ctr := ⟨[.rows, .g], [], [txC (rA 0) (gA 1)], [], [], .tup [], [txC (rA 0) (gA 1)], [usB 558 (rA 0) (gA 1) z0]⟩
def Zpi : Ctr := ⟨[.int, .rows, .g], [.one (.ptr (ai 0) 0)], [txC (rA 1) (gA 2)], [usB 565 (rA 1) (ai 0) z0], [], .tup [],
 txP (ai 0) (rA 1) (gA 2) (ixB (rA 1) (ai 0)) ++ [txO (ixB (rA 1) (ai 0)) (rA 1) (gA 2)], .f2 45 (ai 0) (nt (rA 1) (ixB (rA 1) (ai 0)) 0) :: eLt (ixB (rA 1) (ai 0)) (usI 552 (gA 2) z0 z0) :: ZF9 (rA 1) (gA 2) (ixB (rA 1) (ai 0))⟩
def pAr (b x c : SX) : Ch := .arr pE b x c
def ZzA : Ctr := ⟨[], [], [], [], [], .tup [], [pAr (.int (-1)) ZgO z0], []⟩
def ZDA : Ctr := ⟨[], [], [], [], [], .tup [], [rAr (.int (-1)) ZgO z0], []⟩
def bkC (b x : SX) : Ch := .prd 103 (ZaD (Zqv b) x) z0
def imC (b m : SX) : Ch := .map (.int .i64) (.one .ptr) b m
def bkQ (ma kb kl kc ob ol oc ft wt : SX) : List SC := [.map ma, slC kb kl kc 1, slC ob ol oc 7, .int .i64 ft, .int .i64 wt]
def xX : SX := tk (rA 4) (ai 2)
def ZDx : Ctr := ⟨hA ++ [.int], [.one (hS 0), .one (.ptr (ai 6) 0)], [hC 0 0], [eLt (ai 6) z0], [], .tup [], [hC 0 0, bkC (ai 6) xX], []⟩
def Zqi : Ctr := ⟨hA ++ [.int, .int, .int, .int, .int, .int, .int, .int, .int, .int, .rows, .g, .amap, .rows, .rows], [.one (hS 0), .one (.ptr (ai 6) 0)],
 [hC 0 0, .cel (ai 6) 0 (bkQ (ai 7) (ai 8) (ai 9) (ai 10) (ai 11) (ai 12) (ai 13) (ai 14) (ai 15)), imC (ai 7) (mA 18), pAr (ai 8) (rA 19) (ai 10), rAr (ai 11) (rA 20) (ai 13), txC (rA 16) (gA 17)],
 [eLe z0 (ai 6), eqS (gA 17) (usG 561 xX (Zk xX) z0), eqS (mA 18) (.us .amap 547 (rA 16) (gA 17) z0 z0), eqS (rA 19) (usR 548 xX (Zk xX) (rA 16)), eqS (rA 20) (usR 549 xX (Zk xX) z0), .f2 45 (ai 9) (Zk (rA 19)), .f2 45 (ai 12) (Zk (rA 20)),
  .f2 45 (ai 14) (usI 550 xX (Zk xX) z0), .f2 45 (ai 15) (usI 551 xX (Zk xX) z0)], [], .tup [], [hC 0 0, bkC (ai 6) xX], []⟩
def emTC : Ctr := ⟨[], [], [], [], [], .tup [], [txC ZgO (usG 561 ZgO z0 z0)], []⟩
theorem Za0 : ∀ {k : List (List Int)} {q : List Tx} {h : Hl}, ZdW k q h -> k.length = q.length
 | [], [], _, _ => rfl
 | r :: k, p :: q, h, hx => by
  obtain ⟨a, b, _, _, _, hb⟩ := hx
  rw [ZG1, ZG1, Za0 hb]
 | [], _ :: _, _, hx => hx.elim
 | _ :: _, [], _, hx => hx.elim
theorem Zdm : ∀ {a : List (List Int)} {c : List Tx} (b : List (List Int)) (d : List Tx), a.length = c.length -> ZdW (a ++ b) (c ++ d) = Zd (ZdW a c) (ZdW b d)
 | [], [], b, d, _ => by rw [List.nil_append, List.nil_append]; show _ = Zd emp _; rw [emp_star]
 | r :: a, p :: c, b, d, h => by
  rw [List.cons_append, List.cons_append]
  show Zd _ (ZdW (a ++ b) (c ++ d)) = Zd (Zd _ (ZdW a c)) (ZdW b d)
  rw [Zdm b d (by simpa using h), star_assoc]
 | [], _ :: _, _, _, h => by simp at h
 | _ :: _, [], _, _, h => by simp at h
theorem Zol (r : List Int) (p : Tx) : ZdW [r] [p] = ZcJ r p := by
 show Zd _ emp = _
 rw [Zi]
theorem Zo2 {R : List (List Int)} {L : List Tx} {i : Int} (hl : R.length = L.length) (h0 : 0 <= i) (hi : i < R.length) (r : List Int) (t : Tx) :
  ZdW (Zxh R i r) (setT L i t) = Zd (ZFm i R L) (ZcJ r t) := by
 unfold Zxh setT ZFm
 rw [<- List.singleton_append, <- List.singleton_append (l := L.drop _), Zdm _ _ (by rw [ZGJ, ZGJ]; omega), Zdm _ _ (show [r].length = [t].length from rfl), Zol, star_assoc, Ya (ZcJ _ _)]
theorem ZoD {α : Type} {R : List α} {d : α} {i : Nat} (hi : i < R.length) : R.take i ++ R.getD i d :: R.drop (i + 1) = R := by
 have := ZoN (d := d) hi
 rw [List.singleton_append] at this
 exact this.symm
theorem ZgD {R : List (List Int)} {L : List Tx} {i : Int} (hl : R.length = L.length) (h0 : 0 <= i) (hi : i < R.length) : ZdW R L = Zd (ZFm i R L) (ZcJ (R.getD i.toNat []) (atT L i)) := by
 rw [<- Zo2 hl h0 hi]
 unfold Zxh setT atT
 rw [ZoD (by omega), ZoD (by omega)]
theorem Zdy (T : Sig GG) (ρ : Go.Eng.Env GG) (w0 : World) (b who beg com opn mb rb rl rc bb bl bc : SX) : (Ch.cel b 0 (ZxJ who beg com opn mb rb rl rc bb bl bc)).den T ρ w0 =
  ZzF (b.den T ρ).tI (who.den T ρ).tI (beg.den T ρ).tI (com.den T ρ).tI (opn.den T ρ).toBool (mb.den T ρ).tI (rb.den T ρ).tI (rl.den T ρ).tI (rc.den T ρ).tI (bb.den T ρ).tI (bl.den T ρ).tI (bc.den T ρ).tI := by
 simp only [ZxJ, Ch.den, ZGQ, List.map_nil, sl1, Zcv, SC.den, reduceCtorEq]
 rfl
theorem Zlc (T : Sig GG) (ρ : Go.Eng.Env GG) (w0 : World) (b m : SX) : (scC b m).den T ρ w0 = ZrY (b.den T ρ).tI (m.den T ρ).tM := rfl
theorem Zii (T : Sig GG) (ρ : Go.Eng.Env GG) (w0 : World) (b x c : SX) : (rAr b x c).den T ρ w0 = rAD rE (b.den T ρ).tI (x.den T ρ).tR (c.den T ρ).tI := rfl
theorem Zt1 (T : Sig GG) (ρ : Go.Eng.Env GG) (w0 : World) (b x c : SX) : (iAr b x c).den T ρ w0 = iAD (b.den T ρ).tI (x.den T ρ).tN (c.den T ρ).tI := rfl
theorem Zgk (T : Sig GG) (ρ : Go.Eng.Env GG) (R i : SX) (k : Nat) : (nt R i k).den T ρ = .int (((R.den T ρ).tR.getD (i.den T ρ).tI.toNat []).getD k 0) := by
 show (ap3 112 (R.den T ρ) (i.den T ρ) (U.int (k : Int))) = _
 rw [Zsx]; rfl
theorem Ztu {T : Sig GG} (hT : JtSig T) (ρ : Go.Eng.Env GG) (w0 : World) (b R g i : SX) (hb : (b.den T ρ).tI = g0 ((R.den T ρ).tR.getD (i.den T ρ).tI.toNat [])) :
  hpDen T ρ w0 (txP b R g i) = ZcJ ((R.den T ρ).tR.getD (i.den T ρ).tI.toNat []) (atT (ZE (g.den T ρ)) (i.den T ρ).tI) := by
 have e : hpDen T ρ w0 (txP b R g i) = Zd ((Ch.cel b 0 (txQ R g i)).den T ρ w0) (Zd ((scC (nt R i 1) (usM 544 g i)).den T ρ w0) (Zd ((rAr (nt R i 2) (usR 545 g i z0) (nt R i 3)).den T ρ w0) (Zd ((iAr (nt R i 4) (usN 546 g i z0) (nt R i 5)).den T ρ w0) emp))) := rfl
 rw [e, Zi, txQ, Zdy, Zlc, Zii, Zt1]
 simp only [Zgk, usI, usB, usR, usN, usM, Zk, Zdc, SX.den, hT.u540, hT.u541, hT.u542, hT.u543, hT.u544, hT.u545, hT.u546, ZU, YP, Zjr, Zag, Zis, ZjJ, YB, U.tIi, U.tQi, U.tMi, U.tRi, U.tNi]
 rw [hb]
 rfl
theorem ZcX {r : List Int} {t : Tx} {h : Hl} (hi : ZcJ r t h) : ((t.rds.length : Nat) : Int) <= g3 r /\ ((t.bad.length : Nat) : Int) <= g5 r /\ (0 <= g2 r \/ ((t.rds.length : Nat) : Int) = 0) /\ (0 <= g4 r \/ ((t.bad.length : Nat) : Int) = 0) /\ 0 <= g1 r /\ 0 <= g0 r := by
 obtain ⟨a, b, _, _, ha, hb⟩ := hi
 obtain ⟨c, d, _, _, hc, hd⟩ := hb
 obtain ⟨e, f, _, _, he, hf⟩ := hd
 have h1 := Zzk (by decide) he
 have h2 := ZFU hf
 refine ⟨h1, h2, ?_, ?_, hc.1, by simpa using ha.1⟩
 ·obtain ⟨_, _, _, q, _⟩ := he
  rcases q with q | q
  ·exact .inl q
  ·exact .inr (by have : g3 r = 0 := q; omega)
 ·obtain ⟨_, _, _, q, _⟩ := hf
  rcases q with q | q
  ·exact .inl q
  ·exact .inr (by have : g5 r = 0 := q; omega)
theorem Zyw {T : Sig GG} (hT : JtSig T) (ρ : Go.Eng.Env GG) (R g i : SX) {h : Hl} (hl : (R.den T ρ).tR.length = (ZE (g.den T ρ)).length) (hi : ZcJ ((R.den T ρ).tR.getD (i.den T ρ).tI.toNat []) (atT (ZE (g.den T ρ)) (i.den T ρ).tI) h) : ∀ e ∈ ZF9 R g i, (e.den T ρ).tP := by
 obtain ⟨f1, f2, f3, f4, f5, f6⟩ := ZcX hi
 have w1 : ((Zk (usR 545 g i z0)).den T ρ).tI = ((atT (ZE (g.den T ρ)) (i.den T ρ).tI).rds.length : Nat) := by
  simp only [Zk, usR, SX.den, hT.u545, Zag, YB, U.tIi, U.tRi]
 have w2 : ((Zdc (usN 546 g i z0)).den T ρ).tI = ((atT (ZE (g.den T ρ)) (i.den T ρ).tI).bad.length : Nat) := by
  simp only [Zdc, usN, SX.den, hT.u546, Zis, ZjJ, U.tIi, U.tNi]
 have n0 : ∀ k, ((nt R i k).den T ρ).tI = (((R.den T ρ).tR.getD (i.den T ρ).tI.toNat []).getD k 0) := fun k => by rw [Zgk]; rfl
 have z : (z0.den T ρ).tI = 0 := rfl
 intro e he
 simp only [ZF9, List.mem_cons, List.not_mem_nil, or_false] at he
 rcases he with rfl | rfl | rfl | rfl | rfl | rfl | rfl
 ·rw [Ze, w1, n0]; exact f1
 ·rw [Ze, w2, n0]; exact f2
 ·simp only [SX.den, p50]
  rcases f3 with q | q
  ·left; show ((eLe z0 (nt R i 2)).den T ρ).tP; rw [Ze, n0, z]; exact q
  ·right; show (ap2 45 ((Zk (usR 545 g i z0)).den T ρ) (z0.den T ρ)).tP; rw [p45, w1, z]; exact q
 ·simp only [SX.den, p50]
  rcases f4 with q | q
  ·left; show ((eLe z0 (nt R i 4)).den T ρ).tP; rw [Ze, n0, z]; exact q
  ·right; show (ap2 45 ((Zdc (usN 546 g i z0)).den T ρ) (z0.den T ρ)).tP; rw [p45, w2, z]; exact q
 ·rw [Ze, n0, z]; exact f5
 ·rw [Ze, n0, z]; exact f6
 ·simp only [Zk, usI, SX.den, hT.u552, p45, YB, U.tIi, ZU]; rw [hl]
theorem Ztl {T : Sig GG} (hT : JtSig T) (ρ : Go.Eng.Env GG) (w0 : World) (b R g i : SX) {h : Hl} (h0 : 0 <= (i.den T ρ).tI) (h1 : (i.den T ρ).tI < ((ZE (g.den T ρ)).length : Nat))
  (hb : (b.den T ρ).tI = ((nt R i 0).den T ρ).tI) (hp : ZdW (R.den T ρ).tR (ZE (g.den T ρ)) h) : hpDen T ρ w0 (txP b R g i ++ [txO i R g]) h /\ ∀ e ∈ ZF9 R g i, (e.den T ρ).tP := by
 have hl := Za0 hp
 rw [ZgD hl h0 (by omega)] at hp
 rw [Zgk] at hb
 have hb : (b.den T ρ).tI = g0 ((R.den T ρ).tR.getD (i.den T ρ).tI.toNat []) := hb
 have e : hpDen T ρ w0 (txP b R g i ++ [txO i R g]) = Zd (hpDen T ρ w0 (txP b R g i)) (Zd (T.prd 101 w0 ((ZaD (Zqv i) R).den T ρ) (g.den T ρ)) emp) := by
  unfold hpDen; rw [ZGX, Zcw]; rfl
 rw [e, Zi, Ztu hT ρ w0 b R g i hb, hT.p101]
 have k2 : ((ZaD (Zqv i) R).den T ρ).tR = [(i.den T ρ).tI] :: (R.den T ρ).tR := rfl
 rw [k2]
 refine ⟨by rw [Ya]; exact hp, ?_⟩
 obtain ⟨_, _, _, _, _, hi⟩ := hp
 exact Zyw hT ρ R g i hl hi
theorem ZkW (S : Sig GG) (hS : JtSig S) : ZcQ S ZxH := by
 refine ZaR S fun T w0 ρ h hu hp hd hr hpre => ⟨ρ, Ext.refl _ _, ?_⟩
 have hT := hS.of hu hp
 have e1 : hpDen T ρ w0 ZxH.pre = Zd (T.prd 100 w0 ((rA 2).den T ρ) ((gA 3).den T ρ)) emp := rfl
 rw [e1, Zi, hT.p100] at hpre
 have r1 := hr (eLt (ixW (gA 3) (ai 1)) (usI 552 (gA 3) z0 z0)) (by simp [ZxH])
 have r2 := hr (.f2 45 (ai 0) (nt (rA 2) (ixW (gA 3) (ai 1)) 0)) (by simp [ZxH])
 have hix : ((ixW (gA 3) (ai 1)).den T ρ).tI = (ixL (ρ 1).tI (ZE ((gA 3).den T ρ)) : Nat) := by
  simp only [ixW, usI, SX.den, hT.u553, ZU, U.tIi]; rfl
 rw [Yk] at r1
 have e552 : ((usI 552 (gA 3) z0 z0).den T ρ).tI = ((ZE ((gA 3).den T ρ)).length : Nat) := by
  simp only [usI, SX.den, hT.u552, ZU, U.tIi]
 rw [e552] at r1
 have r2 : (ap2 45 ((ai 0).den T ρ) ((nt (rA 2) (ixW (gA 3) (ai 1)) 0).den T ρ)).tP := r2
 rw [p45] at r2
 exact Ztl hT ρ w0 (ai 0) (rA 2) (gA 3) (ixW (gA 3) (ai 1)) (by rw [hix]; omega) r1 r2 hpre
theorem Zcg (S : Sig GG) (hS : JtSig S) : ZcQ S Zi0 := by
 refine ZaR S fun T w0 ρ h hu hp hd hr hpre => ⟨ρ, Ext.refl _ _, ?_, (fun x hx => nomatch hx)⟩
 have hT := hS.of hu hp
 have e1 : hpDen T ρ w0 Zi0.pre = Zd (T.prd 101 w0 ((ZaD (Zqv (ai 1)) (rA 2)).den T ρ) ((gA 3).den T ρ)) (hpDen T ρ w0 (txP (ai 0) (rA 2) (gA 3) (ai 1))) := rfl
 have e2 : hpDen T ρ w0 Zi0.post = Zd (T.prd 100 w0 ((rA 2).den T ρ) ((gA 3).den T ρ)) emp := rfl
 have r0 := hr (eLe z0 (ai 1)) (by simp [Zi0])
 have r1 := hr (eLt (ai 1) (usI 552 (gA 3) z0 z0)) (by simp [Zi0])
 have r2 := hr (.f2 45 (ai 0) (nt (rA 2) (ai 1) 0)) (by simp [Zi0])
 rw [Ze] at r0
 rw [Yk] at r1
 simp only [usI, SX.den, hT.u552, ZU, U.tIi] at r1
 have r2 : (ap2 45 ((ai 0).den T ρ) ((nt (rA 2) (ai 1) 0).den T ρ)).tP := r2
 rw [p45, Zgk] at r2
 have k2 : ((ZaD (Zqv (ai 1)) (rA 2)).den T ρ).tR = [((ai 1).den T ρ).tI] :: ((rA 2).den T ρ).tR := rfl
 rw [e1, hT.p101, k2, Ztu hT ρ w0 (ai 0) (rA 2) (gA 3) (ai 1) r2] at hpre
 rw [e2, Zi, hT.p100]
 have r0 : 0 <= ((ai 1).den T ρ).tI := r0
 have hl := hr (.f2 45 (Zk (rA 2)) (usI 552 (gA 3) z0 z0)) (by simp [Zi0])
 simp only [Zk, usI, SX.den, hT.u552, p45, YB, U.tIi, ZU] at hl
 have hl : ((rA 2).den T ρ).tR.length = (ZE ((gA 3).den T ρ)).length := by omega
 rw [ZgD hl r0 (by omega)]
 exact hpre
theorem ZeZ {L : List Tx} {i : Int} {t u : Tx} (h0 : 0 <= i) (hi : i < L.length) : setT (setT L i t) i u = setT L i u /\ atT (setT L i t) i = t := by
 have hl : (L.take i.toNat).length = i.toNat := by rw [ZGJ]; omega
 have e1 : (L.take i.toNat ++ t :: L.drop (i.toNat + 1)).take i.toNat = L.take i.toNat := by
  rw [List.take_append_of_le_length (by omega), List.take_take, Nat.min_self]
 have e2 : (L.take i.toNat ++ t :: L.drop (i.toNat + 1)).drop (i.toNat + 1) = L.drop (i.toNat + 1) := by
  rw [List.drop_append, List.drop_of_length_le (by omega), hl, List.nil_append, show i.toNat + 1 - i.toNat = 1 by omega]; rfl
 unfold setT atT
 refine ⟨by rw [e1, e2], ?_⟩
 rw [ZGH, ZG0 (by omega), hl, Nat.sub_self]; rfl
theorem Zi7 (S : Sig GG) (hS : JtSig S) : ZcQ S ZlI := by
 refine ZaR S fun T w0 ρ h hu hp hd hr hpre => ⟨ρ, Ext.refl _ _, ?_, (fun x hx => nomatch hx)⟩
 have hT := hS.of hu hp
 have e1 : hpDen T ρ w0 ZlI.pre = Zd (T.prd 101 w0 ((ZaD (Zqv (ai 1)) (rA 2)).den T ρ) ((gA 3).den T ρ)) (Zd ((Ch.cel (ai 0) 0 (ZxJ (ai 4) (ai 5) (ai 6) (qA 7) (ai 8) (ai 9) (ai 16) (ai 10) (ai 11) (ai 17) (ai 12))).den T ρ w0) (Zd ((scC (ai 8) (mA 13)).den T ρ w0) (Zd ((rAr (ai 9) (rA 14) (ai 10)).den T ρ w0) (Zd ((iAr (ai 11) (iA 15) (ai 12)).den T ρ w0) emp)))) := rfl
 have e2 : hpDen T ρ w0 ZlI.post = Zd (T.prd 100 w0 ((usR 554 (rA 2) (ai 1) (ZeQ (ai 0) (ai 8) (ai 9) (ai 10) (ai 11) (ai 12))).den T ρ) ((Go.Eng.SX.us .g 556 (.us .g 555 (gA 3) (ai 1) (mA 13) (Zbt (ai 6) (.f1 3 (qA 7)))) (ai 1) (rA 14) (iA 15)).den T ρ)) emp := rfl
 have r0 := hr (eLe z0 (ai 1)) (by simp [ZlI])
 have r1 := hr (eLt (ai 1) (usI 552 (gA 3) z0 z0)) (by simp [ZlI])
 have r4 := hr (.f2 45 (ai 4) (usI 540 (gA 3) (ai 1) z0)) (by simp [ZlI])
 have r5 := hr (.f2 45 (ai 5) (usI 541 (gA 3) (ai 1) z0)) (by simp [ZlI])
 have r6 := hr (.f2 45 (ai 16) (Zk (rA 14))) (by simp [ZlI])
 have r7 := hr (.f2 45 (ai 17) (Zdc (iA 15))) (by simp [ZlI])
 have hl := hr (.f2 45 (Zk (rA 2)) (usI 552 (gA 3) z0 z0)) (by simp [ZlI])
 rw [Ze] at r0
 rw [Yk] at r1
 simp only [usI, SX.den, hT.u552, ZU, U.tIi] at r1
 simp only [Zk, Zdc, usI, SX.den, hT.u552, hT.u540, hT.u541, p45, ZjJ, YB, U.tIi, ZU] at hl r4 r5 r6 r7
 have hl : ((rA 2).den T ρ).tR.length = (ZE ((gA 3).den T ρ)).length := by omega
 have r0 : 0 <= ((ai 1).den T ρ).tI := r0
 have k2 : ((ZaD (Zqv (ai 1)) (rA 2)).den T ρ).tR = [((ai 1).den T ρ).tI] :: ((rA 2).den T ρ).tR := rfl
 have k3 : ((usR 554 (rA 2) (ai 1) (ZeQ (ai 0) (ai 8) (ai 9) (ai 10) (ai 11) (ai 12))).den T ρ).tR = Zxh ((rA 2).den T ρ).tR ((ai 1).den T ρ).tI [(ρ 0).tI, (ρ 8).tI, (ρ 9).tI, (ρ 10).tI, (ρ 11).tI, (ρ 12).tI] := by
  simp only [usR, SX.den, hT.u554, Zag, U.tRi]; try rfl
 have k4 : ZE ((Go.Eng.SX.us .g 556 (.us .g 555 (gA 3) (ai 1) (mA 13) (Zbt (ai 6) (.f1 3 (qA 7)))) (ai 1) (rA 14) (iA 15)).den T ρ) =
   setT (ZE ((gA 3).den T ρ)) ((ai 1).den T ρ).tI (ZvE (Zp5 (atT (ZE ((gA 3).den T ρ)) ((ai 1).den T ρ).tI) (ρ 13).tM [(ρ 6).tI, b01 (ρ 7).toBool]) (ρ 14).tR (ρ 15).tN) := by
  have hw : ZE ((Go.Eng.SX.us .g 555 (gA 3) (ai 1) (mA 13) (Zbt (ai 6) (.f1 3 (qA 7)))).den T ρ) = setT (ZE ((gA 3).den T ρ)) ((ai 1).den T ρ).tI (Zp5 (atT (ZE ((gA 3).den T ρ)) ((ai 1).den T ρ).tI) (ρ 13).tM [(ρ 6).tI, b01 (ρ 7).toBool]) := by
   simp only [SX.den, hT.u555, ZFe, ZT]; rfl
  have hw2 : ∀ g : SX, ZE ((Go.Eng.SX.us .g 556 g (ai 1) (rA 14) (iA 15)).den T ρ) = setT (ZE (g.den T ρ)) ((ai 1).den T ρ).tI (ZvE (atT (ZE (g.den T ρ)) ((ai 1).den T ρ).tI) (ρ 14).tR (ρ 15).tN) := fun g => by
   simp only [SX.den, hT.u556, ZFe, ZT]; rfl
  rw [hw2, hw, (ZeZ r0 r1).1, (ZeZ (u := tx0) r0 r1).2]
 rw [e1, hT.p101, k2, Zdy, Zlc, Zii, Zt1, Zi] at hpre
 rw [e2, Zi, hT.p100, k3, k4, Zo2 hl r0 (by omega)]
 have ei : ZcJ [(ρ 0).tI, (ρ 8).tI, (ρ 9).tI, (ρ 10).tI, (ρ 11).tI, (ρ 12).tI] (ZvE (Zp5 (atT (ZE ((gA 3).den T ρ)) ((ai 1).den T ρ).tI) (ρ 13).tM [(ρ 6).tI, b01 (ρ 7).toBool]) (ρ 14).tR (ρ 15).tN) =
   Zd (ZzF (ρ 0).tI (ρ 4).tI (ρ 5).tI (ρ 6).tI (b01 (ρ 7).toBool == 1) (ρ 8).tI (ρ 9).tI (ρ 16).tI (ρ 10).tI (ρ 11).tI (ρ 17).tI (ρ 12).tI) (Zd (ZrY (ρ 8).tI (ρ 13).tM) (Zd (rAD rE (ρ 9).tI (ρ 14).tR (ρ 10).tI) (iAD (ρ 11).tI (ρ 15).tN (ρ 12).tI))) := by
  have q4 : (ρ 4).tI = (atT (ZE ((gA 3).den T ρ)) ((ai 1).den T ρ).tI).who := r4
  have q5 : (ρ 5).tI = (atT (ZE ((gA 3).den T ρ)) ((ai 1).den T ρ).tI).beg := r5
  have q6 : (ρ 16).tI = ((ρ 14).tR.length : Nat) := r6
  have q7 : (ρ 17).tI = ((ρ 15).tN.length : Nat) := r7
  rw [q4, q5, q6, q7]; rfl
 rw [ei, show (b01 (ρ 7).toBool == 1) = (ρ 7).toBool from by cases (ρ 7).toBool <;> rfl]
 exact hpre
theorem ZDD (S : Sig GG) (hS : JtSig S) : ZcQ S adTC := by
 refine ZaR S fun T w0 ρ h hu hp hd hr hpre => ⟨ρ, Ext.refl _ _, ?_, (fun x hx => nomatch hx)⟩
 have hT := hS.of hu hp
 have e1 : hpDen T ρ w0 adTC.pre = Zd ((Ch.cel (ai 0) 0 (ZxJ (ai 3) (ai 4) (.int (-1)) (.bool true) (ai 5) (.int (-1)) z0 z0 (.int (-1)) z0 z0)).den T ρ w0) (Zd ((scC (ai 5) (.f1 155 z0)).den T ρ w0) (Zd (T.prd 100 w0 ((rA 1).den T ρ) ((gA 2).den T ρ)) emp)) := by
  have q : (Ch.cel (ai 0) 0 (ZxJ (ai 3) (ai 4) (.int (-1)) (.bool true) (ai 5) (.int (-1)) z0 z0 (.int (-1)) z0 z0)).den T ρ w0 = (Ch.cel (ai 0) 0 [.int .i64 (ai 3), .int .i64 (ai 4), .int .i64 (.int (-1)), .bool (.bool true), .map (ai 5), slC (.int (-1)) z0 z0 1, sl1 (.int (-1)) z0 z0]).den T ρ w0 := by
   rw [Zdy]
   simp only [Ch.den, ZGQ, List.map_nil, sl1, Zcv, SC.den, reduceCtorEq]
   rfl
  rw [q]; rfl
 have e2 : hpDen T ρ w0 adTC.post = Zd (T.prd 100 w0 ((Go.Eng.SX.f2 121 (rA 1) (ZaD (ZeQ (ai 0) (ai 5) (.int (-1)) z0 (.int (-1)) z0) ZgO)).den T ρ) ((usG 557 (gA 2) (ai 3) (ai 4)).den T ρ)) emp := rfl
 rw [e1, Zdy, Zlc, Zi, hT.p100] at hpre
 have k3 : ((Go.Eng.SX.f2 121 (rA 1) (ZaD (ZeQ (ai 0) (ai 5) (.int (-1)) z0 (.int (-1)) z0) ZgO)).den T ρ).tR = ((rA 1).den T ρ).tR ++ [[(ρ 0).tI, (ρ 5).tI, -1, 0, -1, 0]] := rfl
 have k4 : ZE ((usG 557 (gA 2) (ai 3) (ai 4)).den T ρ) = ZE ((gA 2).den T ρ) ++ [⟨(ρ 3).tI, (ρ 4).tI, -1, true, [], [], []⟩] := by
  simp only [usG, SX.den, hT.u557, ZFe, ZT]; rfl
 rw [e2, Zi, hT.p100, k3, k4]
 obtain ⟨a, b, d, rfl, ha, c, e, d2, rfl, hc, he⟩ := hpre
 rw [Zdm _ _ (Za0 he), Zol]
 have ei : ZcJ [(ρ 0).tI, (ρ 5).tI, -1, 0, -1, 0] ⟨(ρ 3).tI, (ρ 4).tI, -1, true, [], [], []⟩ = Zd (ZzF (ρ 0).tI (ρ 3).tI (ρ 4).tI (-1) true (ρ 5).tI (-1) 0 0 (-1) 0 0) (ZrY (ρ 5).tI []) := by
  show Zd _ (Zd _ (Zd (rAD rE (-1) [] 0) (iAD (-1) [] 0))) = _
  rw [rE, ZhJ, Zvf, Zi, Zi]; rfl
 rw [ei, Ya, star_assoc]
 exact ⟨a, _, d, rfl, ha, c, e, d2, rfl, hc, he⟩
theorem ZxD {b : Int} {w1 b1 c1 : Int} {o1 : Bool} {m1 r1 l1 q1 s1 t1 u1 w2 b2 c2 : Int} {o2 : Bool} {m2 r2 l2 q2 s2 t2 u2 : Int} {A : HProp} {h : Hl}
  (hs : Zd (ZzF b w1 b1 c1 o1 m1 r1 l1 q1 s1 t1 u1) (Zd (ZzF b w2 b2 c2 o2 m2 r2 l2 q2 s2 t2 u2) A) h) : False := by
 obtain ⟨x, y, d, rfl, ⟨_, hx⟩, z, v, d2, rfl, ⟨_, hz⟩, _⟩ := hs
 have e1 : x b.toNat 0 = some (.val (.int .i64 w1) true) := by rw [hx]; exact ZbU (o := 0) (i := 0) (by simp)
 have e2 : z b.toNat 0 = some (.val (.int .i64 w2) true) := by rw [hz]; exact ZbU (o := 0) (i := 0) (by simp)
 rcases d b.toNat 0 with q | q
 ·rw [e1] at q; cases q
 ·unfold Hl.un at q; rw [e2] at q; cases q
theorem Zni {r : List Int} : ∀ {R : List (List Int)} {L : List Tx} {h : Hl}, r ∈ R -> ZdW R L h -> ∃ (t : Tx) (A : HProp), Zd (ZzF (g0 r) t.who t.beg t.com t.opn (g1 r) (g2 r) (t.rds.length : Nat) (g3 r) (g4 r) (t.bad.length : Nat) (g5 r)) A h
 | s :: R, t :: L, h, hm, hx => by
  rcases List.mem_cons.1 hm with rfl | hm
  ·have hx : Zd (ZcJ r t) (ZdW R L) h := hx
   unfold ZcJ at hx
   rw [star_assoc] at hx
   exact ⟨t, _, hx⟩
  ·obtain ⟨a, b, d, rfl, ha, hb⟩ := hx
   obtain ⟨u, A, hA⟩ := Zni hm hb
   have : Zd (ZcJ s t) (Zd _ A) (Hl.un a b) := ⟨a, b, d, rfl, ha, hA⟩
   rw [Zj] at this
   exact ⟨u, _, this⟩
 | _ :: _, [], _, _, hx => hx.elim
 | [], _, _, hm, _ => by cases hm
theorem ZfV : ∀ {R : List (List Int)} {L : List Tx} {h : Hl}, ZdW R L h -> (R.map g0).Nodup /\ ∀ r ∈ R, 0 <= g0 r
 | [], [], _, _ => ⟨List.nodup_nil, fun r hr => by cases hr⟩
 | r :: R, t :: L, h, hx => by
  obtain ⟨a, b, d, rfl, ha, hb⟩ := hx
  obtain ⟨h1, h2⟩ := ZfV hb
  refine ⟨?_, fun s hs => ?_⟩
  ·rw [ZGQ, List.nodup_cons]
   refine ⟨fun hm => ?_, h1⟩
   obtain ⟨s, hs, he⟩ := List.mem_map.1 hm
   obtain ⟨u, A, hA⟩ := Zni hs hb
   have hq : Zd (ZcJ r t) (Zd _ A) (Hl.un a b) := ⟨a, b, d, rfl, ha, hA⟩
   unfold ZcJ at hq
   rw [star_assoc, he] at hq
   rw [Zj (A := Zd (ZrY _ _) _)] at hq
   exact ZxD hq
  ·rcases List.mem_cons.1 hs with rfl | hs
   ·exact (ZcX ha).2.2.2.2.2
   ·exact h2 s hs
 | [], _ :: _, _, hx => hx.elim
 | _ :: _, [], _, hx => hx.elim
theorem ZbP {l : Int} : ∀ {R : List (List Int)}, ZcF l R < R.length -> g0 (R.getD (ZcF l R) []) = l
 | [], h => absurd h (Nat.not_lt_zero _)
 | r :: R, h => by
  unfold ZcF at h ⊢
  cases hp : g0 r == l
  ·rw [hp] at h
   have h : ZcF l R + 1 < R.length + 1 := h
   show g0 (R.getD (ZcF l R) []) = l
   exact ZbP (by omega)
  ·exact beq_iff_eq.1 hp
theorem YM {R : List (List Int)} {b : Int} (h : ZmL R b) : ZcF b R < R.length := by
 obtain ⟨k, hk, rfl⟩ := h
 induction R generalizing k with
 | nil => exact absurd hk (Nat.not_lt_zero _)
 | cons r R ih =>
  unfold ZcF
  cases hp : g0 r == g0 ((r :: R).getD k [])
  ·cases k with
   | zero => have : (g0 r == g0 r) = false := hp; simp at this
   | succ k =>
    have := ih k (by simpa using hk)
    show ZcF _ R + 1 < R.length + 1
    have e : (r :: R).getD (k + 1) [] = R.getD k [] := rfl
    rw [e]; omega
  ·exact Nat.zero_lt_succ _
theorem ZvP (R : List (List Int)) (L : List Tx) (i : Nat) : ∃ A, ZcJ (R.getD i []) (L.getD i tx0) = Zd A (ZgK R L i) := ⟨_, Ya _ _⟩
theorem Zd4 {T : Sig GG} (hT : JtSig T) (ρ : Go.Eng.Env GG) (w0 : World) (b R g i : SX) (I : Nat) (hi : (i.den T ρ).tI = (I : Nat)) (hb : (b.den T ρ).tI = g0 ((R.den T ρ).tR.getD I [])) :
  (Ch.cel b 0 (txQ R g i)).den T ρ w0 = ZgK (R.den T ρ).tR (ZE (g.den T ρ)) I := by
 rw [txQ, Zdy]
 simp only [Zgk, usI, usB, usR, usN, usM, Zk, Zdc, SX.den, hT.u540, hT.u541, hT.u542, hT.u543, hT.u545, hT.u546, ZU, YP, Zjr, Zag, Zis, ZjJ, YB, U.tIi, U.tQi, U.tRi, U.tNi, hi, atT, ZGO]
 rw [hb]
 rfl
theorem ZoZ {R : List (List Int)} {L : List Tx} {j k : Nat} (hl : R.length = L.length) (hj : j < R.length) (hk : k < R.length) (hne : j ≠ k) : ∃ A, ZdW R L = Zd A (Zd (ZgK R L j) (ZgK R L k)) := by
 have pick : ∀ (R : List (List Int)) (L : List Tx) (k : Nat), R.length = L.length -> k < R.length -> ∃ A, ZdW R L = Zd A (ZgK R L k) := by
  intro R L k hl hk
  have h := ZgD (R := R) (L := L) (i := (k : Nat)) hl (by omega) (by omega)
  rw [ZGO] at h
  obtain ⟨A, hA⟩ := ZvP R L k
  have e : atT L (k : Nat) = L.getD k tx0 := by unfold atT; rw [ZGO]
  rw [e, hA, <- star_assoc] at h
  exact ⟨_, h⟩
 have main : ∀ (j k : Nat), j < k -> k < R.length -> ∃ A, ZdW R L = Zd A (Zd (ZgK R L j) (ZgK R L k)) := by
  intro j k hjk hk
  have h : ZdW (R.take k ++ R.drop k) (L.take k ++ L.drop k) = _ := Zdm _ _ (by rw [ZGJ, ZGJ]; omega)
  rw [List.take_append_drop, List.take_append_drop] at h
  obtain ⟨A, hA⟩ := pick (R.take k) (L.take k) j (by rw [ZGJ, ZGJ]; omega) (by rw [ZGJ]; omega)
  obtain ⟨B, hB⟩ := pick (R.drop k) (L.drop k) 0 (by rw [ZGV, ZGV]; omega) (by rw [ZGV]; omega)
  have e1 : ZgK (R.take k) (L.take k) j = ZgK R L j := by unfold ZgK; rw [Zdg hjk, Zdg hjk]
  have gd : ∀ {α : Type} (l : List α) (d : α), (l.drop k).getD 0 d = l.getD k d := fun l d => by
   rw [ZGH, ZGH, ZG6, Nat.add_zero]
  have e2 : ZgK (R.drop k) (L.drop k) 0 = ZgK R L k := by unfold ZgK; rw [gd, gd]
  rw [hA, hB, e1, e2] at h
  refine ⟨Zd A B, ?_⟩
  rw [h, star_assoc, star_assoc, Zj (ZgK R L j)]
 rcases ZGB j k with h | h
 ·exact main j k h hk
 ·obtain ⟨A, hA⟩ := main k j (by omega) hj
  exact ⟨A, by rw [hA, Ya (ZgK R L k)]⟩
theorem ZvT (S : Sig GG) (hS : JtSig S) : ZcQ S Zyn := by
 refine ZaR S fun T w0 ρ h hu hp hd hr hpre => ⟨ρ, Ext.refl _ _, ?_, (fun x hx => nomatch hx)⟩
 have hT := hS.of hu hp
 have e1 : hpDen T ρ w0 Zyn.pre = Zd ((Ch.arr pE (ai 0) (rA 5) (ai 6)).den T ρ w0) (Zd (T.prd 100 w0 ((rA 7).den T ρ) ((gA 8).den T ρ)) emp) := rfl
 have e2 : hpDen T ρ w0 Zyn.post = Zd ((Ch.arr pE (ai 0) (rA 5) (ai 6)).den T ρ w0) (Zd ((Ch.cel (ai 4) 0 (txQ (rA 7) (gA 8) (ixB (rA 7) (ai 4)))).den T ρ w0) (Zd ((Ch.cel (nt (rA 5) (ai 3) 0) 0 (txQ (rA 7) (gA 8) (ixB (rA 7) (nt (rA 5) (ai 3) 0)))).den T ρ w0) (Zd (T.prd 102 w0 ((ZaD (Zbt (ai 4) (nt (rA 5) (ai 3) 0)) (rA 7)).den T ρ) ((gA 8).den T ρ)) emp))) := rfl
 have r0 := hr (usB 565 (rA 7) (ai 4) z0) (by simp [Zyn])
 have r1 := hr (usB 565 (rA 7) (nt (rA 5) (ai 3) 0) z0) (by simp [Zyn])
 have r2 := hr (.f1 2 (.f2 45 (ai 4) (nt (rA 5) (ai 3) 0))) (by simp [Zyn])
 have n0 := Zgk T ρ (rA 5) (ai 3) 0
 simp only [usB, SX.den, hT.u565, YP, U.tPi, U.tQi, Zh] at r0 r1
 have r2 : (ap1 2 (ap2 45 ((ai 4).den T ρ) ((nt (rA 5) (ai 3) 0).den T ρ))).tP := r2
 rw [ZAt] at r2
 generalize hv : ((ai 4).den T ρ).tI = v at *
 generalize hy : ((nt (rA 5) (ai 3) 0).den T ρ).tI = y at *
 have ib : ∀ b : SX, ((ixB (rA 7) b).den T ρ).tI = (ZcF (b.den T ρ).tI ((rA 7).den T ρ).tR : Nat) := fun b => by
  simp only [ixB, usI, SX.den, hT.u566, ZU, U.tIi]
 have k2 : ((ZaD (Zbt (ai 4) (nt (rA 5) (ai 3) 0)) (rA 7)).den T ρ).tR = [v, y] :: ((rA 7).den T ρ).tR := by
  show ([((ai 4).den T ρ).tI, ((nt (rA 5) (ai 3) 0).den T ρ).tI] :: ((rA 7).den T ρ).tR) = _
  rw [hv, hy]
 have a0 := ZbP (YM r0)
 have a1 := ZbP (YM r1)
 rw [e1, Zi, hT.p100] at hpre
 rw [e2, Zi, Zd4 hT ρ w0 (ai 4) (rA 7) (gA 8) (ixB (rA 7) (ai 4)) (ZcF v ((rA 7).den T ρ).tR) (by rw [ib, hv]) (by rw [a0, hv]),
  Zd4 hT ρ w0 (nt (rA 5) (ai 3) 0) (rA 7) (gA 8) (ixB (rA 7) (nt (rA 5) (ai 3) 0)) (ZcF y ((rA 7).den T ρ).tR) (by rw [ib, hy]) (by rw [a1, hy]), hT.p102, k2]
 generalize ((rA 7).den T ρ).tR = R at *
 generalize ZE ((gA 8).den T ρ) = L at *
 obtain ⟨p, q, d, rfl, hp1, hq⟩ := hpre
 have hl := Za0 hq
 have hne : ZcF v R ≠ ZcF y R := fun e => r2 (by rw [<- a0, <- a1, e])
 obtain ⟨A, hA⟩ := ZoZ hl (YM r0) (YM r1) hne
 have hq2 := hq
 rw [hA] at hq2
 obtain ⟨s, t, d2, rfl, hs, ht⟩ := hq2
 have hw : ZDr (g0 ([v, y] :: R |>.getD 0 [])) (g1 ([v, y] :: R |>.getD 0 [])) (([v, y] :: R).drop 1) L s := by
  intro h' hd' hh'
  show ZdW R L _
  rw [hA]
  exact ⟨s, h', hd', rfl, hs, hh'⟩
 refine ⟨p, _, d, rfl, hp1, ?_⟩
 have : Zd (Zd (ZgK R L (ZcF v R)) (ZgK R L (ZcF y R))) (ZDr (g0 ([v, y] :: R |>.getD 0 [])) (g1 ([v, y] :: R |>.getD 0 [])) (([v, y] :: R).drop 1) L) (Hl.un s t) := ⟨t, s, d2.symm, Hl.un_comm d2, ht, hw⟩
 rw [star_assoc] at this
 exact this
theorem ZoT (S : Sig GG) (hS : JtSig S) : ZcQ S ZxX := by
 refine ZaR S fun T w0 ρ h hu hp hd hr hpre => ⟨ρ, Ext.refl _ _, ?_, (fun x hx => nomatch hx)⟩
 have hT := hS.of hu hp
 have e1 : hpDen T ρ w0 ZxX.pre = Zd (T.prd 102 w0 ((ZaD (Zbt (ai 0) (ai 1)) (rA 2)).den T ρ) ((gA 3).den T ρ)) (Zd ((Ch.cel (ai 0) 0 (txQ (rA 2) (gA 3) (ixB (rA 2) (ai 0)))).den T ρ w0) (Zd ((Ch.cel (ai 1) 0 (txQ (rA 2) (gA 3) (ixB (rA 2) (ai 1)))).den T ρ w0) emp)) := rfl
 have e2 : hpDen T ρ w0 ZxX.post = Zd (T.prd 100 w0 ((rA 2).den T ρ) ((gA 3).den T ρ)) emp := rfl
 have r0 := hr (usB 565 (rA 2) (ai 0) z0) (by simp [ZxX])
 have r1 := hr (usB 565 (rA 2) (ai 1) z0) (by simp [ZxX])
 simp only [usB, SX.den, hT.u565, YP, U.tPi, U.tQi, Zh] at r0 r1
 have ib : ∀ b : SX, ((ixB (rA 2) b).den T ρ).tI = (ZcF (b.den T ρ).tI ((rA 2).den T ρ).tR : Nat) := fun b => by
  simp only [ixB, usI, SX.den, hT.u566, ZU, U.tIi]
 have k2 : ((ZaD (Zbt (ai 0) (ai 1)) (rA 2)).den T ρ).tR = [((ai 0).den T ρ).tI, ((ai 1).den T ρ).tI] :: ((rA 2).den T ρ).tR := rfl
 have a0 := ZbP (YM r0)
 have a1 := ZbP (YM r1)
 rw [e1, Zi, hT.p102, k2, Zd4 hT ρ w0 (ai 0) (rA 2) (gA 3) (ixB (rA 2) (ai 0)) _ (by rw [ib]) (by rw [a0]),
  Zd4 hT ρ w0 (ai 1) (rA 2) (gA 3) (ixB (rA 2) (ai 1)) _ (by rw [ib]) (by rw [a1])] at hpre
 rw [e2, Zi, hT.p100]
 obtain ⟨a, b, d, rfl, ha, hb⟩ := hpre
 exact ha b d hb
theorem Zzb (S : Sig GG) (hS : JtSig S) : ZcQ S ZET := by
 refine ZaR S fun T w0 ρ h hu hp hd hr hpre => ⟨ρ, Ext.refl _ _, hpre, ?_⟩
 have hT := hS.of hu hp
 have e1 : hpDen T ρ w0 ZET.pre = Zd (T.prd 100 w0 ((rA 0).den T ρ) ((gA 1).den T ρ)) emp := rfl
 rw [e1, Zi, hT.p100] at hpre
 intro x hx
 simp only [ZET, ZGA] at hx
 subst hx
 simp only [usB, SX.den, hT.u558, YP, U.tPi, U.tQi, Zh]
 exact ⟨Za0 hpre, (ZfV hpre).1, (ZfV hpre).2⟩
theorem ZEp (S : Sig GG) (hS : JtSig S) : ZcQ S emTC := by
 refine ZaR S fun T w0 ρ h hu hp hd hr hpre => ⟨ρ, Ext.refl _ _, ?_, (fun x hx => nomatch hx)⟩
 have hT := hS.of hu hp
 have e1 : hpDen T ρ w0 emTC.pre = emp := rfl
 have e2 : hpDen T ρ w0 emTC.post = Zd (T.prd 100 w0 (ZgO.den T ρ) ((usG 561 ZgO z0 z0).den T ρ)) emp := rfl
 rw [e1] at hpre
 rw [e2, Zi, hT.p100]
 have k : ZE ((usG 561 ZgO z0 z0).den T ρ) = [] := by
  simp only [usG, SX.den, hT.u561, ZFe, ZT]; rfl
 rw [k]
 exact hpre
def entZ : SX := ZeQ (ai 2) (ai 3) (.f1 35 (bA 4)) (.f1 35 (bA 5)) (.f1 3 (qA 6)) (ai 7)
def reaW : SX := .us .rows 563 (mA 17) entZ (rA 18) (ai 1)
def reaV : SX := .us .ints 564 (mA 17) entZ (iA 19) (ai 1)
def mil : SX := .int 1000000
def Zwi : Ctr := ⟨[.int, .int, .int, .int, .bytes, .bytes, .bool, .int, .int, .int, .int, .bool, .int, .int, .int, .int, .int, .amap, .rows, .ints],
 [.one (.ptr (ai 0) 0), .one (.int .i64 (ai 1)), .agg [.int .i64 (ai 2), .int .i64 (ai 3), .str (bA 4), .str (bA 5), .bool (qA 6), .int .i64 (ai 7)]],
 [.cel (ai 0) 0 (ZxJ (ai 8) (ai 9) (ai 10) (qA 11) (ai 12) (ai 13) (Zk (rA 18)) (ai 14) (ai 15) (Zdc (iA 19)) (ai 16)), scC (ai 12) (mA 17), rAr (ai 13) (rA 18) (ai 14), iAr (ai 15) (iA 19) (ai 16)],
 [eLe z0 (ai 12), eLe (Zk (rA 18)) (ai 14), eLe (Zdc (iA 19)) (ai 16), eLe (Zk (rA 18)) mil, eLe (Zdc (iA 19)) mil, .f2 50 (eLe z0 (ai 13)) (.f2 45 (Zk (rA 18)) z0), .f2 50 (eLe z0 (ai 15)) (.f2 45 (Zdc (iA 19)) z0)],
 [.int, .int, .int, .int], .tup [],
 [.cel (ai 0) 0 (ZxJ (ai 8) (ai 9) (ai 10) (qA 11) (ai 12) (ai 20) (Zk reaW) (ai 21) (ai 22) (Zdc reaV) (ai 23)), scC (ai 12) (mA 17), rAr (ai 20) reaW (ai 21), iAr (ai 22) reaV (ai 23)],
 [eLe (Zk reaW) (ai 21), eLe (Zdc reaV) (ai 23), .f2 50 (eLe z0 (ai 20)) (.f2 45 (Zk reaW) z0), .f2 50 (eLe z0 (ai 22)) (.f2 45 (Zdc reaV) z0)]⟩
def ZES : Cx := { specs := [(24, [Zhx])], anns := [] }
def ZsV : Ctr := ⟨[.int, .int, .int, .rows, .int, .rows, .g], [.one (slC (ai 0) (ai 1) (ai 2) 1), .one (.ptr (ai 4) 0)], [.arr pE (ai 0) (rA 3) (ai 2), txC (rA 5) (gA 6)],
 [.f2 45 (ai 1) (Zk (rA 3)), eLe (ai 1) (ai 2), eLe (ai 1) mil, usB 560 (rA 3) (rA 5) z0, .f2 50 (eLt (ai 4) z0) (usB 565 (rA 5) (ai 4) z0), usB 558 (rA 5) (gA 6) z0], [.bool], .one (.bool (qA 7)), [.arr pE (ai 0) (rA 3) (ai 2), txC (rA 5) (gA 6)], [.f2 48 (qA 7) (usB 562 (rA 3) (ai 4) z0)]⟩
def cntI : Inv := ⟨[.int], [(8, .one (.int .i64 (di 0)))], [], [eLe z0 (di 0), eLe (di 0) (ai 1), .f1 2 (usB 562 (tk (rA 3) (di 0)) (ai 4) z0)], .f2 41 (ai 1) (di 0)⟩
def cntE : SX := .f2 45 (ai 4) (nt (rA 3) (ai 7) 0)
def ZEO : Cx := { specs := [], anns := [(50, [(2, .inv cntI), (4, .split (eLt (ai 4) z0)), (4, .iff (eLe z0 (ai 4))), (4, .split cntE), (4, .iff (ZcH cntE)), (4, .ghost Zyn [.tmp 0, .tmp 5, .tmp 1]), (500004, .iff (ZcH cntE)), (500004, .ghost ZxX [.tmp 1])])] }
def ZCD : SX := l z (a 13)
def ZC2 : SX := l z (a 15)
def ZBK : SX := .f1 2 (.f2 141 (m 17) (.f1 35 (b 4)))
def Ztr : SX := .f2 40 (.f1 32 (r 18)) (k 1)
def Zyk : SX := l z (a 23)
def Zu0 : SX := .f2 122 (a 2) (.f2 122 (a 3) (.f2 122 (.f1 35 (b 4)) (.f2 122 (.f1 35 (b 5)) (.f2 122 (.f1 3 (q 6)) (.f2 122 (a 7) (.f1 152 z))))))
def Zy6 : SX := .us .rows 563 (m 17) Zu0 (r 18) (a 1)
def ZpT : SX := .f1 32 Zy6
def Zx6 : SX := .us .ints 564 (m 17) Zu0 (s 19) (a 1)
def Zqc : SX := .f1 30 Zx6
def ZsK : SX := l Zqc (a 16)
def Zwt : SX := e ZpT z
def Zv5 : SX := e Zqc z
def Zvm : SX := .f2 50 ZC2 Zv5
def ZwX : SX := .f2 155 Zx6 (s 19)
def ZwC : SX := e Zqc (.f1 30 (s 19))
def ZkA : SX := .f2 40 (.f1 30 (s 19)) (k 1)
def ZvJ : SX := l z (a 24)
def ZtN : SX := l ZpT (a 14)
def ZrK : SX := .f2 50 ZCD Zwt
def ZqL : SX := .f2 155 Zy6 (r 18)
def Zwn : SX := e ZpT (.f1 32 (r 18))
def ZDP : VC := i (l z (a 12)) (i (l (.f1 32 (r 18)) (a 14)) (i (l (.f1 30 (s 19)) (a 16)) (i (l (.f1 32 (r 18)) (k 1000000)) (i (l (.f1 30 (s 19)) (k 1000000)) (i (.f2 50 ZCD (e (.f1 32 (r 18)) z)) (i (.f2 50 ZC2 (e (.f1 30 (s 19)) z)) (u 20 .int (i (l z (a 20)) (u 21 .int (i (l z (a 21)) (.and (i ZBK (u 22 .int (i (l z (a 22)) (n (l (.f1 32 (r 18)) (.f1 32 (r 18))) (n (l (.f2 42 Ztr (k 72)) k1) (u 23 .int (u 24 .int (i (l Ztr (a 24)) (i (.f2 50 Zyk (e Ztr z)) (n (l ZpT (a 24)) (n ZsK (n (.f2 50 Zyk Zwt) (n Zvm (n ZwX (n (.f2 155 Zy6 (.f2 121 (r 18) (.f2 124 (.f2 122 (a 1) Zu0) (.f1 154 z)))) (n ZwC (n (e ZpT Ztr) .tt))))))))))))))))) (i (.f1 2 ZBK) (u 22 .bool (i (.f2 48 (q 22) (c 530 (m 17) Zu0)) (.and (i (.f1 2 (q 22)) (u 23 .int (i Zyk (n (l (.f1 30 (s 19)) (.f1 30 (s 19))) (n (l (.f2 42 ZkA (k 8)) k1) (u 24 .int (u 25 .int (i (l ZkA (a 25)) (i (.f2 50 ZvJ (e ZkA z)) (n ZtN (n (l Zqc (a 25)) (n ZrK (n (.f2 50 ZvJ Zv5) (n (.f2 155 Zx6 (.f2 119 (s 19) (.f2 122 (a 1) (.f1 152 z)))) (n ZqL (n (e Zqc ZkA) (n Zwn .tt))))))))))))))))) (i (.f1 2 (.f1 2 (q 22))) (n ZtN (n ZsK (n ZrK (n Zvm (n ZwX (n ZqL (n ZwC (n Zwn .tt))))))))))))))))))))))))
theorem ZFM : Zb4 Try.prog ZES 12 35 Zwi = ZDP := by kernel_rfl
def ZCg : SX := t (a 4) z
def ZBs : SX := c 565 (r 5) (a 4)
def Zz2 : SX := l z (a 7)
def Zyh : SX := t (a 7) (.f1 32 (r 3))
def Zyi : SX := .f3 112 (r 3) (a 7) z
def Zqe : SX := .f2 40 (a 7) (k 1)
def ZCS : SX := .f1 23 Zqe
def ZAL : SX := .f2 41 (a 1) Zqe
def Zz4 : SX := l z ZAL
def Zz0 : SX := t ZAL (.f2 41 (a 1) (a 7))
def Zwz : SX := l z Zqe
def Zum : SX := l Zqe (a 1)
def ZwO : SX := .f1 2 (c 562 (.f2 115 (r 3) Zqe) (a 4))
def Zsm : SX := e (a 4) Zyi
def Zux : SX := c 562 (r 3) (a 4)
def ZFD : VC := i (e (a 1) (.f1 32 (r 3))) (i (l (a 1) (a 2)) (i (l (a 1) (k 1000000)) (i (c 560 (r 3) (r 5)) (i (.f2 50 ZCg ZBs) (i (c 558 (r 5) (g 6)) (n (l z (a 1)) (n (.f1 2 (c 562 (.f2 115 (r 3) z) (a 4))) (u 7 .int (i Zz2 (i (l (a 7) (a 1)) (i (.f1 2 (c 562 (.f2 115 (r 3) (a 7)) (a 4))) (.and (i (t (a 7) (a 1)) (.and (i ZCg (n Zyh (n (l z Zyi) (n ZCS (n Zz4 (n Zz0 (n Zwz (n Zum (n ZwO .tt))))))))) (i (l z (a 4)) (.and (i Zsm (n Zyh (n (.f2 48 Zz2 Zux) .tt))) (i (.f1 2 Zsm) (n ZBs (n (c 565 (r 5) Zyi) (n Zyh (n ZCS (n Zz4 (n Zz0 (n Zwz (n Zum (n ZwO .tt)))))))))))))) (i (l (a 1) (a 7)) (n (.f2 48 (.bool false) Zux) .tt))))))))))))))
theorem ZER : Zb4 Try.prog ZEO 12 36 ZsV = ZFD := by kernel_rfl
theorem ZDE (S : Sig GG) (hS : JtSig S) : ZH S Try.prog 35 Zwi := by
 refine Zp S (C := ZES) (fuel := 12) (Zab ⟨Zm (by decide) (ZnS S hS.jb), trivial⟩ trivial trivial) fun ρ => ?_
 rw [ZFM]
 simp only [ZDP, ZCD, ZC2, ZBK, Ztr, Zyk, Zu0, Zy6, ZpT, Zx6, Zqc, ZsK, Zwt, Zv5, Zvm, ZwX, ZwC, ZkA, ZvJ, ZtN, ZrK, ZqL, Zwn, hS.jb.u530, hS.u563, hS.u564, ZT, VC.den, SX.den, Env.upd, Y3, ZY, beq_iff_eq, ZGG, beq_eq_false_iff_ne, ne_eq, ZGF, ZGE, Int.reduceToNat, Nat.reduceEqDiff, reduceIte, sB]
 have hk : kc [(ρ 2).tI, (ρ 3).tI, ((Zq (ρ 4).tB : Nat) : Int), ((Zq (ρ 5).tB : Nat) : Int), b01 (ρ 6).toBool, (ρ 7).tI] = (Zq (ρ 4).tB : Nat) := by
  unfold kc ZJ
  simp only [List.getD_cons_zero, List.getD_cons_succ, ZGO, Zn]
 have hn : nr [(ρ 2).tI, (ρ 3).tI, ((Zq (ρ 4).tB : Nat) : Int), ((Zq (ρ 5).tB : Nat) : Int), b01 (ρ 6).toBool, (ρ 7).tI] = [(ρ 2).tI, (ρ 3).tI, ((Zq (ρ 4).tB : Nat) : Int), ((Zq (ρ 5).tB : Nat) : Int), b01 (ρ 6).toBool, (ρ 7).tI] := by
  unfold nr xk xw ZJ ZaU Zcu xt
  simp only [List.getD_cons_zero, List.getD_cons_succ, ZGO, Zn, Zfs]
 simp only [hk, hn]
 generalize ([(ρ 2).tI, (ρ 3).tI, ((Zq (ρ 4).tB : Nat) : Int), ((Zq (ρ 5).tB : Nat) : Int), b01 (ρ 6).toBool, (ρ 7).tI] : List Int) = E
 generalize ((Zq (ρ 4).tB : Nat) : Int) = K
 generalize (ρ 17).tM = M
 generalize (ρ 18).tR = X
 generalize (ρ 19).tN = Y
 generalize ZR M E = s
 cases Zt M K
 ·simp only [Bool.false_eq_true, if_false, false_and, ZGM, ZGv]
  repeat' (first | exact trivial | rfl | omega | assumption | apply And.intro | intro _)
  all_goals simp_all
 ·cases s
  ·simp only [if_true, true_and, ZGM, ZGv]
   repeat' (first | exact trivial | rfl | omega | assumption | apply And.intro | intro _)
   all_goals simp_all
  ·simp only [if_true, Bool.true_eq_false, and_false, if_false]
   repeat' (first | exact trivial | rfl | omega | assumption | apply And.intro | intro _)
   all_goals simp_all
theorem ZDF (S : Sig GG) (hS : JtSig S) : ZH S Try.prog 36 ZsV := by
 refine Zp S (C := ZEO) (fuel := 12) (Zab trivial ⟨⟨trivial, trivial, trivial, trivial, trivial, ⟨by decide, ZvT S hS⟩, trivial, ⟨by decide, ZoT S hS⟩, trivial⟩, trivial⟩ trivial) fun ρ => ?_
 rw [ZER]
 simp only [ZFD, ZCg, ZBs, Zz2, Zyh, Zyi, Zqe, ZCS, ZAL, Zz4, Zz0, Zwz, Zum, ZwO, Zsm, Zux, hS.u558, hS.u560, hS.u562, hS.u565, ZT, VC.den, SX.den, Env.upd, Y3, ZY, beq_iff_eq, ZGG, beq_eq_false_iff_ne, ne_eq, ZGF, ZGE, Int.reduceToNat, Nat.reduceEqDiff, reduceIte, sB]
 generalize (ρ 3).tR = F
 generalize (ρ 5).tR = R
 generalize (ρ 4).tI = v
 generalize (ρ 1).tI = l
 generalize ZE _ = L
 intro h1 h2 h3 h4 h5 h6
 refine ⟨by omega, Zz (by rw [List.take_zero]; exact List.not_mem_nil), fun x hx0 hx1 hx2 => ?_⟩
 obtain ⟨n, rfl⟩ := ZGz hx0
 have e1 : ((n : Int) + 1).toNat = n + 1 := by omega
 simp only [e1, ZGO] at hx2 ⊢
 have hx2 : ¬ [v] ∈ F.take n := fun h => by rw [Zy h] at hx2; cases hx2
 refine ⟨fun hlt => ?_, fun hge => ⟨?_, trivial⟩⟩
 ·have hn : n < F.length := by omega
  have hgt : F.getD n [] = F[n] := by rw [ZGH, ZGK hn, ZGC]
  have hm : F.getD n [] ∈ F := by rw [hgt]; exact ZG4 hn
  obtain ⟨b, hb, hbl⟩ := h4 _ hm
  have e2 : F.take (n + 1) = F.take n ++ [F.getD n []] := by rw [hgt]; exact (List.take_append_getElem hn).symm
  rw [e2, hb]
  have hb0 : ([b] : List Int).getD 0 0 = b := rfl
  rw [hb0]
  have hpos : 0 <= b := by
   obtain ⟨k, hk, rfl⟩ := hbl
   refine h6.2.2 _ ?_
   rw [ZGH, ZGK hk, ZGC]; exact ZG4 hk
  have no : ¬ v = b -> Zl ([v] ∈ F.take n ++ [[b]]) = false := fun hne => Zz fun h => by
   rcases List.mem_append.1 h with h | h
   ·exact hx2 h
   ·rw [ZGA] at h; injection h with h; exact hne h
  refine ⟨fun hv => ⟨by omega, hpos, by omega, by omega, by omega, by omega, by omega, no (by omega), trivial⟩, fun hv => ⟨fun he => ⟨by omega, ?_, trivial⟩, fun he => ⟨?_, hbl, by omega, by omega, by omega, by omega, by omega, by omega, no he, trivial⟩⟩⟩
  ·rw [Zy (by rw [he, <- hb]; exact hm), Za.2 (by omega)]
  ·rcases h5 with h | h
   ·omega
   ·exact h
 ·rw [ZGT (by omega)] at hx2
  rw [Zz hx2]
theorem Zyr {G : Type} {S : Sig G} {P : Program} {f : Nat} {sp sq : Ctr} (hw : sp.wf = true) (h : ZH S P f sp) (hw2 : sq.wf = true) (h2 : ZH S P f sq) : ∀ q ∈ [sp, sq], q.wf = true /\ ZH S P f q := by
 intro q hq
 rcases List.mem_cons.1 hq with rfl | hq
 ·exact ⟨hw, h⟩
 ·rw [ZGA] at hq; subst hq; exact ⟨hw2, h2⟩
theorem Zcs (S : Sig GG) (hS : JtSig S) : ZcQ S Zpi := by
 refine ZaR S fun T w0 ρ h hu hp hd hr hpre => ⟨ρ, Ext.refl _ _, ?_⟩
 have hT := hS.of hu hp
 have e1 : hpDen T ρ w0 Zpi.pre = Zd (T.prd 100 w0 ((rA 1).den T ρ) ((gA 2).den T ρ)) emp := rfl
 rw [e1, Zi, hT.p100] at hpre
 have r0 := hr (usB 565 (rA 1) (ai 0) z0) (by simp [Zpi])
 simp only [usB, SX.den, hT.u565, YP, U.tPi, U.tQi, Zh] at r0
 have hix : ((ixB (rA 1) (ai 0)).den T ρ).tI = (ZcF ((ai 0).den T ρ).tI ((rA 1).den T ρ).tR : Nat) := by
  simp only [ixB, usI, SX.den, hT.u566, ZU, U.tIi]
 have r0 : ZmL ((rA 1).den T ρ).tR ((ai 0).den T ρ).tI := r0
 have hlt := YM r0
 have hat := ZbP hlt
 have hl := Za0 hpre
 have hb : ((ai 0).den T ρ).tI = ((nt (rA 1) (ixB (rA 1) (ai 0)) 0).den T ρ).tI := by
  rw [Zgk, hix, ZGO]
  exact hat.symm
 obtain ⟨k1, k2⟩ := Ztl hT ρ w0 (ai 0) (rA 1) (gA 2) (ixB (rA 1) (ai 0)) (by rw [hix]; omega) (by rw [hix]; omega) hb hpre
 refine ⟨k1, fun e he => ?_⟩
 rcases List.mem_cons.1 he with rfl | he
 ·show (ap2 45 ((ai 0).den T ρ) ((nt (rA 1) (ixB (rA 1) (ai 0)) 0).den T ρ)).tP
  rw [p45]; exact hb
 ·rcases List.mem_cons.1 he with rfl | he
  ·rw [Yk, hix]
   have e552 : ((usI 552 (gA 2) z0 z0).den T ρ).tI = ((ZE ((gA 2).den T ρ)).length : Nat) := by
    simp only [usI, SX.den, hT.u552, ZU, U.tIi]
   rw [e552]; omega
  ·exact k2 e he
theorem ZjW {G : Type} (S : Sig G) : ZcQ S ZzA := by
 refine ZaR S fun T w0 ρ h hu hp hd hr hpre => ⟨ρ, Ext.refl _ _, ?_, by intro x hx; exact nomatch hx⟩
 have e1 : hpDen T ρ w0 ZzA.pre = emp := rfl
 have e2 : hpDen T ρ w0 ZzA.post = Zd (rAD pE (-1) [] 0) emp := rfl
 rw [e1] at hpre
 rw [e2, Zi, pE, ZhJ]; exact hpre
theorem Zzv {G : Type} (S : Sig G) : ZcQ S ZDA := by
 refine ZaR S fun T w0 ρ h hu hp hd hr hpre => ⟨ρ, Ext.refl _ _, ?_, by intro x hx; exact nomatch hx⟩
 have e1 : hpDen T ρ w0 ZDA.pre = emp := rfl
 have e2 : hpDen T ρ w0 ZDA.post = Zd (rAD rE (-1) [] 0) emp := rfl
 rw [e1] at hpre
 rw [e2, Zi, rE, ZhJ]; exact hpre
theorem Zk2 {T : Sig GG} (hT : JtSig T) (ρ : Go.Eng.Env GG) (w0 : World) (b x : SX) : (bkC b x).den T ρ w0 = ZpX (b.den T ρ).tI (x.den T ρ).tR := by
 have e : (bkC b x).den T ρ w0 = T.prd 103 w0 ((ZaD (Zqv b) x).den T ρ) (z0.den T ρ) := rfl
 rw [e, hT.p103]; rfl
theorem ZzC (S : Sig GG) (hS : JtSig S) : ZcQ S ZDx := by
 refine ZaR S fun T w0 ρ h hu hp hd hr hpre => ⟨ρ, Ext.refl _ _, ?_, (fun x hx => nomatch hx)⟩
 have hT := hS.of hu hp
 have e1 : hpDen T ρ w0 ZDx.pre = Zd ((hC 0 0).den T ρ w0) emp := rfl
 have e2 : hpDen T ρ w0 ZDx.post = Zd ((hC 0 0).den T ρ w0) (Zd ((bkC (ai 6) xX).den T ρ w0) emp) := rfl
 have r0 := hr (eLt (ai 6) z0) (by simp [ZDx])
 rw [Yk] at r0
 have r0 : ((ai 6).den T ρ).tI < 0 := r0
 rw [e1] at hpre
 rw [e2, Zk2 hT, ZpX, if_pos r0, Zi]; exact hpre
theorem Zut (T : Sig GG) (ρ : Go.Eng.Env GG) (w0 : World) (b ma kb kl kc ob ol oc ft wt : SX) : (Ch.cel b 0 (bkQ ma kb kl kc ob ol oc ft wt)).den T ρ w0 =
  celB (b.den T ρ).tI (ma.den T ρ).tI (kb.den T ρ).tI (kl.den T ρ).tI (kc.den T ρ).tI (ob.den T ρ).tI (ol.den T ρ).tI (oc.den T ρ).tI (ft.den T ρ).tI (wt.den T ρ).tI := by
 simp only [bkQ, Ch.den, ZGQ, List.map_nil, sl1, Zcv, SC.den, reduceCtorEq]
 rfl
theorem ZqX (T : Sig GG) (ρ : Go.Eng.Env GG) (w0 : World) (b m : SX) : (imC b m).den T ρ w0 = ZEu (b.den T ρ).tI (m.den T ρ).tM := rfl
theorem Zre (T : Sig GG) (ρ : Go.Eng.Env GG) (w0 : World) (b x c : SX) : (pAr b x c).den T ρ w0 = rAD (.rows [.ptr]) (b.den T ρ).tI (x.den T ρ).tR (c.den T ρ).tI := rfl
theorem ZEb (S : Sig GG) (hS : JtSig S) : ZcQ S Zqi := by
 refine ZaR S fun T w0 ρ h hu hp hd hr hpre => ⟨ρ, Ext.refl _ _, ?_, (fun x hx => nomatch hx)⟩
 have hT := hS.of hu hp
 have e1 : hpDen T ρ w0 Zqi.pre = Zd ((hC 0 0).den T ρ w0) (Zd ((Ch.cel (ai 6) 0 (bkQ (ai 7) (ai 8) (ai 9) (ai 10) (ai 11) (ai 12) (ai 13) (ai 14) (ai 15))).den T ρ w0) (Zd ((imC (ai 7) (mA 18)).den T ρ w0) (Zd ((pAr (ai 8) (rA 19) (ai 10)).den T ρ w0)
  (Zd ((rAr (ai 11) (rA 20) (ai 13)).den T ρ w0) (Zd (T.prd 100 w0 ((rA 16).den T ρ) ((gA 17).den T ρ)) emp))))) := rfl
 have e2 : hpDen T ρ w0 Zqi.post = Zd ((hC 0 0).den T ρ w0) (Zd ((bkC (ai 6) xX).den T ρ w0) emp) := rfl
 have r0 := hr (eLe z0 (ai 6)) (by simp [Zqi])
 have r1 := hr (eqS (gA 17) (usG 561 xX (Zk xX) z0)) (by simp [Zqi])
 have r2 := hr (eqS (mA 18) (.us .amap 547 (rA 16) (gA 17) z0 z0)) (by simp [Zqi])
 have r3 := hr (eqS (rA 19) (usR 548 xX (Zk xX) (rA 16))) (by simp [Zqi])
 have r4 := hr (eqS (rA 20) (usR 549 xX (Zk xX) z0)) (by simp [Zqi])
 have r5 := hr (.f2 45 (ai 9) (Zk (rA 19))) (by simp [Zqi])
 have r6 := hr (.f2 45 (ai 12) (Zk (rA 20))) (by simp [Zqi])
 have r7 := hr (.f2 45 (ai 14) (usI 550 xX (Zk xX) z0)) (by simp [Zqi])
 have r8 := hr (.f2 45 (ai 15) (usI 551 xX (Zk xX) z0)) (by simp [Zqi])
 rw [Ze] at r0
 have hX : (xX.den T ρ).tR = ((rA 4).den T ρ).tR.take (ρ 2).tI.toNat := rfl
 have hL : ((Zk xX).den T ρ).tI.toNat = (xX.den T ρ).tR.length := by
  show ((((xX.den T ρ).tR.length : Nat) : Int)).toNat = _
  omega
 have w1 : ((usG 561 xX (Zk xX) z0).den T ρ) = .g (.tx (ZV (xX.den T ρ).tR (xX.den T ρ).tR.length).txs) := by
  have : ((usG 561 xX (Zk xX) z0).den T ρ) = U.co T .g (T.usr 561 (xX.den T ρ) ((Zk xX).den T ρ) (z0.den T ρ) (z0.den T ρ)) := rfl
  rw [this, hT.u561, hL]; rfl
 have w2 : (Go.Eng.SX.us .amap 547 (rA 16) (gA 17) z0 z0).den T ρ = .amap (Zei ((rA 16).den T ρ).tR (ZE ((gA 17).den T ρ))) := by
  have : (Go.Eng.SX.us .amap 547 (rA 16) (gA 17) z0 z0).den T ρ = U.co T .amap (T.usr 547 ((rA 16).den T ρ) ((gA 17).den T ρ) (z0.den T ρ) (z0.den T ρ)) := rfl
  rw [this, hT.u547]; rfl
 have w3 : (usR 548 xX (Zk xX) (rA 16)).den T ρ = .rows (Zbf ((rA 16).den T ρ).tR (ZV (xX.den T ρ).tR (xX.den T ρ).tR.length).kept) := by
  have : (usR 548 xX (Zk xX) (rA 16)).den T ρ = U.co T .rows (T.usr 548 (xX.den T ρ) ((Zk xX).den T ρ) ((rA 16).den T ρ) (z0.den T ρ)) := rfl
  rw [this, hT.u548, hL]; rfl
 have w4 : (usR 549 xX (Zk xX) z0).den T ρ = .rows (ZV (xX.den T ρ).tR (xX.den T ρ).tR.length).out := by
  have : (usR 549 xX (Zk xX) z0).den T ρ = U.co T .rows (T.usr 549 (xX.den T ρ) ((Zk xX).den T ρ) (z0.den T ρ) (z0.den T ρ)) := rfl
  rw [this, hT.u549, hL]; rfl
 have w7 : (usI 550 xX (Zk xX) z0).den T ρ = .int (ZV (xX.den T ρ).tR (xX.den T ρ).tR.length).fault := by
  have : (usI 550 xX (Zk xX) z0).den T ρ = U.co T .int (T.usr 550 (xX.den T ρ) ((Zk xX).den T ρ) (z0.den T ρ) (z0.den T ρ)) := rfl
  rw [this, hT.u550, hL]; rfl
 have w8 : (usI 551 xX (Zk xX) z0).den T ρ = .int (ZV (xX.den T ρ).tR (xX.den T ρ).tR.length).what := by
  have : (usI 551 xX (Zk xX) z0).den T ρ = U.co T .int (T.usr 551 (xX.den T ρ) ((Zk xX).den T ρ) (z0.den T ρ) (z0.den T ρ)) := rfl
  rw [this, hT.u551, hL]; rfl
 have p155' : ∀ a b : SX, ((eqS a b).den T ρ).tP = (a.den T ρ = b.den T ρ) := fun a b => p155 (a.den T ρ) (b.den T ρ)
 have p45' : ∀ a b : SX, ((Go.Eng.SX.f2 45 a b).den T ρ).tP = ((a.den T ρ).tI = (b.den T ρ).tI) := fun a b => p45 (a.den T ρ) (b.den T ρ)
 rw [p155', w1] at r1
 rw [p155', w2, r1] at r2
 rw [p155', w3] at r3
 rw [p155', w4] at r4
 rw [p45'] at r5 r6
 rw [p45', w7] at r7
 rw [p45', w8] at r8
 have q5 : ((ai 9).den T ρ).tI = ((((rA 19).den T ρ).tR.length : Nat) : Int) := r5
 have q6 : ((ai 12).den T ρ).tI = ((((rA 20).den T ρ).tR.length : Nat) : Int) := r6
 rw [e1, Zut, ZqX, Zre, Zii, Zi, hT.p100, q5, q6, r1, r2, r3, r4, r7, r8] at hpre
 simp only [U.tRi, U.tMi, U.tIi, ZT] at hpre
 rw [e2, Zk2 hT, ZpX, if_neg (by have : 0 <= ((ai 6).den T ρ).tI := r0; omega), Zi]
 refine Zp8 hpre fun h' hh => ⟨((ai 7).den T ρ).tI, ((ai 8).den T ρ).tI, ((ai 10).den T ρ).tI, ((ai 11).den T ρ).tI, ((ai 13).den T ρ).tI, ((rA 16).den T ρ).tR, ?_⟩
 have hk : ∀ (R : List (List Int)) (ks : List Nat), (Zbf R ks).length = ks.length := fun R ks => by unfold Zbf; rw [ZGR]
 rw [hk] at hh
 exact hh
end
end Go.Proofs.Ytidlngnhjffepaa
namespace Go.Proofs.Ytidlngnhjffepaa
noncomputable section
open Go.Eng
theorem Zzc (w : Int) : ∀ L : List Tx, ixL w L <= L.length
 | [] => ZGx _
 | t :: L => by
  have := Zzc w L
  unfold ixL
  cases t.who == w
  ·show ixL w L + 1 <= L.length + 1; omega
  ·exact Nat.zero_le _
theorem ZaE {w : Int} : ∀ {L : List Tx}, ixL w L < L.length -> (L.getD (ixL w L) tx0).who = w
 | [], h => absurd h (Nat.not_lt_zero _)
 | t :: L, h => by
  unfold ixL at h ⊢
  cases hp : t.who == w
  ·rw [hp] at h
   have h : ixL w L + 1 < L.length + 1 := h
   show (L.getD (ixL w L) tx0).who = w
   exact ZaE (by omega)
  ·exact beq_iff_eq.1 hp
theorem Zta {w : Int} : ∀ {L : List Tx}, ¬ ixL w L < L.length -> ∀ t ∈ L, t.who ≠ w
 | [], _, t, ht => by cases ht
 | s :: L, h, t, ht => by
  unfold ixL at h
  cases hp : s.who == w
  ·rw [hp] at h
   have h : ¬ ixL w L + 1 < L.length + 1 := h
   rcases List.mem_cons.1 ht with rfl | ht
   ·exact beq_eq_false_iff_ne.1 hp
   ·exact Zta (by omega) t ht
  ·rw [hp] at h; exact absurd (Nat.zero_lt_succ _) h
theorem ZdU {L : List Tx} (hn : (L.map (·.who)).Nodup) {j : Nat} (hj : j < L.length) : ixL (L.getD j tx0).who L = j := by
 induction L generalizing j with
 | nil => exact absurd hj (Nat.not_lt_zero _)
 | cons t L ih =>
  simp only [ZGQ, List.nodup_cons] at hn
  unfold ixL
  cases j with
  | zero => rw [show (t.who == ((t :: L).getD 0 tx0).who) = true from by simp]; rfl
  | succ j =>
   have hj : j < L.length := by simpa using hj
   have e : (t :: L).getD (j + 1) tx0 = L.getD j tx0 := rfl
   rw [e]
   have hne : ¬ t.who = (L.getD j tx0).who := fun h => hn.1 (by
    rw [h]
    refine List.mem_map.2 ⟨L.getD j tx0, ?_, rfl⟩
    rw [ZGH, ZGK hj, ZGC]; exact ZG4 hj)
   rw [show (t.who == (L.getD j tx0).who) = false from beq_eq_false_iff_ne.2 hne]
   show ixL _ L + 1 = j + 1
   rw [ih hn.2 hj]
theorem ZbC {w : Int} : ∀ {R : List (List Int)} {L : List Tx}, R.length = L.length -> ∀ d, Yr d (Zei R L) w = (if ixL w L < L.length then g0 (R.getD (ixL w L) []) else d) /\ Zt (Zei R L) w = decide (ixL w L < L.length)
 | [], [], _, d => ⟨rfl, rfl⟩
 | r :: R, t :: L, h, d => by
  obtain ⟨i1, i2⟩ := ZbC (w := w) (R := R) (L := L) (by simpa using h) d
  have e : Zei (r :: R) (t :: L) = (t.who, g0 r) :: Zei R L := rfl
  rw [e]
  unfold ixL Yr Zt
  by_cases hw : t.who = w
  ·rw [if_pos hw, if_pos hw, show (t.who == w) = true from beq_iff_eq.2 hw]
   exact ⟨rfl, rfl⟩
  ·rw [if_neg hw, if_neg hw, show (t.who == w) = false from beq_eq_false_iff_ne.2 hw]
   show Yr d (Zei R L) w = (if ixL w L + 1 < L.length + 1 then _ else d) /\ Zt (Zei R L) w = decide (ixL w L + 1 < L.length + 1)
   rw [i1, i2]
   by_cases hq : ixL w L < L.length
   ·rw [if_pos hq, if_pos (by omega)]; exact ⟨rfl, by simp [hq]⟩
   ·rw [if_neg hq, if_neg (by omega)]; exact ⟨rfl, by simp [hq]⟩
 | [], _ :: _, h, _ => by simp at h
 | _ :: _, [], h, _ => by simp at h
theorem Zyj {L : List Tx} {j : Nat} (hj : j < L.length) (t : Tx) : setT L (j : Nat) t = L.set j t := by
 unfold setT
 rw [ZGO, List.set_eq_take_append_cons_drop, if_pos hj]
theorem Ze9 {R : List (List Int)} {j : Nat} (hj : j < R.length) (t : List Int) : Zxh R (j : Nat) t = R.set j t := by
 unfold Zxh
 rw [ZGO, List.set_eq_take_append_cons_drop, if_pos hj]
theorem Yq {α β : Type} {f : α -> β} {l : List α} {j : Nat} {d x : α} (h : f x = f (l.getD j d)) (hj : j < l.length) : (l.set j x).map f = l.map f := by
 rw [List.map_set, h]
 have : (l.map f)[j]? = some (f (l.getD j d)) := by
  rw [ZGD, ZGH, ZGK hj]; rfl
 apply List.ext_getElem?
 intro q
 by_cases hq : j = q
 ·subst hq
  rw [List.getElem?_set_self (by simpa using hj), this]
 ·rw [List.getElem?_set_ne hq]
theorem ZlL {R R' : List (List Int)} {L L' : List Tx} (h1 : R'.map g0 = R.map g0) (h2 : L'.map (·.who) = L.map (·.who)) : Zei R' L' = Zei R L := by
 have e : ∀ (L : List Tx) (R : List (List Int)), Zei R L = ((L.map (·.who)).zip (R.map g0)) := fun L R => by
  unfold Zei
  rw [List.zip_map]; rfl
 rw [e, e, h1, h2]
theorem ZcD {α β : Type} (f : α -> β) (l : List α) (j : Nat) (d : α) : (l.map f).getD j (f d) = f (l.getD j d) := by
 rw [ZGH, ZGH, ZGD]
 cases l[j]? <;> rfl
theorem ZfE {R R' : List (List Int)} (h : R'.map g0 = R.map g0) (ks : List Nat) : Zbf R' ks = Zbf R ks := by
 unfold Zbf
 apply List.map_congr_left
 intro k _
 rw [<- ZcD g0 R', <- ZcD g0 R, h]
theorem Zyy {R : List (List Int)} {ks : List Nat} (hk : ∀ k ∈ ks, k < R.length) (S : List (List Int)) : Zbf (R ++ S) ks = Zbf R ks := by
 unfold Zbf
 apply List.map_congr_left
 intro k hk'
 have := hk k hk'
 rw [ZGH, ZGH, ZGZ this]
theorem ZzU {m : List (Int × Int)} {k v : Int} (h : Zt m k = false) : Ym m k v = m ++ [(k, v)] := by
 induction m with
 | nil => rfl
 | cons p m ih =>
  obtain ⟨a, b⟩ := p
  simp only [Zt] at h
  unfold Ym
  by_cases hk : a = k
  ·rw [if_pos hk] at h; cases h
  ·rw [if_neg hk] at h ⊢
   rw [ih h]; rfl
theorem Zyu {R : List (List Int)} {L : List Tx} (hl : R.length = L.length) (r : List Int) (t : Tx) (h : ¬ ixL t.who L < L.length) : Zei (R ++ [r]) (L ++ [t]) = Ym (Zei R L) t.who (g0 r) := by
 rw [ZzU (by rw [(ZbC hl 0).2]; simp [h])]
 unfold Zei
 rw [List.zip_append hl.symm, ZGX]; rfl
theorem Zkt {R : List (List Int)} {ks : List Nat} (hk : ∀ k ∈ ks, k < R.length) : ∀ r ∈ Zbf R ks, ∃ b, r = [b] /\ ZmL R b := by
 intro r hr
 obtain ⟨k, h1, rfl⟩ := List.mem_map.1 hr
 exact ⟨_, rfl, k, hk k h1, rfl⟩
theorem ZiI {R : List (List Int)} (hn : (R.map g0).Nodup) {j k : Nat} (hj : j < R.length) (hk : k < R.length) (h : g0 (R.getD j []) = g0 (R.getD k [])) : j = k := by
 have e : ∀ (i : Nat) (hi : i < R.length), (R.map g0)[i]'(by simpa using hi) = g0 (R.getD i []) := fun i hi => by
  rw [List.getElem_map, ZGH, ZGK hi, ZGC]
 exact (List.getElem_inj hn).1 (by rw [e j hj, e k hk, h])
theorem Zov {R : List (List Int)} (hn : (R.map g0).Nodup) {ks : List Nat} (hk : ∀ k ∈ ks, k < R.length) {j : Nat} (hj : j < R.length) : [g0 (R.getD j [])] ∈ Zbf R ks ↔ j ∈ ks := by
 constructor
 ·intro h
  obtain ⟨k, h1, h2⟩ := List.mem_map.1 h
  injection h2 with h2
  rw [ZiI hn hj (hk k h1) h2.symm]; exact h1
 ·intro h
  exact List.mem_map.2 ⟨j, h, rfl⟩
theorem ZoO : ∀ (L : List Tx) (n : Nat), (ZkY L n).length <= L.length
 | [], _ => ZGx _
 | t :: L, n => by
  have := ZoO L (n + 1)
  unfold ZkY
  cases t.opn
  ·show (ZkY L (n + 1)).length <= L.length + 1; omega
  ·show (ZkY L (n + 1)).length + 1 <= L.length + 1; omega
theorem ZmE : ∀ (L : List Tx) (n k : Nat), k ∈ ZkY L n -> k < n + L.length
 | [], _, _, h => by cases h
 | t :: L, n, k, h => by
  unfold ZkY at h
  cases ho : t.opn
  ·rw [ho] at h
   have := ZmE L (n + 1) k h
   rw [ZG1]; omega
  ·rw [ho] at h
   rcases List.mem_cons.1 h with rfl | h
   ·rw [ZG1]; omega
   ·have := ZmE L (n + 1) k h
    rw [ZG1]; omega
structure WfB (B : Bk) (n : Nat) : Prop where
 nd : (B.txs.map (·.who)).Nodup
 lt : B.txs.length <= n
 kl : B.kept.length <= n
 ki : ∀ k ∈ B.kept, k < B.txs.length
 ol : B.out.length <= n
 rl : ∀ t ∈ B.txs, t.rds.length <= n /\ t.bad.length <= n
 fi : ∀ k ∈ B.fal, k < B.txs.length
 fl : B.fal.length <= n
theorem WfB.mono {B : Bk} {n m : Nat} (h : WfB B n) (hm : n <= m) : WfB B m :=
 ⟨h.nd, Nat.le_trans h.lt hm, Nat.le_trans h.kl hm, h.ki, Nat.le_trans h.ol hm, fun t ht => ⟨Nat.le_trans (h.rl t ht).1 hm, Nat.le_trans (h.rl t ht).2 hm⟩, h.fi, Nat.le_trans h.fl hm⟩
theorem Zwl (t : Tx) (i : Int) (x : Ent) : (rdT t i x).rds.length <= t.rds.length + 1 /\ (rdT t i x).bad.length <= t.bad.length + 1 /\ (rdT t i x).who = t.who := by
 unfold rdT
 split
 ·split
  ·exact ⟨by omega, by omega, rfl⟩
  ·refine ⟨by simp, by simp, rfl⟩
 ·exact ⟨by simp, by simp, rfl⟩
theorem WfB.set {B : Bk} {n : Nat} (h : WfB B n) {j : Nat} (hj : j < B.txs.length) {t : Tx} (hw : t.who = (B.txs.getD j tx0).who) (h1 : t.rds.length <= n + 1) (h2 : t.bad.length <= n + 1)
  {k : List Nat} (hk : k = B.kept \/ k = B.kept ++ [j]) {f : List Nat} (hf : f = B.fal \/ f = []) : WfB { B with txs := B.txs.set j t, kept := k, fal := f } (n + 1) := by
 have hm := Yq (f := Tx.who) (l := B.txs) hw hj
 refine ⟨by show ((B.txs.set j t).map Tx.who).Nodup; rw [hm]; exact h.nd, ?_, ?_, ?_, by have := h.ol; show B.out.length <= n + 1; omega, ?_, ?_, ?_⟩
 ·show (B.txs.set j t).length <= n + 1
  rw [List.length_set]; have := h.lt; omega
 ·show k.length <= n + 1
  have := h.kl
  rcases hk with rfl | rfl
  ·omega
  ·rw [ZGM, ZGv]; omega
 ·show ∀ q ∈ k, q < (B.txs.set j t).length
  rw [List.length_set]
  rcases hk with rfl | rfl
  ·exact h.ki
  ·intro q hq
   rcases List.mem_append.1 hq with hq | hq
   ·exact h.ki q hq
   ·rw [List.mem_singleton.1 hq]; exact hj
 ·intro u hu
  rcases List.mem_or_eq_of_mem_set hu with hu | rfl
  ·have := h.rl u hu; omega
  ·exact ⟨h1, h2⟩
 ·show ∀ q ∈ f, q < (B.txs.set j t).length
  rw [List.length_set]
  rcases hf with rfl | rfl
  ·exact h.fi
  ·intro q hq; cases hq
 ·show f.length <= n + 1
  have := h.fl
  rcases hf with rfl | rfl
  ·omega
  ·exact Nat.zero_le _
theorem WfB.at {B : Bk} {n : Nat} (h : WfB B n) {j : Nat} (hj : j < B.txs.length) : (B.txs.getD j tx0).rds.length <= n /\ (B.txs.getD j tx0).bad.length <= n := by
 refine h.rl _ ?_
 rw [ZGH, ZGK hj, ZGC]; exact ZG4 hj
theorem ZBG {B : Bk} {n : Nat} (h : WfB B n) (i : Int) (x : Ent) : WfB (Y6 B i x) (n + 1) := by
 have hmono := h.mono (Nat.le_succ n)
 have hflt : ∀ w, WfB (B.flt i w) (n + 1) := fun w => ⟨hmono.nd, hmono.lt, hmono.kl, hmono.ki, hmono.ol, hmono.rl, hmono.fi, hmono.fl⟩
 unfold Y6
 generalize hj : ixL (xw x) B.txs = j
 have ho : ∀ {q : Bool}, (decide (j < B.txs.length) && q) = true -> j < B.txs.length := fun hq => by simp at hq; exact hq.1
 dsimp only
 split
 ·split
  ·exact hflt 1
  ·rename_i hne
   rw [<- hj] at hne
   have hno := Zta hne
   refine ⟨?_, ?_, hmono.kl, ?_, hmono.ol, ?_, (fun q hq => nomatch hq), Nat.zero_le _⟩
   ·show ((B.txs ++ [_]).map Tx.who).Nodup
    rw [ZGX, List.nodup_append]
    refine ⟨h.nd, by simp, fun a ha b hb => ?_⟩
    rw [List.map_singleton, ZGA] at hb
    obtain ⟨t, ht, rfl⟩ := List.mem_map.1 ha
    rw [hb]; exact hno t ht
   ·show (B.txs ++ [_]).length <= n + 1
    rw [ZGM, ZGv]; have := h.lt; omega
   ·intro q hq
    have := h.ki q hq
    show q < (B.txs ++ [_]).length
    rw [ZGM]; omega
   ·intro u hu
    rcases List.mem_append.1 hu with hu | hu
    ·exact hmono.rl u hu
    ·rw [List.mem_singleton.1 hu]; exact ⟨Nat.zero_le _, Nat.zero_le _⟩
 ·split
  ·split
   ·exact ⟨hmono.nd, hmono.lt, hmono.kl, hmono.ki, by show (B.out ++ [_]).length <= n + 1; rw [ZGM, ZGv]; have := h.ol; omega, hmono.rl, (fun q hq => nomatch hq), Nat.zero_le _⟩
   ·split
    ·rename_i hop
     have hjl := ho hop
     have hl := Zwl (B.txs.getD j tx0) i x
     have ha := h.at hjl
     exact h.set hjl hl.2.2 (by omega) (by omega) (.inl rfl) (.inr rfl)
    ·exact hflt 1
  ·split
   ·split
    ·rename_i hop
     have hjl := ho hop
     have ha := h.at hjl
     exact h.set hjl (t := { B.txs.getD j tx0 with ch := Ym (B.txs.getD j tx0).ch (kc x) ((Zq (ZaU x) : Nat) * 2 + b01 (xk x == 4)) }) rfl (by show (B.txs.getD j tx0).rds.length <= n + 1; omega) (by show (B.txs.getD j tx0).bad.length <= n + 1; omega) (.inl rfl) (.inl rfl)
    ·exact hflt 1
   ·split
    ·split
     ·rename_i hop
      have hjl := ho hop
      have ha := h.at hjl
      exact h.set hjl (t := { B.txs.getD j tx0 with opn := false }) rfl (by show (B.txs.getD j tx0).rds.length <= n + 1; omega) (by show (B.txs.getD j tx0).bad.length <= n + 1; omega) (.inl rfl) (.inl rfl)
     ·exact hflt 1
    ·split
     ·split
      ·exact hflt 1
      ·split
       ·exact hflt 2
       ·rename_i hq _
        have hjl : j < B.txs.length := by
         by_cases hop : (decide (j < B.txs.length) && (B.txs.getD j tx0).opn) = true
         ·exact ho hop
         ·have hm : j ∈ B.fal := by
           by_cases hm : j ∈ B.fal
           ·exact hm
           ·exact absurd (.inl ⟨by simpa using hop, hm⟩) hq
          exact h.fi j hm
        have ha := h.at hjl
        exact h.set hjl (t := { B.txs.getD j tx0 with opn := false, com := i }) rfl (by show (B.txs.getD j tx0).rds.length <= n + 1; omega) (by show (B.txs.getD j tx0).bad.length <= n + 1; omega) (.inr rfl) (.inl rfl)
     ·split
      ·refine ⟨?_, ?_, hmono.kl, ?_, hmono.ol, ?_, ?_, ?_⟩
       ·show ((B.txs.map fun t => { t with opn := false }).map Tx.who).Nodup
        rw [List.map_map]; exact h.nd
       ·show (B.txs.map _).length <= n + 1
        rw [ZGR]; exact hmono.lt
       ·intro q hq
        have := h.ki q hq
        show q < (B.txs.map _).length
        rw [ZGR]; exact this
       ·intro u hu
        obtain ⟨t, ht, rfl⟩ := List.mem_map.1 hu
        exact hmono.rl t ht
       ·intro q hq
        have := ZmE B.txs 0 q hq
        show q < (B.txs.map _).length
        rw [ZGR]; omega
       ·show (ZkY B.txs 0).length <= n + 1
        have := ZoO B.txs 0
        have := h.lt
        omega
      ·exact hmono
theorem Yy (B : Bk) (i : Int) (x : Ent) {j : Nat} (hj : ixL (xw x) B.txs = j) : Y6 B i x =
 if xk x = 1 then (if j < B.txs.length then B.flt i 1 else { B with txs := B.txs ++ [⟨xw x, i, -1, true, [], [], []⟩], fal := [] })
 else if xk x = 2 then (if xw x = 0 then { B with out := B.out ++ [i :: nr x], fal := [] } else if (decide (j < B.txs.length) && (B.txs.getD j tx0).opn) = true then { B with txs := B.txs.set j (rdT (B.txs.getD j tx0) i x), fal := [] } else B.flt i 1)
 else if xk x = 3 \/ xk x = 4 then (if (decide (j < B.txs.length) && (B.txs.getD j tx0).opn) = true then { B with txs := B.txs.set j { B.txs.getD j tx0 with ch := Ym (B.txs.getD j tx0).ch (kc x) ((Zq (ZaU x) : Nat) * 2 + b01 (xk x == 4)) } } else B.flt i 1)
 else if xk x = 6 then (if (decide (j < B.txs.length) && (B.txs.getD j tx0).opn) = true then { B with txs := B.txs.set j { B.txs.getD j tx0 with opn := false } } else B.flt i 1)
 else if xk x = 5 then (if ((decide (j < B.txs.length) && (B.txs.getD j tx0).opn) = false /\ ¬ j ∈ B.fal) \/ 0 <= (B.txs.getD j tx0).com then B.flt i 1 else if ¬ xt x = B.kept.length + 1 then B.flt i 2 else { B with txs := B.txs.set j { B.txs.getD j tx0 with opn := false, com := i }, kept := B.kept ++ [j] })
 else if xk x = 7 then { B with txs := B.txs.map fun t => { t with opn := false }, fal := ZkY B.txs 0 }
 else B := by subst hj; rfl
section
variable {B : Bk} {i : Int} {x : Ent} {j : Nat} (hj : ixL (xw x) B.txs = j)
include hj
theorem st1a (hk : xk x = 1) (h : j < B.txs.length) : Y6 B i x = B.flt i 1 := by rw [Yy B i x hj, if_pos hk, if_pos h]
theorem st1b (hk : xk x = 1) (h : ¬ j < B.txs.length) : Y6 B i x = { B with txs := B.txs ++ [⟨xw x, i, -1, true, [], [], []⟩], fal := [] } := by rw [Yy B i x hj, if_pos hk, if_neg h]
theorem st2a (hk : xk x = 2) (h : xw x = 0) : Y6 B i x = { B with out := B.out ++ [i :: nr x], fal := [] } := by rw [Yy B i x hj, if_neg (by omega), if_pos hk, if_pos h]
theorem st2b (hk : xk x = 2) (h : ¬ xw x = 0) (h1 : j < B.txs.length) (h2 : (B.txs.getD j tx0).opn = true) : Y6 B i x = { B with txs := B.txs.set j (rdT (B.txs.getD j tx0) i x), fal := [] } := by
 rw [Yy B i x hj, if_neg (by omega), if_pos hk, if_neg h, if_pos (by rw [h2, decide_eq_true h1]; rfl)]
theorem st2c (hk : xk x = 2) (h : ¬ xw x = 0) (h1 : j < B.txs.length -> (B.txs.getD j tx0).opn = false) : Y6 B i x = B.flt i 1 := by
 rw [Yy B i x hj, if_neg (by omega), if_pos hk, if_neg h, if_neg (by simpa using h1)]
theorem st3a (hk : xk x = 3 \/ xk x = 4) (h1 : j < B.txs.length) (h2 : (B.txs.getD j tx0).opn = true) : Y6 B i x = { B with txs := B.txs.set j { B.txs.getD j tx0 with ch := Ym (B.txs.getD j tx0).ch (kc x) ((Zq (ZaU x) : Nat) * 2 + b01 (xk x == 4)) } } := by
 rw [Yy B i x hj, if_neg (by omega), if_neg (by omega), if_pos hk, if_pos (by rw [h2, decide_eq_true h1]; rfl)]
theorem ZFP (hk : xk x = 3 \/ xk x = 4) (h1 : j < B.txs.length -> (B.txs.getD j tx0).opn = false) : Y6 B i x = B.flt i 1 := by
 rw [Yy B i x hj, if_neg (by omega), if_neg (by omega), if_pos hk, if_neg (by simpa using h1)]
theorem st6a (hk : xk x = 6) (h1 : j < B.txs.length) (h2 : (B.txs.getD j tx0).opn = true) : Y6 B i x = { B with txs := B.txs.set j { B.txs.getD j tx0 with opn := false } } := by
 rw [Yy B i x hj, if_neg (by omega), if_neg (by omega), if_neg (by omega), if_pos hk, if_pos (by rw [h2, decide_eq_true h1]; rfl)]
theorem st6b (hk : xk x = 6) (h1 : j < B.txs.length -> (B.txs.getD j tx0).opn = false) : Y6 B i x = B.flt i 1 := by
 rw [Yy B i x hj, if_neg (by omega), if_neg (by omega), if_neg (by omega), if_pos hk, if_neg (by simpa using h1)]
theorem ZDT (hk : xk x = 5) (h : ((j < B.txs.length -> (B.txs.getD j tx0).opn = false) /\ ¬ j ∈ B.fal) \/ 0 <= (B.txs.getD j tx0).com) : Y6 B i x = B.flt i 1 := by
 rw [Yy B i x hj, if_neg (by omega), if_neg (by omega), if_neg (by omega), if_neg (by omega), if_pos hk, if_pos (h.imp (fun q => ⟨by simpa using q.1, q.2⟩) id)]
theorem st5b (hk : xk x = 5) (h : (j < B.txs.length /\ (B.txs.getD j tx0).opn = true) \/ j ∈ B.fal) (h2 : (B.txs.getD j tx0).com < 0) (h3 : ¬ xt x = B.kept.length + 1) : Y6 B i x = B.flt i 2 := by
 rw [Yy B i x hj, if_neg (by omega), if_neg (by omega), if_neg (by omega), if_neg (by omega), if_pos hk, if_neg, if_pos h3]
 rintro (⟨q1, q2⟩ | q)
 ·rcases h with ⟨a, b⟩ | a
  ·rw [b, decide_eq_true a] at q1; cases q1
  ·exact q2 a
 ·omega
theorem st5c (hk : xk x = 5) (h : (j < B.txs.length /\ (B.txs.getD j tx0).opn = true) \/ j ∈ B.fal) (h2 : (B.txs.getD j tx0).com < 0) (h3 : xt x = B.kept.length + 1) :
  Y6 B i x = { B with txs := B.txs.set j { B.txs.getD j tx0 with opn := false, com := i }, kept := B.kept ++ [j] } := by
 rw [Yy B i x hj, if_neg (by omega), if_neg (by omega), if_neg (by omega), if_neg (by omega), if_pos hk, if_neg, if_neg (by omega)]
 rintro (⟨q1, q2⟩ | q)
 ·rcases h with ⟨a, b⟩ | a
  ·rw [b, decide_eq_true a] at q1; cases q1
  ·exact q2 a
 ·omega
theorem st7 (hk : xk x = 7) : Y6 B i x = { B with txs := B.txs.map fun t => { t with opn := false }, fal := ZkY B.txs 0 } := by
 rw [Yy B i x hj, if_neg (by omega), if_neg (by omega), if_neg (by omega), if_neg (by omega), if_neg (by omega), if_pos hk]
theorem st0 (h : ¬ xk x = 1 /\ ¬ xk x = 2 /\ ¬ xk x = 3 /\ ¬ xk x = 4 /\ ¬ xk x = 5 /\ ¬ xk x = 6 /\ ¬ xk x = 7) : Y6 B i x = B := by
 rw [Yy B i x hj, if_neg (by omega), if_neg (by omega), if_neg (by omega), if_neg (by omega), if_neg (by omega), if_neg (by omega)]
end
theorem Zg {R : List (List Int)} {J : Nat} (hJ : J < R.length) {row : List Int} (ks : List Nat) : Zbf (Zxh R (J : Nat) (g0 (R.getD J []) :: row)) ks = Zbf R ks := by
 rw [Ze9 hJ]
 exact ZfE (Yq (f := g0) (d := []) (x := g0 (R.getD J []) :: row) rfl hJ) ks
theorem YV {R : List (List Int)} {L : List Tx} {J : Nat} (hJ : J < R.length) {row : List Int} {t : Tx} (hL : J < L.length) (ht : t.who = (L.getD J tx0).who) : Zei (Zxh R (J : Nat) (g0 (R.getD J []) :: row)) (L.set J t) = Zei R L := by
 rw [Ze9 hJ]
 exact ZlL (Yq (f := g0) (d := []) (x := g0 (R.getD J []) :: row) rfl hJ) (Yq (f := Tx.who) (d := tx0) ht hL)
theorem ZeO {L : List Tx} {J : Nat} (hL : J < L.length) {m : List (Int × Int)} {p : List Int} {r : List Ent} {b : List Int} :
  setT (setT L (J : Nat) (Zp5 (L.getD J tx0) m p)) (J : Nat) (ZvE ((setT L (J : Nat) (Zp5 (L.getD J tx0) m p)).getD J tx0) r b) = L.set J (ZvE (Zp5 (L.getD J tx0) m p) r b) := by
 have h := ZeZ (L := L) (i := (J : Nat)) (t := Zp5 (L.getD J tx0) m p) (u := tx0) (by omega) (by omega)
 have h2 := h.2
 unfold atT at h2
 rw [ZGO] at h2
 rw [h2, (ZeZ (by omega) (by omega)).1, Zyj hL]
theorem ZkD {x : List Ent} {n : Nat} (h : (ZV x n).fault = -1) : ZV x (n + 1) = Y6 (ZV x n) n (xa x n) := by
 show (if 0 <= (ZV x n).fault then ZV x n else Y6 (ZV x n) n (xa x n)) = _
 rw [if_neg (by rw [h]; omega)]
theorem ZjP {x : List Ent} {n : Nat} (h : 0 <= (ZV x n).fault) : ∀ {m : Nat}, n <= m -> ZV x m = ZV x n
 | 0, hm => by rw [Nat.le_zero.1 hm]
 | m + 1, hm => by
  rcases ZGB m n with hlt | hge
  ·rw [show m + 1 = n by omega]
  ·have := ZjP h hge
   show (if 0 <= (ZV x m).fault then ZV x m else _) = _
   rw [this, if_pos h]
theorem ZBZ {x : List Ent} {n : Nat} {B : Bk} {w : Int} (hB : ZV x n = B) (hf : B.fault = -1) (hn : n < x.length) (hs : Y6 B n (xa x n) = B.flt n w) : ZV x x.length = B.flt n w := by
 have h1 := ZkD (x := x) (n := n) (by rw [hB]; exact hf)
 rw [hB, hs] at h1
 rw [ZjP (n := n + 1) (by rw [h1]; show (0 : Int) <= n; omega) hn, h1]
theorem ZeD (x : List Ent) : ∀ n, WfB (ZV x n) n
 | 0 => ⟨List.nodup_nil, ZGx _, ZGx _, (fun k hk => nomatch hk), ZGx _, (fun t ht => nomatch ht), (fun k hk => nomatch hk), ZGx _⟩
 | n + 1 => by
  have ih := ZeD x n
  show WfB (if 0 <= (ZV x n).fault then ZV x n else Y6 (ZV x n) n (xa x n)) (n + 1)
  split
  ·exact ih.mono (Nat.le_succ n)
  ·exact ZBG ih _ _
theorem ZCW (x : Ent) : kc (nr x) = kc x := by unfold kc; rw [ZiE]
theorem Zfg (m : List (Int × Int)) (x : Ent) : ZR m (nr x) = ZR m x := by unfold ZR; rw [ZCW, Zid, Zf7]
theorem Zra (q : Bool) : (b01 q == 1) = q := by cases q <;> rfl
theorem ZDV (t : Tx) (m : List (Int × Int)) : ZvE (Zp5 t m [t.com, b01 t.opn]) t.rds t.bad = { t with ch := m } := by
 have h := Zra t.opn
 unfold ZvE Zp5
 simp only [List.getD_cons_zero, List.getD_cons_succ, h]
theorem rd_eq (t : Tx) (i : Int) (x : Ent) : ZvE (Zp5 t t.ch [t.com, b01 t.opn]) (if Zt t.ch (kc (nr x)) = true then t.rds else t.rds ++ [i :: nr (nr x)]) (if Zt t.ch (kc (nr x)) = true /\ ZR t.ch (nr x) = false then t.bad ++ [i] else t.bad) = rdT t i x := by
 have h := Zra t.opn
 unfold ZvE Zp5 rdT
 simp only [List.getD_cons_zero, List.getD_cons_succ, h, ZCW, Zfg, nr_nr]
 cases Zt t.ch (kc x)
 ·simp
 ·cases ZR t.ch x <;> simp
theorem ZdK (R : List (List Int)) (ks : List Nat) (J : Nat) : Zbf R (ks ++ [J]) = Zbf R ks ++ [[g0 (R.getD J [])]] := by unfold Zbf; rw [ZGX]; rfl
theorem ZyC {α : Type} {l : List α} {j : Nat} {d : α} (hj : j < l.length) : l.set j (l.getD j d) = l := by
 apply List.ext_getElem?
 intro q
 by_cases hq : j = q
 ·subst hq
  rw [List.getElem?_set_self hj, ZGH, ZGK hj, ZGC]
 ·rw [List.getElem?_set_ne hq]
theorem Zpn {x : List Ent} {n : Nat} (h : n <= x.length) : Zih (x.take n) (x.take n).length = Zih x n := by
 have hl : (x.take n).length = n := by rw [ZGJ]; omega
 have e : ∀ i, i < n -> xa (x.take n) i = xa x i := fun i hi => Zdg hi
 unfold Zih
 congr 1
 apply propext
 rw [hl]
 exact ⟨fun q i hi => by rw [<- e i hi]; exact q i hi, fun q i hi => by rw [e i hi]; exact q i hi⟩
theorem Zci (L : List Tx) (J : Nat) : atT L (J : Nat) = L.getD J tx0 := by unfold atT; rw [ZGO]
theorem ZaG {R : List (List Int)} (hn : (R.map g0).Nodup) {J : Nat} (hJ : J < R.length) : ZcF (g0 (R.getD J [])) R = J := by
 have hb : ZmL R (g0 (R.getD J [])) := ⟨J, hJ, rfl⟩
 exact ZiI hn (YM hb) hJ (ZbP (YM hb))
theorem ZrI {R : List (List Int)} {J : Nat} (hJ : J < R.length) : R.getD J [] ∈ R := by
 rw [ZGH, ZGK hJ, ZGC]; exact ZG4 hJ
end
end Go.Proofs.Ytidlngnhjffepaa
namespace Go.Proofs.Ytidlngnhjffepaa
noncomputable section
open Go.Eng
theorem ZuA {L : List Tx} {t : Tx} (ht : t ∈ L) : ixL t.who L < L.length := by
 rcases ZGB (ixL t.who L) L.length with h | h
 ·exact h
 ·exact absurd rfl (Zta (by omega) t ht)
theorem Yz {left : List (Int × Int)} : ∀ {L : List Tx} {n k : Nat}, k ∈ Zb1 left L n ↔ n <= k /\ k - n < L.length /\ (L.getD (k - n) tx0).opn = true /\ Zt left (L.getD (k - n) tx0).who = false
 | [], n, k => by
  constructor
  ·intro h; cases h
  ·rintro ⟨_, h, _⟩; exact absurd h (Nat.not_lt_zero _)
 | t :: L, n, k => by
  have ih := Yz (left := left) (L := L) (n := n + 1) (k := k)
  have hs : n + 1 <= k -> (t :: L).getD (k - n) tx0 = L.getD (k - (n + 1)) tx0 := fun h => by
   rw [show k - n = (k - (n + 1)) + 1 by omega]; rfl
  have h0 : k = n -> (t :: L).getD (k - n) tx0 = t := fun h => by rw [show k - n = 0 by omega]; rfl
  unfold Zb1
  split
  ·rename_i hc
   rw [List.mem_cons, ih]
   constructor
   ·rintro (h | ⟨a, b, c⟩)
    ·rw [h0 h]; exact ⟨by omega, by rw [ZG1]; omega, hc⟩
    ·rw [hs a]; exact ⟨by omega, by rw [ZG1]; omega, c⟩
   ·rintro ⟨a, b, c⟩
    rw [ZG1] at b
    by_cases h : k = n
    ·exact .inl h
    ·rw [hs (by omega)] at c
     exact .inr ⟨by omega, by omega, c⟩
  ·rename_i hc
   rw [ih]
   constructor
   ·rintro ⟨a, b, c⟩
    rw [hs a]; exact ⟨by omega, by rw [ZG1]; omega, c⟩
   ·rintro ⟨a, b, c⟩
    rw [ZG1] at b
    by_cases h : k = n
    ·rw [h0 h] at c; exact absurd c hc
    ·rw [hs (by omega)] at c
     exact ⟨by omega, by omega, c⟩
theorem YO {left : List (Int × Int)} : ∀ {L : List Tx} {n : Nat}, (Zb1 left L n).Nodup
 | [], _ => List.nodup_nil
 | t :: L, n => by
  unfold Zb1
  split
  ·rw [List.nodup_cons]
   exact ⟨fun h => by have := (Yz.1 h).1; omega, YO⟩
  ·exact YO
theorem ZfD (left : List (Int × Int)) : ∀ (L : List Tx) (n : Nat), (Zb1 left L n).length <= L.length
 | [], _ => ZGx _
 | t :: L, n => by
  have := ZfD left L (n + 1)
  unfold Zb1
  split
  ·rw [ZG1, ZG1]; omega
  ·rw [ZG1]; omega
theorem Zdl : ∀ (L : List Tx) (n : Nat), Zb1 [] L n = ZkY L n
 | [], _ => rfl
 | t :: L, n => by
  unfold Zb1 ZkY
  rw [Zdl L (n + 1)]
  cases t.opn <;> simp [Zt]
theorem Zi1 {left : List (Int × Int)} {L : List Tx} (h : ∀ t ∈ L, Zt left t.who = true) (n : Nat) : Zb1 left L n = [] := by
 rw [List.eq_nil_iff_forall_not_mem]
 intro k hk
 obtain ⟨_, h2, _, h4⟩ := Yz.1 hk
 rw [h _ (by rw [ZGH, ZGK h2, ZGC]; exact ZG4 h2)] at h4
 cases h4
theorem Zka {left : List (Int × Int)} {L : List Tx} (h : ∀ t ∈ L, Zt left t.who = true) : Zb3 L left = L := by
 unfold Zb3
 have e : (L.map fun t => if Zt left t.who = true then t else { t with opn := false }) = L.map id := List.map_congr_left fun t ht => if_pos (h t ht)
 rw [e, List.map_id]
theorem Zdq {R : List (List Int)} {L : List Tx} (hl : R.length = L.length) : ∀ t ∈ L, Zt (Zei R L) t.who = true := fun t ht => by
 rw [(ZbC hl 0).2]; simp [ZuA ht]
theorem Zf4 {R : List (List Int)} {L : List Tx} (hl : R.length = L.length) : (Zei R L).map (·.1) = L.map (·.who) := by
 unfold Zei
 rw [List.map_map]
 have : ((·.1) ∘ fun p : Tx × List Int => (p.1.who, g0 p.2)) = (fun t : Tx => t.who) ∘ Prod.fst := rfl
 rw [this, <- List.map_map, List.map_fst_zip (by omega)]
theorem ZdH (L : List Tx) (left : List (Int × Int)) : (Zb3 L left).length = L.length := by unfold Zb3; rw [ZGR]
theorem ZdB (L : List Tx) (left : List (Int × Int)) {j : Nat} (hj : j < L.length) : (Zb3 L left).getD j tx0 = if Zt left (L.getD j tx0).who = true then L.getD j tx0 else { L.getD j tx0 with opn := false } := by
 unfold Zb3
 rw [ZGH, ZGD, ZGH, ZGK hj]; rfl
theorem Zf9 {L : List Tx} {left : List (Int × Int)} (hn : (left.map (·.1)).Nodup) (hw : (L.map (·.who)).Nodup) {k : Int} {j : Nat} (hj : ixL k L = j) (hjl : j < L.length) (hk : Zt left k = true) :
  Zb3 L (YQ left k) = (Zb3 L left).set j { L.getD j tx0 with opn := false } := by
 have hwho : (L.getD j tx0).who = k := by rw [<- hj]; exact ZaE (by omega)
 apply List.ext_getElem?
 intro q
 rw [List.getElem?_set]
 have hg : ∀ (lf : List (Int × Int)), (Zb3 L lf)[q]? = (L[q]?).map (fun t => if Zt lf t.who = true then t else { t with opn := false }) := fun lf => by unfold Zb3; rw [ZGD]
 rw [hg, hg, ZdH]
 by_cases hq : j = q
 ·subst hq
  rw [if_pos rfl, if_pos hjl]
  have e : L[j]? = some (L.getD j tx0) := by rw [ZGH, ZGK hjl, ZGC]
  rw [e, Option.map_some]
  congr 1
  exact if_neg (by rw [Zas hn, hwho, decide_eq_true rfl]; simp)
 ·rw [if_neg hq]
  cases hL : L[q]? with
  | none => rfl
  | some t =>
   simp only [Option.map_some]
   have hne : ¬ k = t.who := fun h => hq (by
    have hql : q < L.length := (List.getElem?_eq_some_iff.1 hL).1
    have := ZdU hw hql
    rw [ZGH, hL, ZGC, <- h, hj] at this
    exact this)
   rw [Zas hn]
   simp [hne]
theorem Zg6 {L : List Tx} {left : List (Int × Int)} (hn : (left.map (·.1)).Nodup) (hw : (L.map (·.who)).Nodup) {k : Int} {j : Nat} (hj : ixL k L = j) (hjl : j < L.length) (hk : Zt left k = true) (ho : ((Zb3 L left).getD j tx0).opn = false) :
  Zb3 L (YQ left k) = Zb3 L left := by
 rw [Zf9 hn hw hj hjl hk]
 have hwho : (L.getD j tx0).who = k := by rw [<- hj]; exact ZaE (by omega)
 rw [ZdB L left hjl, hwho, if_pos hk] at ho
 have e : ({ L.getD j tx0 with opn := false } : Tx) = (Zb3 L left).getD j tx0 := by
  rw [ZdB L left hjl, hwho, if_pos hk]
  generalize L.getD j tx0 = t at ho
  cases t; simp only at ho; rw [ho]
 rw [e]
 exact ZyC (by rw [ZdH]; exact hjl)
theorem mhas_del' {m : List (Int × Int)} (hn : (m.map (·.1)).Nodup) (k q : Int) : Zt (YQ m k) q = if k = q then false else Zt m q := by
 rw [Zas hn]
 by_cases h : k = q <;> simp [h]
theorem Zkn {L : List Tx} {left : List (Int × Int)} (hn : (left.map (·.1)).Nodup) (hw : (L.map (·.who)).Nodup) {k : Int} {j : Nat} (hj : ixL k L = j) (hjl : j < L.length) (hk : Zt left k = true) (ho : (L.getD j tx0).opn = true) :
  (Zb1 left L 0 ++ [j]).Perm (Zb1 (YQ left k) L 0) := by
 have hwho : (L.getD j tx0).who = k := by rw [<- hj]; exact ZaE (by omega)
 have hnj : ¬ j ∈ Zb1 left L 0 := fun h => by
  have := (Yz.1 h).2.2.2
  rw [Nat.sub_zero, hwho, hk] at this; cases this
 refine (List.perm_ext_iff_of_nodup ?_ YO).2 fun q => ?_
 ·rw [List.nodup_append]
  refine ⟨YO, by simp, fun a ha b hb => ?_⟩
  rw [ZGA] at hb; subst hb
  intro e; subst e; exact hnj ha
 ·rw [ZG2, ZGA, Yz, Yz, mhas_del' hn]
  simp only [Nat.sub_zero]
  constructor
  ·rintro (⟨a, b, c, d⟩ | rfl)
   ·exact ⟨a, b, c, by rw [d]; split <;> rfl⟩
   ·exact ⟨Nat.zero_le _, hjl, ho, if_pos hwho.symm⟩
  ·rintro ⟨a, b, c, d⟩
   by_cases hq : q = j
   ·exact .inr hq
   ·refine .inl ⟨a, b, c, ?_⟩
    have hne : ¬ k = (L.getD q tx0).who := fun h => hq (by
     have := ZdU hw b
     rw [<- h, hj] at this; exact this.symm)
    rw [if_neg hne] at d; exact d
theorem Zg1 {L : List Tx} {left : List (Int × Int)} (hn : (left.map (·.1)).Nodup) (hw : (L.map (·.who)).Nodup) {k : Int} {j : Nat} (hj : ixL k L = j) (hjl : j < L.length) (ho : (L.getD j tx0).opn = false) :
  (Zb1 left L 0).Perm (Zb1 (YQ left k) L 0) := by
 refine (List.perm_ext_iff_of_nodup YO YO).2 fun q => ?_
 rw [Yz, Yz, mhas_del' hn]
 simp only [Nat.sub_zero]
 constructor
 ·rintro ⟨a, b, c, d⟩
  exact ⟨a, b, c, by rw [d]; split <;> rfl⟩
 ·rintro ⟨a, b, c, d⟩
  refine ⟨a, b, c, ?_⟩
  have hne : ¬ k = (L.getD q tx0).who := fun h => by
   have := ZdU hw b
   rw [<- h, hj] at this
   rw [this, c] at ho; cases ho
  rw [if_neg hne] at d; exact d
theorem ZdO {R : List (List Int)} {a b : List Nat} (h : a.Perm b) : (Zbf R a).Perm (Zbf R b) := h.map _
end
end Go.Proofs.Ytidlngnhjffepaa
