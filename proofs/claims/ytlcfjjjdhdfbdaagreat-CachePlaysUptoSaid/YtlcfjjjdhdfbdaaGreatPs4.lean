/- Part of a proof. -/
import Derived.Test.YtlcfjjjdhdfbdaaGreatPs3
import Derived.ChangeSame
import Derived.Test.YtlcfjjjdhdfbdaaGreatProg
import Derived.KernelRfl
set_option linter.unusedSimpArgs false
set_option linter.unusedVariables false
set_option maxRecDepth 20000
namespace Go.Eng
noncomputable section
section
variable {G : Type}
theorem ZfH (a b : U G) : (ap2 155 a b).tP = (a = b) := by
 show (@decide (a = b) (Classical.propDecidable _) = true) = _
 exact propext ⟨fun h => @of_decide_eq_true _ (Classical.propDecidable _) h, fun h => @decide_eq_true _ (Classical.propDecidable _) h⟩
theorem ZHb (a : U G) : ap1 2 a = .bool (!a.toBool) := rfl
theorem ZJ2 (a : U G) : ap1 3 a = .int (if a.toBool then 1 else 0) := rfl
theorem ZBP (a : U G) : ap1 14 a = .int (IntKind.wrap .u8 a.tI) := rfl
theorem ZP9 (a : U G) : ap1 23 a = .bool (decide (IntKind.min .i64 <= a.tI) && decide (a.tI <= IntKind.max .i64)) := rfl
theorem ZS (a : U G) : ap1 30 a = .int a.tN.length := rfl
theorem Za1 (a : U G) : ap1 31 a = .int a.tB.length := rfl
theorem Y8 (a : U G) : ap1 32 a = .int a.tR.length := rfl
theorem Zeb (a : U G) : ap1 33 a = .int a.tM.length := rfl
theorem ZV (a : U G) : ap1 152 a = .ints [] := rfl
theorem ZLH (a : U G) : ap1 153 a = .bytes [] := rfl
theorem ZiX (a : U G) : ap1 154 a = .rows [] := rfl
theorem Zcs (a : U G) : ap1 155 a = .amap [] := rfl
theorem YU (a : U G) : ap1 35 a = .int (Zo1 a.tB : Nat) := rfl
theorem Y3 (a : U G) : ap1 36 a = .bytes (ZLq a.tI.toNat) := rfl
theorem Zwx (a b : U G) : ap2 40 a b = .int (a.tI + b.tI) := rfl
theorem ZIh (a b : U G) : ap2 41 a b = .int (a.tI - b.tI) := rfl
theorem ZR9 (a b : U G) : ap2 42 a b = .int (a.tI * b.tI) := rfl
theorem ZkC (a b : U G) : ap2 43 a b = .int (a.tI.tdiv b.tI) := rfl
theorem ZkK (a b : U G) : ap2 45 a b = .bool (a.tI == b.tI) := rfl
theorem ZRS (a b : U G) : ap2 47 a b = .bool (decide (a.tI <= b.tI)) := rfl
theorem ZQC (a b : U G) : ap2 48 a b = .bool (a.toBool == b.toBool) := rfl
theorem ZTc (a b : U G) : ap2 50 a b = .bool (a.toBool || b.toBool) := rfl
theorem Z2 (a b : U G) : ap2 110 a b = .int (a.tN.getD b.tI.toNat 0) := rfl
theorem Zxg (a b : U G) : ap2 111 a b = .int ((a.tB.getD b.tI.toNat 0).toNat : Nat) := rfl
theorem ZB (a b : U G) : ap2 113 a b = .ints (a.tN.take b.tI.toNat) := rfl
theorem Zhi (a b : U G) : ap2 114 a b = .bytes (a.tB.take b.tI.toNat) := rfl
theorem ZeI (a b : U G) : ap2 115 a b = .rows (a.tR.take b.tI.toNat) := rfl
theorem ZM9 (a b : U G) : ap2 117 a b = .bytes (a.tB.drop b.tI.toNat) := rfl
theorem ZI7 (a b : U G) : ap2 120 a b = .bytes (a.tB ++ b.tB) := rfl
theorem Zcq (a b : U G) : ap2 121 a b = .rows (a.tR ++ b.tR) := rfl
theorem ZR (a b : U G) : ap2 122 a b = .ints (a.tI :: b.tN) := rfl
theorem Yg (a b : U G) : ap2 123 a b = .bytes (UInt8.ofNat a.tI.toNat :: b.tB) := rfl
theorem ZW (a b : U G) : ap2 124 a b = .rows (a.tN :: b.tR) := rfl
theorem ZI (a b : U G) : ap2 126 a b = .bytes (List.replicate a.tI.toNat (UInt8.ofNat b.tI.toNat)) := rfl
theorem ZJ (a b : U G) : ap2 141 a b = .bool (Yl a.tM b.tI) := rfl
theorem ZeO (a b : U G) : ap2 143 a b = .amap (Zay a.tM b.tI) := rfl
theorem Yq (a b : U G) : ap2 150 a b = .bool (a.tB == b.tB) := rfl
theorem ZKM (a b : U G) : ap2 153 a b = .bool (a.tN == b.tN) := rfl
theorem YE (a b c : U G) : ap3 112 a b c = .int ((a.tR.getD b.tI.toNat []).getD c.tI.toNat 0) := rfl
theorem Zog (a b c : U G) : ap3 131 a b c = .bytes (a.tB.set b.tI.toNat (UInt8.ofNat c.tI.toNat)) := rfl
theorem Ya (a b c : U G) : ap3 132 a b c = .rows (a.tR.set b.tI.toNat c.tN) := rfl
theorem ZH (a b c : U G) : ap3 140 a b c = .int (Y5 a.tI b.tM c.tI) := rfl
theorem ZiY (a b c : U G) : ap3 142 a b c = .amap (Zai a.tM b.tI c.tI) := rfl
def Zkt (x y : Int) : Int := if y < x then y else x
def Zbd (x y : Int) : Int := if y > x then y else x
theorem ZLg {G : Type} (a b : U G) : ap2 51 a b = .int (Zkt a.tI b.tI) := rfl
theorem Z3 {G : Type} (a b : U G) : ap2 52 a b = .int (Zbd a.tI b.tI) := rfl
theorem YF {x y : Int} (h : x <= y) : Zkt x y = x := by unfold Zkt; rw [if_neg (by omega)]
def leB (x y : Int) : Bool := decide (x <= y)
def ltB (x y : Int) : Bool := decide (x < y)
theorem t47 {G : Type} (a b : U G) : (ap2 47 a b).toBool = leB a.tI b.tI := rfl
theorem t46 {G : Type} (a b : U G) : (ap2 46 a b).toBool = ltB a.tI b.tI := rfl
theorem ZK {x y : Int} : leB x y = true ↔ x <= y := by unfold leB; simp
theorem ZG {x y : Int} : ltB x y = true ↔ x < y := by unfold ltB; simp
theorem Zf8 {p : Prop} {i : Decidable p} : (@decide p i = true) = p := propext ⟨fun h => of_decide_eq_true h, fun h => decide_eq_true h⟩
theorem p45 {G : Type} (a b : U G) : (ap2 45 a b).tP = (a.tI = b.tI) := by simp [ZkK]
theorem ZON {G : Type} (a b : U G) : (ap2 153 a b).tP = (a.tN = b.tN) := by simp [ZKM]
theorem p46 {G : Type} (a b : U G) : (ap2 46 a b).tP = (a.tI < b.tI) := Zf8
theorem p47 {G : Type} (a b : U G) : (ap2 47 a b).tP = (a.tI <= b.tI) := Zf8
theorem ZGy {G : Type} (a b : U G) : (ap1 2 (ap2 45 a b)).tP = ¬ (a.tI = b.tI) := by simp [ZHb, ZkK]
theorem p50 {G : Type} (a b : U G) : (ap2 50 a b).tP = (a.toBool = true \/ b.toBool = true) := by simp [ZTc]
theorem b46 {G : Type} (a b : U G) : ((ap2 46 a b).toBool = true) = (a.tI < b.tI) := p46 a b
theorem b47 {G : Type} (a b : U G) : ((ap2 47 a b).toBool = true) = (a.tI <= b.tI) := p47 a b
theorem p23 {G : Type} (a : U G) : (ap1 23 a).tP = (IntKind.min .i64 <= a.tI /\ a.tI <= IntKind.max .i64) := by
 rw [ZP9, U.tPi, Bool.and_eq_true, Zf8, Zf8]
end
/-! ### Bits of words without sign, and the check sum -/
end
end Go.Eng
namespace Go.Eng
noncomputable section
open Go.RowKit (Below)
open Go.ChangeShapes Go.WideShapes
theorem ZiG {H : Type} {enc : TypeId × Value -> H} {P : Program} {f : Func} {s : ChangeSpec} {apart Za2 handsOn again : Bool} {W W' : World} {args : Array Value} {v : Value} {ds gs : List (DataW H)} {before pa pv : List MemPlace}
  (hW : DataW.Whole enc P f.params.toList s.vars apart W args.toList ds gs before)
  (hres : ∀ (b : Nat) (sp : Nat -> Bool) (hd : Bool), DataW.TrodAll enc P W' b sp hd f.resultTypes.toList (v.resultList f.resultTypes.size) (s.fn H (ds ++ gs)).results [])
  (hargs : ∀ sp : Nat -> Bool, (∀ p ∈ before, sp p.block = true) -> DataW.TrodAll enc P W' 0 sp true f.params.toList args.toList (s.fn H (ds ++ gs)).args pa)
  (hvars : ∀ sp : Nat -> Bool, (∀ p ∈ before, sp p.block = true) -> DataW.TrodVars enc P W' sp s.vars (s.fn H (ds ++ gs)).vars pv)
  (hps : before = pa ++ pv) (hb : Below W.heap.size W W')
  (hok : ∀ (j : Nat) (t : TypeId) (r : Value), f.resultTypes[j]? = some t -> (v.resultList f.resultTypes.size)[j]? = some r -> Value.okWide P W' .any 0 t r) :
  s.post enc P f apart Za2 handsOn again W args v W' := by
 have hlt := fun p (hp : p ∈ before) => hW.lt p hp
 have hold : ∀ p ∈ before, (fun b => decide (b < W.heap.size)) p.block = true := fun p hp => by simpa using hlt p hp
 refine ⟨ds, gs, before, [], pa, pv, hW, hres _ _ _, hargs _ hold, hvars _ hold, World.keptBut_mono (fun p hp => ⟨hp, ?_⟩) (hb.frame (· ∈ before)), fun _ => ?_⟩
 ·rw [hps, List.mem_append] at hp; exact Or.inr hp
 ·obtain ⟨_, _, _, _, _, hz, hn⟩ := hW
  refine ⟨hok, _, _, ([] ++ pa) ++ pv, ⟨[] ++ pa, pv, trodAll_append (hargs _ (fun _ _ => rfl)) (hres _ _ _), hvars _ (fun _ _ => rfl), rfl, fun b off hp => ?_, fun ha => ?_⟩, fun p hp _ => ?_⟩
  ·have hp' : MemPlace.cell b off ∈ before := by rw [hps]; simpa using hp
   have h1 := hlt _ hp'
   rw [hb.frozen (p := ⟨b, off, none⟩) h1]
   exact hz b off hp'
  ·have := hn ha
   rw [hps] at this
   simpa using this
  ·rw [hps]; simpa using hp
theorem Zrt (w : World) : Sat w (Zb emp emp) w := by
 rw [emp_star]
 exact ⟨Hl.none, rfl, ⟨fun _ _ _ _ h => (by cases h), fun _ _ _ h => (by cases h), Below.refl _ _⟩⟩
end
end Go.Eng
namespace Go.Proofs.YtlcfjjjdhdfbdaaGreat
noncomputable section
open Go.Eng
def ai (n : Nat) : SX := .at .int n
def di (n : Nat) : SX := .at .int (1000000 + n)
def rA (n : Nat) : SX := .at .rows n
def iA (n : Nat) : SX := .at .ints n
def gA (n : Nat) : SX := .at .g n
def bA (n : Nat) : SX := .at .bytes n
def mA (n : Nat) : SX := .at .amap n
def qA (n : Nat) : SX := .at .bool n
def z0 : SX := .int 0
def Zbv : SX := .f1 152 (.int 0)
def nilB : SX := .f1 153 (.int 0)
def YD : SX := .f1 154 (.int 0)
def tk (x n : SX) : SX := .f2 115 x n
def tkI (x n : SX) : SX := .f2 113 x n
def tkB (x n : SX) : SX := .f2 114 x n
def ZA (x : SX) : SX := .f1 32 x
def Zb7 (x : SX) : SX := .f1 30 x
def ZP (x : SX) : SX := .f1 31 x
def eqS (a b : SX) : SX := .f2 155 a b
def usI (k : Nat) (a b c : SX) : SX := .us .int k a b c (.int 0)
def usB (k : Nat) (a b c : SX) : SX := .us .bool k a b c (.int 0)
def usR (k : Nat) (a b c : SX) : SX := .us .rows k a b c (.int 0)
def usN (k : Nat) (a b c : SX) : SX := .us .ints k a b c (.int 0)
def usG (k : Nat) (a b c : SX) : SX := .us .g k a b c (.int 0)
def usY (k : Nat) (a b c : SX) : SX := .us .bytes k a b c (.int 0)
def Zgf (a : SX) : SX := SX.mk2 40 a (.int 1)
def Zj (a b : SX) : SX := .f2 124 a b
def Yy (n : SX) : SX := .f2 122 n Zbv
def ZT (a b : SX) : SX := .f2 122 a (.f2 122 b Zbv)
def Yf (a b c : SX) : SX := .f2 122 a (ZT b c)
def ZdF (a b c d : SX) : SX := .f2 122 a (Yf b c d)
def ZbQ (a b c d e : SX) : SX := .f2 122 a (ZdF b c d e)
def Ze6 (a b c d e f : SX) : SX := .f2 122 a (ZbQ b c d e f)
def ZOP (b l c : SX) : SX := Yf b l c
def nt (x i : SX) (k : Nat) : SX := .f3 112 x i (.int (k : Nat))
def slC (b n c : SX) (s : Nat) : SC := .slice b z0 z0 z0 n c s
def sl1 (b n c : SX) : SC := slC b n c 1
def slR (b : Nat) : SC := .slice (ai b) (ai (b + 1)) z0 z0 (ai (b + 2)) (ai (b + 3)) 1
def slT : En := .rows [.slice 1]
def iE : En := .ints .i64
def iAr (b x c : SX) : Ch := .arr iE b x c
def bAr (b x c : SX) : Ch := .arr .bytes b x c
def slA (b y c : SX) : Ch := .arr slT b y c
def rdI (j : Nat) (b : Nat) : Ch := .rd j iE (ai b) (ai (b + 1)) (iA (b + 4)) (ai (b + 5))
def ZtS (j b : Nat) : Ch := .rd j .bytes (ai b) (ai (b + 1)) (bA (b + 4)) (ai (b + 5))
def g0 (r : List Int) : Int := r.getD 0 0
def g1 (r : List Int) : Int := r.getD 1 0
def g2 (r : List Int) : Int := r.getD 2 0
def slV (b n c : Int) : Value := .slice (if b < 0 then none else some ⟨b.toNat, 0, none⟩) n.toNat c.toNat
def Zz (p : Prop) : Bool := @decide p (Classical.propDecidable p)
theorem Zf {p : Prop} : (Zz p = true) = p := propext ⟨fun h => @of_decide_eq_true p (Classical.propDecidable p) h, fun h => @decide_eq_true p (Classical.propDecidable p) h⟩
def ZOD : Sig Unit := { dg := (), ch := fun _ => true, usr := fun _ _ _ _ _ => .int 0, prd := fun _ _ _ _ => emp }
def bAD (b : Int) (x : List UInt8) (c : Int) : HProp := ZM ZOD .bytes (.int b) (.bytes x) (.int c)
def iAD (b : Int) (x : List Int) (c : Int) : HProp := ZM ZOD iE (.int b) (.ints x) (.int c)
def rAD (e : En) (b : Int) (x : List (List Int)) (c : Int) : HProp := ZM ZOD e (.int b) (.rows x) (.int c)
section
variable {G : Type}
theorem ZaA (S : Sig G) (ρ : Go.Eng.Env G) (b n c : SX) (s : Nat) : (slC b n c s).den S ρ = slV (b.den S ρ).tI (n.den S ρ).tI (c.den S ρ).tI := by
 simp [slC, SC.den, slV, z0, SX.den]
theorem Zi (S : Sig G) (u : U G) : U.co S .int u = .int u.tI := rfl
theorem Zv (S : Sig G) (u : U G) : U.co S .bool u = .bool u.toBool := rfl
theorem ZQ (S : Sig G) (u : U G) : U.co S .ints u = .ints u.tN := rfl
theorem Zt (S : Sig G) (u : U G) : U.co S .rows u = .rows u.tR := rfl
theorem Zu (S : Sig G) (u : U G) : U.co S .bytes u = .bytes u.tB := rfl
theorem ZN (S : Sig G) (u : U G) : U.co S .amap u = .amap u.tM := rfl
theorem Zbf (S : Sig G) (x : G) : U.co S .g (.g x) = .g x := rfl
theorem ZO6 : IntKind.min .i64 = -9223372036854775808 := rfl
theorem ZRC : IntKind.max .i64 = 9223372036854775807 := rfl
theorem ZIq : Int.toNat 1 = 1 := rfl
theorem w_u8 (n : Int) : IntKind.u8.wrap n = n % 256 := by simp [IntKind.wrap, IntKind.bits, IntKind.signed]
def ZOy (a b : Int) : Int := if a < b then 1 else 0
theorem ZI0 (a b : U G) : ap1 3 (ap2 46 a b) = .int (ZOy a.tI b.tI) := by
 rw [ZJ2, t46]; unfold ZOy ltB
 by_cases h : a.tI < b.tI <;> simp [h]
theorem ZDj (c : Bool) (a b : U G) : (ap2 48 (.bool c) (ap2 155 a b)).tP = (c = true ↔ a = b) := by
 apply propext
 simp only [ap2, U.tP, U.toBool, beq_iff_eq]
 cases c <;> simp
theorem Zao (c d : Bool) : ((ap2 48 (.bool c) (.bool d)) : U G).tP = (c = d) := by
 apply propext
 simp only [ap2, U.tP, U.toBool, beq_iff_eq]
end
theorem Zag {α : Type} {R : List α} {d : α} {n j : Nat} (h : j < n) : (R.take n).getD j d = R.getD j d := by
 rw [ZUj, ZUj, List.getElem?_take_of_lt h]
theorem Zw {G : Type} (S : Sig G) {sp : Ctr} (H : ∀ (T : Sig G) (w0 : World) (ρ : Go.Eng.Env G) (h : Hl), T.usr = S.usr -> T.prd = S.prd -> T.dg = S.dg -> (∀ e ∈ sp.reqs, (e.den T ρ).tP) -> hpDen T ρ w0 sp.pre h →
  ∃ ρ', Ext sp.ss.length ρ ρ' /\ hpDen T ρ' w0 sp.post h /\ ∀ x ∈ sp.facts, (x.den T ρ').tP) : Z7 S sp := by
 intro ch w0 F ρ w hr hs
 obtain ⟨x, ⟨a, b, d, rfl, ha, hb⟩, hi⟩ := hs
 have e : ∀ (e : SX) ρ, e.den (S.wc ch) ρ = e.den S ρ := fun e ρ => SX.den_wc S ρ ch e
 obtain ⟨ρ', h1, h2, h3⟩ := H (S.wc ch) w0 ρ a rfl rfl rfl (fun q hq => by rw [e]; exact hr q hq) ha
 exact ⟨ρ', h1, ⟨_, ⟨a, b, d, rfl, h2, hb⟩, hi⟩, fun q hq => by rw [<- e]; exact h3 q hq⟩
theorem ZDb {G : Type} (S : Sig G) {sp : Ctr} (H : ∀ (T : Sig G) (w0 : World) (ρ : Go.Eng.Env G) (h : Hl), T.usr = S.usr -> T.prd = S.prd -> T.dg = S.dg -> (∀ e ∈ sp.reqs, (e.den T ρ).tP) -> hpDen T ρ w0 sp.pre h →
  ∃ ρ' J, Ext sp.ss.length ρ ρ' /\ Zb J (hpDen T ρ' w0 sp.post) h /\ ∀ x ∈ sp.facts, (x.den T ρ').tP) : Z7 S sp := by
 intro ch w0 F ρ w hr hs
 obtain ⟨x, ⟨a, b, d, rfl, ha, hb⟩, hi⟩ := hs
 have e : ∀ (e : SX) ρ, e.den (S.wc ch) ρ = e.den S ρ := fun e ρ => SX.den_wc S ρ ch e
 obtain ⟨ρ', J, h1, h2, h3⟩ := H (S.wc ch) w0 ρ a rfl rfl rfl (fun q hq => by rw [e]; exact hr q hq) ha
 have hs2 : Sat w0 (Zb (Zb J (hpDen (S.wc ch) ρ' w0 sp.post)) F) w := ⟨_, ⟨a, b, d, rfl, h2, hb⟩, hi⟩
 rw [star_assoc] at hs2
 exact ⟨ρ', h1, hs2.drop, fun q hq => by rw [<- e]; exact h3 q hq⟩
theorem ZcR {G : Type} {S : Sig G} {e : En} {b x c : U G} {h : Hl} (hd : ZM S e b x c h) : (e.vals x).length <= c.tI.toNat * e.stride /\ 0 <= c.tI := by
 obtain ⟨sp, h1, h2, _⟩ := hd; exact ⟨by omega, h2⟩
theorem ZGp {G : Type} (f : Go.Eng.Fd) (x : List (List Int)) : ((En.rows [f]).vals (.rows x : U G)).length = x.length := by
 simp only [En.vals, U.tRi]
 induction x with
 | nil => rfl
 | cons r x ih => rw [List.flatMap_cons, ZUo, ih, Yh]; simp; omega
theorem ZFW {G : Type} (fs : List Go.Eng.Fd) (x : List (List Int)) : ((En.rows fs).vals (.rows x : U G)).length = x.length * fs.length := by
 simp only [En.vals, U.tRi]
 induction x with
 | nil => simp
 | cons r x ih => rw [List.flatMap_cons, ZUo, ih, Yh, ZUD, Nat.add_mul]; omega
theorem Zfr {fs : List Go.Eng.Fd} (hf : 0 < fs.length) {b c : Int} {x : List (List Int)} {h : Hl} (hd : rAD (.rows fs) b x c h) : (x.length : Int) <= c := by
 obtain ⟨h1, h2⟩ := ZcR hd
 rw [ZFW] at h1
 have : x.length <= c.toNat := Nat.le_of_mul_le_mul_right h1 hf
 have h2 : 0 <= c := h2
 omega
theorem Zgy {b c : Int} {x : List UInt8} {h : Hl} (hd : bAD b x c h) : (x.length : Int) <= c := by
 obtain ⟨h1, h2⟩ := ZcR hd
 have e1 : (En.bytes.vals (.bytes x : U Unit)).length = x.length := by simp [En.vals]
 have e2 : En.bytes.stride = 1 := rfl
 rw [e1, e2] at h1
 have h2 : 0 <= c := h2
 have h1 : x.length <= c.toNat * 1 := h1
 omega
theorem ZfV {b c : Int} {x : List UInt8} {h : Hl} (n : Nat) (hd : bAD b x c h) : bAD b (x.take n) c h := by
 obtain ⟨sp, h1, h2, h3, h4⟩ := hd
 have e : ∀ y : List UInt8, En.bytes.vals (.bytes y : U Unit) = y.map fun b => Value.int .u8 (b.toNat : Nat) := fun _ => rfl
 refine ⟨(x.drop n).map (fun b => Value.int .u8 (b.toNat : Nat)) ++ sp, ?_, h2, h3, ?_⟩
 ·rw [e] at h1 ⊢
  rw [ZUt] at h1 ⊢
  rw [ZUo, ZUt, ZUl, ZUx]; omega
 ·rw [e] at h4 ⊢
  rw [<- ZUH, <- ZUz, List.take_append_drop]
  exact h4
theorem Zci (fs : List Go.Eng.Fd) : rAD (.rows fs) (-1) [] 0 = emp := by
 funext h
 have e0 : (En.rows fs).vals (.rows [] : U Unit) = [] := rfl
 refine propext ⟨fun hx => ?_, fun hx => ⟨[], by rw [e0]; simp, ZUu 0, .inr rfl, by rw [e0]; show row _ 0 [] true h; rw [Zbs]; exact hx⟩⟩
 obtain ⟨sp, l1, _, _, l4⟩ := hx
 have : sp = [] := ZUy (by rw [e0] at l1; simpa using l1)
 subst this
 rw [e0] at l4
 have l4 : row _ 0 [] true h := l4
 rw [Zbs] at l4
 exact l4
theorem ZNH : bAD (-1) [] 0 = emp := by
 funext h
 refine propext ⟨fun hx => ?_, fun hx => ⟨[], rfl, ZUu 0, .inr rfl, by show row _ 0 [] true h; rw [Zbs]; exact hx⟩⟩
 obtain ⟨sp, l1, _, _, l4⟩ := hx
 have : sp = [] := ZUy (by have : (En.bytes.vals (.bytes [] : U Unit)).length = 0 := rfl; rw [this] at l1; simpa using l1)
 subst this
 have l4 : row _ 0 [] true h := l4
 rw [Zbs] at l4
 exact l4
theorem ZpC : iAD (-1) [] 0 = emp := by
 funext h
 refine propext ⟨fun hx => ?_, fun hx => ⟨[], rfl, ZUu 0, .inr rfl, by show row _ 0 [] true h; rw [Zbs]; exact hx⟩⟩
 obtain ⟨sp, l1, _, _, l4⟩ := hx
 have : sp = [] := ZUy (by have : (iE.vals (.ints [] : U Unit)).length = 0 := rfl; rw [this] at l1; simpa using l1)
 subst this
 have l4 : row _ 0 [] true h := l4
 rw [Zbs] at l4
 exact l4
theorem Yt {A B B' : HProp} {h : Hl} (hs : Zb A B h) (f : ∀ h, B h -> B' h) : Zb A B' h := Zy (fun _ x => x) f h hs
theorem Zo {A B : HProp} {h : Hl} (hs : Zb A B h) : ∃ a b, A a /\ B b := let ⟨a, b, _, _, x, y⟩ := hs; ⟨a, b, x, y⟩
theorem ZO {α : Type} {k : List α} {d : α} {i : Nat} (hi : i < k.length) : k = k.take i ++ ([k.getD i d] ++ k.drop (i + 1)) := by
 rw [List.singleton_append, ZUj, ZUm hi, Option.getD_some, <- List.drop_eq_getElem_cons hi, List.take_append_drop]
def ZNX : Ctr := ⟨[], [], [], [], [], .tup [], [iAr (.int (-1)) Zbv z0], []⟩
def Ztn : Ctr := ⟨[], [], [], [], [], .tup [], [bAr (.int (-1)) nilB z0], []⟩
def emSC : Ctr := ⟨[], [], [], [], [], .tup [], [slA (.int (-1)) YD z0], []⟩
theorem Zri {G : Type} (S : Sig G) : Z7 S ZNX := by
 refine Zw S fun T w0 ρ h hu hp hd hr hpre => ⟨ρ, Ext.refl _ _, ?_, by intro x hx; exact nomatch hx⟩
 have e1 : hpDen T ρ w0 ZNX.pre = emp := rfl
 have e2 : hpDen T ρ w0 ZNX.post = Zb (iAD (-1) [] 0) emp := rfl
 rw [e1] at hpre
 rw [e2, Za, ZpC]; exact hpre
theorem Zcx {G : Type} (S : Sig G) : Z7 S Ztn := by
 refine Zw S fun T w0 ρ h hu hp hd hr hpre => ⟨ρ, Ext.refl _ _, ?_, by intro x hx; exact nomatch hx⟩
 have e1 : hpDen T ρ w0 Ztn.pre = emp := rfl
 have e2 : hpDen T ρ w0 Ztn.post = Zb (bAD (-1) [] 0) emp := rfl
 rw [e1] at hpre
 rw [e2, Za, ZNH]; exact hpre
theorem ZPC {G : Type} (S : Sig G) : Z7 S emSC := by
 refine Zw S fun T w0 ρ h hu hp hd hr hpre => ⟨ρ, Ext.refl _ _, ?_, by intro x hx; exact nomatch hx⟩
 have e1 : hpDen T ρ w0 emSC.pre = emp := rfl
 have e2 : hpDen T ρ w0 emSC.post = Zb (rAD slT (-1) [] 0) emp := rfl
 rw [e1] at hpre
 rw [e2, Za, slT, Zci]; exact hpre
/-! ### What the run is told, piece by piece -/
section
variable {G : Type} (S : Sig G) (P : Program)
def YK : List (Nat × List Ctr) -> Prop
 | [] => True
 | p :: l => (∀ sp ∈ p.2, sp.wf = true /\ Zs S P p.1 sp) /\ YK l
def Zp7 : List (Nat × List Ctr) -> Prop
 | [] => True
 | p :: l => (∀ sp ∈ p.2, sp.wf = true /\ ZnN S P p.1 sp) /\ Zp7 l
def AnnOk : Ann -> Prop
 | .ghost sp _ => sp.wf = true /\ Z7 S sp
 | .inv _ => True
 | .split _ => True
 | .iff _ => True
 | .cut _ _ _ _ => True
def Zzm : List (Nat × Ann) -> Prop
 | [] => True
 | p :: l => AnnOk S p.2 /\ Zzm l
def ZqK : List (Nat × List (Nat × Ann)) -> Prop
 | [] => True
 | p :: l => Zzm S p.2 /\ ZqK l
variable {S} {P}
theorem YK.get {f : Nat} {sps : List Ctr} : ∀ {l : List (Nat × List Ctr)}, YK S P l -> ZbR l f = some sps -> ∀ sp ∈ sps, sp.wf = true /\ Zs S P f sp
 | [], _, h => by cases h
 | (i, a) :: l, h1, h => by
  unfold ZbR at h
  cases hb : Nat.beq i f
  ·rw [hb] at h; exact h1.2.get h
  ·rw [hb] at h; cases h; rw [<- ZUk hb]; exact h1.1
theorem Zp7.get {f : Nat} {sps : List Ctr} : ∀ {l : List (Nat × List Ctr)}, Zp7 S P l -> ZbR l f = some sps -> ∀ sp ∈ sps, sp.wf = true /\ ZnN S P f sp
 | [], _, h => by cases h
 | (i, a) :: l, h1, h => by
  unfold ZbR at h
  cases hb : Nat.beq i f
  ·rw [hb] at h; exact h1.2.get h
  ·rw [hb] at h; cases h; rw [<- ZUk hb]; exact h1.1
theorem Zzm.get {i : Nat} {sp : Ctr} {args : List Operand} : ∀ {l : List (Nat × Ann)}, Zzm S l -> (i, Ann.ghost sp args) ∈ l -> sp.wf = true /\ Z7 S sp
 | [], _, h => by cases h
 | p :: l, h1, h => by
  rcases List.mem_cons.1 h with rfl | h
  ·exact h1.1
  ·exact h1.2.get h
theorem ZqK.get {f : Nat} {al : List (Nat × Ann)} : ∀ {l : List (Nat × List (Nat × Ann))}, ZqK S l -> ZbR l f = some al -> Zzm S al
 | [], _, h => by cases h
 | (i, a) :: l, h1, h => by
  unfold ZbR at h
  cases hb : Nat.beq i f
  ·rw [hb] at h; exact h1.2.get h
  ·rw [hb] at h; cases h; exact h1.1
theorem Zx {C : Cx} (h1 : YK S P C.specs) (h2 : ZqK S C.anns) (h3 : Zp7 S P C.exts) : ZtO S P C :=
 ⟨fun f sps h => h1.get h, fun f l h i sp args hm => (h2.get h).get hm, fun f sps h => h3.get h⟩
theorem Zc {f : Nat} {sp : Ctr} (hw : sp.wf = true) (h : Zs S P f sp) : ∀ q ∈ [sp], q.wf = true /\ Zs S P f q := by
 intro q hq; rw [List.mem_singleton] at hq; subst hq; exact ⟨hw, h⟩
end
open Go.Eng
abbrev z : SX := .int 0
abbrev k (n : Int) : SX := .int n
abbrev e (a b : SX) : SX := .f2 45 a b
abbrev t (a b : SX) : SX := .f2 46 a b
abbrev l (a b : SX) : SX := .f2 47 a b
abbrev i (e : SX) (k : VC) : VC := .imp e k
abbrev n (e : SX) (k : VC) : VC := .need e k
abbrev u (n : Nat) (s : Srt) (k : VC) : VC := .all n s k
abbrev k0 : SX := .int 1099511627776
abbrev k1 : SX := .int 140737488355328
abbrev k2 : SX := .int 4611686018427387904
abbrev k3 : SX := .int 2305843009213693952
abbrev k4 : SX := .int 549755813888
abbrev k5 : SX := .int 67108864
abbrev k6 : SX := .int 1073741824
abbrev k7 : SX := .int 4294967296
abbrev k8 : SX := .int 4294967400
abbrev k9 : SX := .int 536870912
abbrev a (n : Nat) : SX := .at .int n
abbrev v (k : Nat) (x : SX) : SX := .us .int k x z z z
abbrev d (k : Nat) (x y : SX) : SX := .us .int k x y z z
abbrev x (k : Nat) (x y w : SX) : SX := .us .int k x y w z
abbrev q (n : Nat) : SX := .at .bool n
abbrev p (k : Nat) (x : SX) : SX := .us .bool k x z z z
abbrev c (k : Nat) (x y : SX) : SX := .us .bool k x y z z
abbrev y (k : Nat) (x y w : SX) : SX := .us .bool k x y w z
abbrev g (n : Nat) : SX := .at .g n
abbrev w (k : Nat) (x : SX) : SX := .us .g k x z z z
abbrev f (k : Nat) (x y : SX) : SX := .us .g k x y z z
abbrev h (k : Nat) (x y w : SX) : SX := .us .g k x y w z
abbrev b (n : Nat) : SX := .at .bytes n
abbrev j (k : Nat) (x : SX) : SX := .us .bytes k x z z z
abbrev wB (k : Nat) (x y : SX) : SX := .us .bytes k x y z z
abbrev hB (k : Nat) (x y w : SX) : SX := .us .bytes k x y w z
abbrev s (n : Nat) : SX := .at .ints n
abbrev o (k : Nat) (x : SX) : SX := .us .ints k x z z z
abbrev wN (k : Nat) (x y : SX) : SX := .us .ints k x y z z
abbrev hN (k : Nat) (x y w : SX) : SX := .us .ints k x y w z
abbrev r (n : Nat) : SX := .at .rows n
abbrev vR (k : Nat) (x : SX) : SX := .us .rows k x z z z
abbrev wR (k : Nat) (x y : SX) : SX := .us .rows k x y z z
abbrev hR (k : Nat) (x y w : SX) : SX := .us .rows k x y w z
abbrev m (n : Nat) : SX := .at .amap n
abbrev vM (k : Nat) (x : SX) : SX := .us .amap k x z z z
abbrev wM (k : Nat) (x y : SX) : SX := .us .amap k x y z z
abbrev hM (k : Nat) (x y w : SX) : SX := .us .amap k x y w z
abbrev sB := (And.intro @U.bool.injEq (And.intro @U.bytes.injEq (And.intro @U.ints.injEq (And.intro @U.rows.injEq (And.intro @U.tQi (And.intro @U.tBi (And.intro @U.tIi (And.intro @U.tNi (And.intro @U.tPi (And.intro @U.tRi (And.intro @ZV (And.intro @ZLH (And.intro @ZiX (And.intro @ZHb (And.intro @Za1 (And.intro @Y8 (And.intro @Zxg (And.intro @Zhi (And.intro @ZeI (And.intro @ZM9 (And.intro @ZI7 (And.intro @Zwx (And.intro @ZIh (And.intro @ZR9 (And.intro @ZkC (And.intro @ZkK (And.intro @ZLg (And.intro @YE (And.intro @b46 (And.intro @b47 (And.intro @Zv (And.intro @Zu (And.intro @Zi (And.intro @ZQ (And.intro @Zt (And.intro @ZRC (And.intro @ZO6 (And.intro @ZON (And.intro @ZfH (And.intro @p23 (And.intro @ZGy (And.intro @p45 (And.intro @p46 (And.intro @p47 (And.intro @p50 (And.intro @t46 @t47))))))))))))))))))))))))))))))))))))))))))))))
abbrev sC := (And.intro @U.int.injEq (And.intro @U.tMi (And.intro @Zcs (And.intro @ZS (And.intro @Zeb (And.intro @Z2 (And.intro @ZB (And.intro @Zcq (And.intro @ZR (And.intro @ZW (And.intro @ZI (And.intro @ZJ (And.intro @ZeO (And.intro @Z3 (And.intro @Zog (And.intro @ZH (And.intro @ZiY (And.intro @Zbf (And.intro @ZN (And.intro @ZK (And.intro @ZG (And.intro @Zao @Zf))))))))))))))))))))))
end
end Go.Proofs.YtlcfjjjdhdfbdaaGreat
namespace Go.Proofs.YtlcfjjjdhdfbdaaGreat
open Go.Eng
structure Dv where
 page : Int
 safe : List UInt8
 w : List (Int × List UInt8)
 down : Bool
 acts : Int
 keep : List Int
 torn : Int
 at' : Int
 rd : Int
 wr : Int
 sy : Int
def dv0 : Dv := ⟨0, [], [], false, 0, [], 0, 0, 0, 0, 0⟩
def ZJ8 (p : Int) : Bool := p == 512 || p == 1024 || p == 2048 || p == 4096 || p == 8192 || p == 16384 || p == 32768 || p == 65536
def Dv.pages (d : Dv) : Int := (d.safe.length : Int).tdiv d.page
def Zaw (n : Int) : Int -> List (Int × List UInt8) -> Int -> Int
 | _, [], a => a
 | i, p :: l, a => Zaw n (i + 1) l (if p.1 = n then i else a)
def Dv.last (d : Dv) (n : Int) : Int := Zaw n 0 d.w (-1)
def Dv.dat (d : Dv) (i : Int) : List UInt8 := (d.w.getD i.toNat (0, [])).2
def Dv.pg (d : Dv) (i : Int) : Int := (d.w.getD i.toNat (0, [])).1
def Dv.place (d : Dv) (n : Int) : List UInt8 := (d.safe.drop (n * d.page).toNat).take d.page.toNat
def Dv.read (d : Dv) (n : Int) : List UInt8 := if 0 <= d.last n then d.dat (d.last n) else d.place n
def Dv.ref (d : Dv) (n : Int) : Int := bif d.down then 3 else (if n < 0 \/ d.pages <= n then 30 else 0)
def ZdV (s : List UInt8) (p : Nat) (x : List UInt8) : List UInt8 := s.take p ++ (x ++ s.drop (p + x.length))
def ZeW (d : Dv) (i : Int) : Int := if i = d.torn then Zkt (Zbd d.at' 0) d.page else if d.keep.contains i = true then d.page else 0
def Zcd (d : Dv) : Int -> List (Int × List UInt8) -> List UInt8 -> List UInt8
 | _, [], s => s
 | i, p :: l, s => Zcd d (i + 1) l (ZdV s (p.1 * d.page).toNat (p.2.take (ZeW d i).toNat))
def Dv.fall (d : Dv) : Dv := { d with safe := Zcd d 0 d.w d.safe, w := [], down := true, acts := -1 }
def Zbx (a : Int) : Int := Zbd (a + -1) (-1)
def Dv.writ (d : Dv) (n : Int) (x : List UInt8) : Dv :=
 let e := { d with wr := d.wr + 1, w := d.w ++ [(n, x)] }
 if d.acts = 0 then e.fall else { e with acts := Zbx d.acts }
def Dv.wrE (d : Dv) (n : Int) (x : List UInt8) : Int := if d.ref n ≠ 0 then d.ref n else if (x.length : Int) ≠ d.page then 31 else if d.acts = 0 then 3 else 0
def Dv.wrD (d : Dv) (n : Int) (x : List UInt8) : Dv := if d.ref n ≠ 0 then d else if (x.length : Int) ≠ d.page then d else d.writ n x
def Dv.rdD (d : Dv) (n : Int) : Dv := if d.ref n ≠ 0 then d else { d with rd := d.rd + 1 }
def Dv.rdB (d : Dv) (n : Int) : List UInt8 := if d.ref n ≠ 0 then [] else d.read n
def ZtQ (pg : Int) : List (Int × List UInt8) -> List UInt8 -> List UInt8
 | [], s => s
 | p :: l, s => ZtQ pg l (ZdV s (p.1 * pg).toNat p.2)
def Dv.image (d : Dv) : List UInt8 := ZtQ d.page d.w d.safe
def Dv.sync (d : Dv) : Dv :=
 if d.down then d else
  let e := { d with sy := d.sy + 1 }
  if d.acts = 0 then e.fall else { e with acts := Zbx d.acts, safe := d.image, w := [] }
def Dv.syE (d : Dv) : Int := if d.down then 3 else if d.acts = 0 then 3 else 0
def Dv.start (d : Dv) : Dv := { d with down := false }
def Dv.arm (d : Dv) (n : Int) (k : List Int) (t a : Int) : Dv := if d.down then d else { d with acts := Zbd n (-1), keep := k, torn := t, at' := a }
structure GoodD (d : Dv) : Prop where
 size : ZJ8 d.page = true
 pgs : ∃ k : Nat, 4 <= k /\ k <= 65536 /\ d.safe.length = k * d.page.toNat /\ d.safe.length <= 67108864
 w : ∀ p ∈ d.w, 0 <= p.1 /\ p.1 < d.pages /\ (p.2.length : Int) = d.page
 acts : -1 <= d.acts /\ d.acts <= 9223372036854775807
 cnt : 0 <= d.rd /\ 0 <= d.wr /\ 0 <= d.sy
theorem ZcN {p : Int} (h : ZJ8 p = true) : 512 <= p /\ p <= 65536 := by simp only [ZJ8, Bool.or_eq_true, beq_iff_eq] at h; omega
theorem GoodD.pages {d : Dv} (h : GoodD d) : 4 <= d.pages /\ d.pages <= 65536 /\ (d.safe.length : Int) = d.pages * d.page /\ d.safe.length <= 67108864 := by
 obtain ⟨k, k1, k2, k3, k4⟩ := h.pgs
 have hp := ZcN h.size
 have e : (d.safe.length : Int) = (k : Int) * d.page := by rw [k3, Int.natCast_mul, Int.toNat_of_nonneg (by omega)]
 have e2 : d.pages = k := by
  unfold Dv.pages
  rw [e, Int.mul_tdiv_cancel _ (by omega)]
 rw [e2]
 exact ⟨by omega, by omega, e, k4⟩
theorem Zek {s x : List UInt8} {p : Nat} (h : p + x.length <= s.length) : (ZdV s p x).length = s.length := by
 unfold ZdV
 rw [ZUo, ZUo, ZUl, ZUx]; omega
theorem Yn {n k p : Int} (h0 : 0 <= n) (h1 : n < k) (hp : 0 <= p) : 0 <= n * p /\ n * p + p <= k * p := by
 refine ⟨Int.mul_nonneg h0 hp, ?_⟩
 have : (n + 1) * p <= k * p := Int.mul_le_mul_of_nonneg_right (by omega) hp
 rw [Int.add_mul, Int.one_mul] at this; exact this
theorem ZfW (n : Int) : ∀ (l : List (Int × List UInt8)) (i a : Int), Zaw n i l a = a \/ (i <= Zaw n i l a /\ Zaw n i l a < i + l.length)
 | [], _, _ => .inl rfl
 | p :: l, i, a => by
  have hl : ((p :: l).length : Int) = l.length + 1 := by simp
  show Zaw n (i + 1) l (if p.1 = n then i else a) = a \/ (i <= Zaw n (i + 1) l (if p.1 = n then i else a) /\ Zaw n (i + 1) l (if p.1 = n then i else a) < i + ((p :: l).length : Nat))
  by_cases h : p.1 = n
  ·rw [if_pos h]
   rcases ZfW n l (i + 1) i with e | ⟨e1, e2⟩
   ·right; rw [e]; omega
   ·right; omega
  ·rw [if_neg h]
   rcases ZfW n l (i + 1) a with e | ⟨e1, e2⟩
   ·exact .inl e
   ·right; omega
theorem Zgj (d : Dv) (n : Int) : -1 <= d.last n /\ d.last n < d.w.length := by
 rcases ZfW n d.w 0 (-1) with e | ⟨e1, e2⟩
 ·unfold Dv.last; rw [e]; omega
 ·unfold Dv.last; omega
theorem Zho (n : Int) (m : List (Int × List UInt8)) : ∀ (l : List (Int × List UInt8)) (i a : Int), Zaw n i (l ++ m) a = Zaw n (i + l.length) m (Zaw n i l a)
 | [], i, a => by simp [Zaw]
 | p :: l, i, a => by
  show Zaw n (i + 1) (l ++ m) _ = Zaw n (i + ((p :: l).length : Nat)) m (Zaw n (i + 1) l _)
  rw [Zho n m l, show i + 1 + (l.length : Int) = i + ((p :: l).length : Nat) by simp only [ZUD]; omega]
def Zdi (m : List (Int × Int)) (w : List (Int × List UInt8)) : Prop := ∀ n, Y5 (-1) m n = Zaw n 0 w (-1)
theorem ZGO {m : List (Int × Int)} {n d : Int} (h : Yl m n = false) : Y5 d m n = d := by
 induction m with
 | nil => rfl
 | cons p m ih =>
  obtain ⟨a, b⟩ := p
  simp only [Yl] at h
  by_cases e : a = n
  ·rw [if_pos e] at h; cases h
  ·rw [if_neg e] at h; simp only [Y5]; rw [if_neg e]; exact ih h
theorem ZF8 {m : List (Int × Int)} {n d e : Int} (h : Yl m n = true) : Y5 d m n = Y5 e m n := by
 induction m with
 | nil => cases h
 | cons p m ih =>
  obtain ⟨a, b⟩ := p
  simp only [Yl] at h
  simp only [Y5]
  by_cases e : a = n
  ·rw [if_pos e, if_pos e]
  ·rw [if_neg e] at h; rw [if_neg e, if_neg e]; exact ih h
def ZEJ (m : List (Int × Int)) : Prop := ∀ p ∈ m, 0 <= p.2
theorem ZFb {m : List (Int × Int)} (hm : ZEJ m) {n d : Int} (h : Yl m n = true) : 0 <= Y5 d m n := by
 induction m with
 | nil => cases h
 | cons p m ih =>
  obtain ⟨a, b⟩ := p
  simp only [Yl] at h
  simp only [Y5]
  by_cases e : a = n
  ·rw [if_pos e]; exact hm (a, b) ZUr
  ·rw [if_neg e] at h ⊢; exact ih (fun q hq => hm q (ZUp _ hq)) h
theorem ZF6 {m : List (Int × Int)} (hm : ZEJ m) {n v : Int} (h : 0 <= v) : ZEJ (Zai m n v) := by
 induction m with
 | nil => intro p hp; simp [Zai] at hp; subst hp; exact h
 | cons p m ih =>
  obtain ⟨a, b⟩ := p
  intro q hq
  simp only [Zai] at hq
  by_cases e : a = n
  ·rw [if_pos e] at hq
   rcases List.mem_cons.1 hq with rfl | hq
   ·exact h
   ·exact hm q (ZUp _ hq)
  ·rw [if_neg e] at hq
   rcases List.mem_cons.1 hq with rfl | hq
   ·exact hm _ ZUr
   ·exact ih (fun q hq => hm q (ZUp _ hq)) q hq
theorem Zec {d : Dv} {m : List (Int × Int)} (hl : Zdi m d.w) (hm : ZEJ m) (n : Int) : (Yl m n = true ↔ 0 <= d.last n) /\ (Yl m n = true -> Y5 0 m n = d.last n) := by
 have e := hl n
 have e : Y5 (-1) m n = d.last n := e
 cases h : Yl m n
 ·rw [ZGO h] at e
  exact ⟨⟨(fun h => by cases h), fun h => absurd h (by omega)⟩, (fun h => by cases h)⟩
 ·have hp := ZFb hm (d := -1) h
  exact ⟨⟨fun _ => by omega, fun _ => rfl⟩, fun _ => by rw [ZF8 h (d := 0) (e := -1)]; exact e⟩
def ZsH (p : Int) (X : List UInt8) (n : Int) : List UInt8 := (X.drop (n * p).toNat).take p.toNat
def ZtH (d : Dv) (X : List UInt8) (left : List (Int × Int)) : Prop := X.length = d.safe.length /\ ∀ n, 0 <= n -> n < d.pages -> ZsH d.page X n = if Yl left n = true then d.place n else d.read n
def ZOA (a m : List (Int × Int)) : Prop := (a.map (·.1)).Nodup /\ ∀ n, Yl a n = true -> Yl m n = true /\ Y5 0 a n = Y5 0 m n
theorem Zf5 {m : List (Int × Int)} {n : Int} : Yl m n = true ↔ n ∈ m.map (·.1) := by
 induction m with
 | nil => simp [Yl]
 | cons p m ih =>
  obtain ⟨a, b⟩ := p
  simp only [Yl, ZUs, List.mem_cons]
  by_cases e : a = n
  ·rw [if_pos e]; simp [e]
  ·rw [if_neg e, ih]; simp [Ne.symm e]
theorem Zum {m : List (Int × Int)} {k : Int} : ∀ {q}, q ∈ Zay m k -> q ∈ m := by
 induction m with
 | nil => intro q hq; exact hq
 | cons p m ih =>
  obtain ⟨a, b⟩ := p
  intro q hq
  simp only [Zay] at hq
  by_cases e : a = k
  ·rw [if_pos e] at hq; exact ZUp _ hq
  ·rw [if_neg e] at hq
   rcases List.mem_cons.1 hq with rfl | hq
   ·exact ZUr
   ·exact ZUp _ (ih hq)
theorem Zs0 {m : List (Int × Int)} {k : Int} (h : (m.map (·.1)).Nodup) : ((Zay m k).map (·.1)).Nodup := by
 induction m with
 | nil => exact h
 | cons p m ih =>
  obtain ⟨a, b⟩ := p
  rw [ZUs, List.nodup_cons] at h
  simp only [Zay]
  by_cases e : a = k
  ·rw [if_pos e]; exact h.2
  ·rw [if_neg e, ZUs, List.nodup_cons]
   refine ⟨fun hm => h.1 ?_, ih h.2⟩
   obtain ⟨q, hq, he⟩ := List.mem_map.1 hm
   exact List.mem_map.2 ⟨q, Zum hq, he⟩
theorem ZbU {m : List (Int × Int)} {k n : Int} (h : (m.map (·.1)).Nodup) : Yl (Zay m k) n = true ↔ (Yl m n = true /\ n ≠ k) := by
 induction m with
 | nil => simp [Zay, Yl]
 | cons p m ih =>
  obtain ⟨a, b⟩ := p
  rw [ZUs, List.nodup_cons] at h
  simp only [Zay]
  by_cases e : a = k
  ·rw [if_pos e]
   subst e
   simp only [Yl]
   by_cases e2 : a = n
   ·rw [if_pos e2]
    refine ⟨fun hm => absurd (Zf5.1 hm) (by rw [<- e2]; exact h.1), fun hm => absurd e2.symm hm.2⟩
   ·rw [if_neg e2]; exact ⟨fun hm => ⟨hm, fun h => e2 h.symm⟩, fun hm => hm.1⟩
  ·rw [if_neg e]
   simp only [Yl]
   by_cases e2 : a = n
   ·rw [if_pos e2, if_pos e2]; exact ⟨fun _ => ⟨rfl, by rw [<- e2]; exact e⟩, fun _ => rfl⟩
   ·rw [if_neg e2, if_neg e2]; exact ih h.2
theorem ZE1 {m : List (Int × Int)} {k n d : Int} (h : n ≠ k) : Y5 d (Zay m k) n = Y5 d m n := by
 induction m with
 | nil => rfl
 | cons p m ih =>
  obtain ⟨a, b⟩ := p
  simp only [Zay]
  by_cases e : a = k
  ·rw [if_pos e]; simp only [Y5]; rw [if_neg (by rw [e]; exact h.symm)]
  ·rw [if_neg e]; simp only [Y5]; by_cases e2 : a = n
   ·rw [if_pos e2, if_pos e2]
   ·rw [if_neg e2, if_neg e2]; exact ih
theorem ZjO {m : List (Int × Int)} {k : Int} (h : Yl m k = true) : (Zay m k).length + 1 = m.length := by
 induction m with
 | nil => cases h
 | cons p m ih =>
  obtain ⟨a, b⟩ := p
  simp only [Yl] at h
  simp only [Zay]
  by_cases e : a = k
  ·rw [if_pos e]; rfl
  ·rw [if_neg e] at h ⊢; rw [ZUD, ZUD, ih h]
theorem ZgI {X x : List UInt8} {p n k K : Int} (hp : 0 < p) (hX : (X.length : Int) = K * p) (hx : (x.length : Int) = p) (k0 : 0 <= k) (k1 : k < K) (n0 : 0 <= n) (n1 : n < K) :
  ZsH p (ZdV X (k * p).toNat x) n = if n = k then x else ZsH p X n := by
 have hk := Yn k0 k1 (Int.le_of_lt hp)
 have hn := Yn n0 n1 (Int.le_of_lt hp)
 unfold ZsH ZdV
 have hl : (X.take (k * p).toNat).length = (k * p).toNat := by rw [ZUl]; omega
 by_cases e : n = k
 ·subst e
  rw [if_pos rfl, List.drop_append_of_le_length (by omega), List.drop_of_length_le (by omega), List.nil_append, List.take_append_of_le_length (by omega), ZUv (by omega)]
 ·rw [if_neg e]
  by_cases hlt : n < k
  ·have h1 := Yn n0 (show n < k from hlt) (Int.le_of_lt hp)
   rw [List.drop_append_of_le_length (by omega), List.take_append_of_le_length (by rw [ZUx, hl]; omega), List.drop_take, List.take_take, Nat.min_eq_left (by omega)]
  ·have h1 := Yn k0 (show k < n by omega) (Int.le_of_lt hp)
   rw [List.drop_append, List.drop_of_length_le (by omega), List.nil_append, hl, List.drop_append, List.drop_of_length_le (by omega), List.nil_append, List.drop_drop]
   congr 2
   omega
theorem ZDQ {X Y : List UInt8} {p K : Int} (hp : 0 < p) (hX : (X.length : Int) = K * p) (hY : (Y.length : Int) = K * p) (h : ∀ n, 0 <= n -> n < K -> ZsH p X n = ZsH p Y n) : X = Y := by
 refine List.ext_getElem? fun i => ?_
 by_cases hi : i < X.length
 ·have hq0 : 0 <= (i : Int) / p := Int.ediv_nonneg (by omega) (by omega)
  have hm := Int.emod_add_mul_ediv (i : Int) p
  have hm0 := Int.emod_nonneg (i : Int) (show p ≠ 0 by omega)
  have hm1 := Int.emod_lt_of_pos (i : Int) hp
  have hq1 : (i : Int) / p < K := Int.ediv_lt_of_lt_mul hp (by omega)
  have he := congrArg (fun l : List UInt8 => l[((i : Int) % p).toNat]?) (h _ hq0 hq1)
  have hc : p * ((i : Int) / p) = (i : Int) / p * p := Int.mul_comm _ _
  have hip := Yn hq0 hq1 (Int.le_of_lt hp)
  simp only [ZsH] at he
  rw [List.getElem?_take_of_lt (by omega), List.getElem?_take_of_lt (by omega), ZUI, ZUI, show ((i : Int) / p * p).toNat + ((i : Int) % p).toNat = i by omega] at he
  exact he
 ·rw [List.getElem?_eq_none (by omega), List.getElem?_eq_none (by omega)]
theorem ZjK {p K : Int} (hp : 0 < p) : ∀ (l : List (Int × List UInt8)) (s : List UInt8), (s.length : Int) = K * p -> (∀ q ∈ l, 0 <= q.1 /\ q.1 < K /\ (q.2.length : Int) = p) -> ((ZtQ p l s).length : Int) = K * p
 | [], _, h, _ => h
 | q :: l, s, h, hq => by
  have h1 := hq q ZUr
  have hi := Yn h1.1 h1.2.1 (Int.le_of_lt hp)
  exact ZjK hp l _ (by rw [Zek (by omega)]; exact h) fun r hr => hq r (ZUp _ hr)
theorem ZoB {p K n : Int} (hp : 0 < p) (n0 : 0 <= n) (n1 : n < K) : ∀ (l : List (Int × List UInt8)) (s : List UInt8) (i a : Int) (W : List (Int × List UInt8)), (s.length : Int) = K * p -> (∀ q ∈ l, 0 <= q.1 /\ q.1 < K /\ (q.2.length : Int) = p) -> 0 <= i -> W.drop i.toNat = l →
  (ZsH p s n = if 0 <= a then (W.getD a.toNat (0, [])).2 else ZsH p s n) -> a < i →
  ZsH p (ZtQ p l s) n = if 0 <= Zaw n i l a then (W.getD (Zaw n i l a).toNat (0, [])).2 else ZsH p s n
 | [], s, i, a, W, _, _, _, _, h, _ => h
 | q :: l, s, i, a, W, hs, hq, i0, hW, h, ha => by
  have h1 := hq q ZUr
  have hi := Yn h1.1 h1.2.1 (Int.le_of_lt hp)
  have hq' : ∀ r ∈ l, 0 <= r.1 /\ r.1 < K /\ (r.2.length : Int) = p := fun r hr => hq r (ZUp _ hr)
  have hls : ((ZdV s (q.1 * p).toNat q.2).length : Int) = K * p := by rw [Zek (by omega)]; exact hs
  have hpg := ZgI hp hs h1.2.2 h1.1 h1.2.1 n0 n1
  have hWi : W.getD i.toNat (0, []) = q := by
   have := congrArg (fun l : List (Int × List UInt8) => l[0]?) hW
   simp only [ZUI, Nat.add_zero, List.getElem?_cons_zero] at this
   rw [ZUj, this]; rfl
  have hW' : W.drop (i + 1).toNat = l := by
   rw [show (i + 1).toNat = i.toNat + 1 by omega, <- List.drop_drop, hW]; rfl
  show ZsH p (ZtQ p l (ZdV s (q.1 * p).toNat q.2)) n = if 0 <= Zaw n (i + 1) l (if q.1 = n then i else a) then (W.getD (Zaw n (i + 1) l (if q.1 = n then i else a)).toNat (0, [])).2 else ZsH p s n
  by_cases e : q.1 = n
  ·rw [if_pos e]
   have hrec := ZoB hp n0 n1 l (ZdV s (q.1 * p).toNat q.2) (i + 1) i W hls hq' (by omega) hW' (by rw [if_pos i0, hWi, hpg, if_pos e.symm]) (by omega)
   rw [hrec]
   rcases ZfW n l (i + 1) i with e2 | ⟨e2, _⟩
   ·rw [e2, if_pos i0, if_pos i0]
   ·rw [if_pos (by omega), if_pos (by omega)]
  ·rw [if_neg e]
   rw [if_neg (fun h => e h.symm)] at hpg
   have hrec := ZoB hp n0 n1 l (ZdV s (q.1 * p).toNat q.2) (i + 1) a W hls hq' (by omega) hW' (by rw [hpg]; exact h) (by omega)
   rw [hrec, hpg]
theorem ZF3 {d : Dv} (hg : GoodD d) {n : Int} (n0 : 0 <= n) (n1 : n < d.pages) : ZsH d.page d.image n = d.read n := by
 have h := hg.pages
 have h2 := ZcN hg.size
 have := ZoB (K := d.pages) (p := d.page) (by omega) n0 n1 d.w d.safe 0 (-1) d.w h.2.2.1 hg.w (ZUu 0) rfl (by rw [if_neg (by decide)]) (by decide)
 unfold Dv.image
 rw [this]; rfl
theorem Zax {d : Dv} (hg : GoodD d) : d.image.length = d.safe.length := by
 have h := hg.pages
 have h2 := ZcN hg.size
 have := ZjK (K := d.pages) (p := d.page) (by omega) d.w d.safe h.2.2.1 hg.w
 unfold Dv.image
 omega
theorem ZrX {d : Dv} (hg : GoodD d) {X : List UInt8} (h : ZtH d X []) : X = d.image := by
 have hp := hg.pages
 have h2 := ZcN hg.size
 refine ZDQ (p := d.page) (K := d.pages) (by omega) (by rw [h.1]; exact hp.2.2.1) (by rw [Zax hg]; exact hp.2.2.1) fun n n0 n1 => ?_
 rw [ZF3 hg n0 n1, h.2 n n0 n1]
 rfl
theorem Zp5 (n : Int) : ∀ (l : List (Int × List UInt8)) (i a : Int) (W : List (Int × List UInt8)), 0 <= i -> W.drop i.toNat = l -> (0 <= a -> (W.getD a.toNat (0, [])).1 = n) -> 0 <= Zaw n i l a -> (W.getD (Zaw n i l a).toNat (0, [])).1 = n
 | [], i, a, W, _, _, h, h0 => h h0
 | q :: l, i, a, W, i0, hW, h, h0 => by
  have hWi : W.getD i.toNat (0, []) = q := by
   have := congrArg (fun l : List (Int × List UInt8) => l[0]?) hW
   simp only [ZUI, Nat.add_zero, List.getElem?_cons_zero] at this
   rw [ZUj, this]; rfl
  have hW' : W.drop (i + 1).toNat = l := by
   rw [show (i + 1).toNat = i.toNat + 1 by omega, <- List.drop_drop, hW]; rfl
  refine Zp5 n l (i + 1) (if q.1 = n then i else a) W (by omega) hW' ?_ h0
  by_cases e : q.1 = n
  ·rw [if_pos e]; intro _; rw [hWi]; exact e
  ·rw [if_neg e]; exact h
theorem ZpK {d : Dv} {n : Int} (h : 0 <= d.last n) : d.pg (d.last n) = n := Zp5 n d.w 0 (-1) d.w (ZUu 0) rfl (fun h => absurd h (by decide)) h
structure Fr where
 n : Int
 b : List UInt8
 dirty : Bool
 pins : Int
structure Cs where
 fr : List Fr
 frames : Int
 hits : Int
 misses : Int
 evic : Int
def cs0 : Cs := ⟨[], 0, 0, 0, 0⟩
inductive GG where
 | dv (d : Dv)
 | cs (c : Cs)
def Zk : U GG -> Dv
 | .g (.dv d) => d
 | _ => dv0
def Zn : U GG -> Cs
 | .g (.cs c) => c
 | _ => cs0
def gg0 : GG := .dv dv0
theorem Zr (d : Dv) : Zk (.g (.dv d)) = d := rfl
theorem Zq (c : Cs) : Zn (.g (.cs c)) = c := rfl
end Go.Proofs.YtlcfjjjdhdfbdaaGreat
namespace Go.Proofs.YtlcfjjjdhdfbdaaGreat
noncomputable section
open Go.Eng
def lsT : En := .rows [.int .i64, .slice 1]
def lsA (b y c : SX) : Ch := .arr lsT b y c
def g3 (r : List Int) : Int := r.getD 3 0
def mapH (b : Int) (m : List (Int × Int)) : HProp := fun h => 0 <= b /\ ∃ es clock, Ze5 .i64 (.int .i64) es clock m /\ Zdt b.toNat (.map es clock) h
def mapV (b : Int) : Value := .map (if b < 0 then none else some b.toNat)
def ZHo (r : List Int) (p : Int × List UInt8) : HProp := fun h => ∃ x : List UInt8, (g0 r = p.1 /\ 0 <= g2 r /\ g2 r <= x.length /\ x.take (g2 r).toNat = p.2) /\ bAD (g1 r) x (g3 r) h
def lsH : List (List Int) -> List (Int × List UInt8) -> HProp
 | [], [] => emp
 | r :: rs, p :: ps => Zb (ZHo r p) (lsH rs ps)
 | _, _ => fun _ => False
def celD (K : Int) (d : Dv) (sb sc lb ln lc mb fb fl fc : Int) : HProp := fun h => (0 <= K \/ False) /\ row K.toNat 0 [.int .i64 d.page, slV sb d.safe.length sc, slV lb ln lc, mapV mb, .bool d.down, .int .i64 d.acts, slV fb fl fc, .int .i64 d.torn, .int .i64 d.at', .int .i64 d.rd, .int .i64 d.wr, .int .i64 d.sy] true h
def plP (K : Int) (d : Dv) : HProp := fun h => GoodD d /\ ∃ (sb sc lb ln lc mb fb fl fc : Int) (y : List (List Int)) (m : List (Int × Int)) (z : List Int), (0 <= ln /\ ln <= y.length /\ 0 <= fl /\ fl <= z.length /\ z.take fl.toNat = d.keep /\ Zdi m d.w /\ ZEJ m) ∧
 Zb (celD K d sb sc lb ln lc mb fb fl fc) (Zb (bAD sb d.safe sc) (Zb (rAD lsT lb y lc) (Zb (mapH mb m) (Zb (iAD fb z fc) (lsH (y.take ln.toNat) d.w))))) h
def kp51 (k : List (List Int)) (d : Dv) : HProp := lsH ((k.drop 1).take (g0 (k.getD 0 [])).toNat) d.w
def kp52 (k : List (List Int)) (d : Dv) : HProp := Zb (lsH (((k.drop 1).take (g1 (k.getD 0 [])).toNat).take (g0 (k.getD 0 [])).toNat) (d.w.take (g0 (k.getD 0 [])).toNat)) (lsH (((k.drop 1).take (g1 (k.getD 0 [])).toNat).drop ((g0 (k.getD 0 [])).toNat + 1)) (d.w.drop ((g0 (k.getD 0 [])).toNat + 1)))
theorem Zbb (n : Int) (P : List (List Int)) (d : Dv) : kp51 ([n] :: P) d = lsH (P.take n.toNat) d.w := rfl
theorem ZEN (i n : Int) (P : List (List Int)) (d : Dv) : kp52 ([i, n] :: P) d = Zb (lsH ((P.take n.toNat).take i.toNat) (d.w.take i.toNat)) (lsH ((P.take n.toNat).drop (i.toNat + 1)) (d.w.drop (i.toNat + 1))) := rfl
structure DvSig (S : Sig GG) : Prop where
 dg : S.dg = gg0
 p50 : ∀ w0 k x, S.prd 50 w0 k x = plP k.tI (Zk x)
 p51 : ∀ w0 k x, S.prd 51 w0 k x = kp51 k.tR (Zk x)
 p52 : ∀ w0 k x, S.prd 52 w0 k x = kp52 k.tR (Zk x)
 u200 : ∀ a b c d, S.usr 200 a b c d = .int (Zk a).page
 u201 : ∀ a b c d, S.usr 201 a b c d = .bool (Zk a).down
 u202 : ∀ a b c d, S.usr 202 a b c d = .int (Zk a).acts
 u203 : ∀ a b c d, S.usr 203 a b c d = .int (Zk a).torn
 u204 : ∀ a b c d, S.usr 204 a b c d = .int (Zk a).at'
 u205 : ∀ a b c d, S.usr 205 a b c d = .int (Zk a).rd
 u206 : ∀ a b c d, S.usr 206 a b c d = .int (Zk a).wr
 u207 : ∀ a b c d, S.usr 207 a b c d = .int (Zk a).sy
 u208 : ∀ a b c d, S.usr 208 a b c d = .bytes (Zk a).safe
 u209 : ∀ a b c d, S.usr 209 a b c d = .ints (Zk a).keep
 u210 : ∀ a b c d, S.usr 210 a b c d = .int (Zk a).pages
 u211 : ∀ a b c d, S.usr 211 a b c d = .int ((Zk a).w.length : Nat)
 u212 : ∀ a b c d, S.usr 212 a b c d = .bytes ((Zk a).dat b.tI)
 u213 : ∀ a b c d, S.usr 213 a b c d = .int ((Zk a).ref b.tI)
 u214 : ∀ a b c d, S.usr 214 a b c d = .bool (Zz (Zdi a.tM (Zk b).w /\ ZEJ a.tM))
 u215 : ∀ a b c d, S.usr 215 a b c d = .bool (Zz (GoodD (Zk a)))
 u216 : ∀ a b c d, S.usr 216 a b c d = .bool (Zz ((Zk a).w = (Zk b).w))
 u217 : ∀ a b c d, S.usr 217 a b c d = .int ((Zk a).pg b.tI)
 u218 : ∀ a b c d, S.usr 218 a b c d = .g (.dv (Zk a).start)
 u219 : ∀ a b c d, S.usr 219 a b c d = .g (.dv ((Zk a).arm b.tI c.tN (d.tN.getD 0 0) (d.tN.getD 1 0)))
 u220 : ∀ a b c d, S.usr 220 a b c d = .g (.dv ((Zk a).rdD b.tI))
 u221 : ∀ a b c d, S.usr 221 a b c d = .g (.dv ((Zk a).wrD b.tI c.tB))
 u222 : ∀ a b c d, S.usr 222 a b c d = .int ((Zk a).wrE b.tI c.tB)
 u223 : ∀ a b c d, S.usr 223 a b c d = .bytes ((Zk a).rdB b.tI)
 u224 : ∀ a b c d, S.usr 224 a b c d = .g (.dv { Zk a with wr := (Zk a).wr + 1, w := (Zk a).w ++ [(b.tI, c.tB)] })
 u225 : ∀ a b c d, S.usr 225 a b c d = .g (.dv (Zk a).fall)
 u226 : ∀ a b c d, S.usr 226 a b c d = .bytes (Zcd (Zk a) 0 ((Zk a).w.take b.tI.toNat) (Zk a).safe)
 u227 : ∀ a b c d, S.usr 227 a b c d = .g (.dv (Zk a).sync)
 u228 : ∀ a b c d, S.usr 228 a b c d = .int (Zk a).syE
 u229 : ∀ a b c d, S.usr 229 a b c d = .bytes (Zk a).image
 u230 : ∀ a b c d, S.usr 230 a b c d = .g (.dv { Zk a with sy := (Zk a).sy + 1 })
 u231 : ∀ a b c d, S.usr 231 a b c d = .bool ((a.tN.take b.tI.toNat).contains c.tI)
 u232 : ∀ a b c d, S.usr 232 a b c d = .bytes ((Zk a).place b.tI)
 u233 : ∀ a b c d, S.usr 233 a b c d = .g (.dv { Zk a with acts := Zbx (Zk a).acts })
 u234 : ∀ a b c d, S.usr 234 a b c d = .g (.dv (Zk a))
 u235 : ∀ a b c d, S.usr 235 a b c d = .bool (Zz (ZtH (Zk c) a.tB b.tM))
 u236 : ∀ a b c d, S.usr 236 a b c d = .bool (Zz (ZOA a.tM b.tM))
 u237 : ∀ a b c d, S.usr 237 a b c d = .bool (Zz (a.tM.map (·.1)).Nodup)
abbrev sdv {S : Sig GG} (h : DvSig S) := (And.intro h.u200 (And.intro h.u201 (And.intro h.u202 (And.intro h.u203 (And.intro h.u204 (And.intro h.u205 (And.intro h.u206 (And.intro h.u207 (And.intro h.u208 (And.intro h.u209 (And.intro h.u210 (And.intro h.u211 (And.intro h.u212 (And.intro h.u213 (And.intro h.u214 (And.intro h.u215 (And.intro h.u216 (And.intro h.u217 (And.intro h.u218 (And.intro h.u219 (And.intro h.u220 (And.intro h.u221 (And.intro h.u222 (And.intro h.u223 (And.intro h.u224 (And.intro h.u225 (And.intro h.u226 (And.intro h.u227 (And.intro h.u228 (And.intro h.u229 (And.intro h.u230 (And.intro h.u231 (And.intro h.u232 (And.intro h.u233 (And.intro h.u234 (And.intro h.u235 (And.intro h.u236 h.u237)))))))))))))))))))))))))))))))))))))
def plC (K g : SX) : Ch := .prd 50 K g
def lsC (n P g : SX) : Ch := .prd 51 (Zj (Yy n) P) g
def lsO (i n P g : SX) : Ch := .prd 52 (Zj (ZT i n) P) g
def pgX (g : SX) : SX := usI 200 g z0 z0
def sfX (g : SX) : SX := usY 208 g z0 z0
def ZFE (g : SX) : List SC := [.int .i64 (pgX g), sl1 (ai 2) (ZP (sfX g)) (ai 3), slC (ai 4) (ai 5) (ai 6) 2, .map (ai 7), .bool (usB 201 g z0 z0), .int .i64 (usI 202 g z0 z0), sl1 (ai 8) (ai 9) (ai 10), .int .i64 (usI 203 g z0 z0), .int .i64 (usI 204 g z0 z0), .int .i64 (usI 205 g z0 z0), .int .i64 (usI 206 g z0 z0), .int .i64 (usI 207 g z0 z0)]
def ZOK (g : SX) : List Ch := [bAr (ai 2) (sfX g) (ai 3), lsA (ai 4) (rA 11) (ai 6), .map .i64 (.int .i64) (ai 7) (mA 12), iAr (ai 8) (iA 13) (ai 10)]
def Zob : Ctr := ⟨[.int, .g], [.one (.ptr (ai 0) 0)], [plC (ai 0) (gA 1)], [], [.int, .int, .int, .int, .int, .int, .int, .int, .int, .rows, .amap, .ints], .tup [],
 .cel (ai 0) 0 (ZFE (gA 1)) :: ZOK (gA 1) ++ [lsC (ai 5) (rA 11) (gA 1)],
 [eLe (.int 0) (ai 5), eLe (ai 5) (ZA (rA 11)), .f2 45 (ai 5) (usI 211 (gA 1) z0 z0), eLe (ai 5) (ai 6), eLe (.int 0) (ai 9), eLe (ai 9) (Zb7 (iA 13)), .f2 153 (tkI (iA 13) (ai 9)) (usN 209 (gA 1) z0 z0), usB 214 (mA 12) (gA 1) z0, usB 215 (gA 1) z0 z0, eLe (ZP (sfX (gA 1))) (ai 3), eLe (.int 0) (ai 2), usB 237 (mA 12) z0 z0]⟩
def ZeE (more : List Srt) (args : List SV) (g : SX) : Ctr := ⟨[.int, .g, .int, .int, .int, .int, .int, .int, .int, .int, .int, .rows, .amap, .ints, .rows] ++ more, .one (.ptr (ai 0) 0) :: args,
 .cel (ai 0) 0 (ZFE g) :: ZOK g ++ [lsC (ai 5) (rA 14) (gA 1)],
 [eLe (.int 0) (ai 5), eLe (ai 5) (ZA (rA 11)), eqS (tk (rA 11) (ai 5)) (tk (rA 14) (ai 5)), eLe (.int 0) (ai 9), eLe (ai 9) (Zb7 (iA 13)), .f2 153 (tkI (iA 13) (ai 9)) (usN 209 g z0 z0), usB 214 (mA 12) g z0, usB 215 g z0 z0, usB 216 g (gA 1) z0], [], .tup [], [plC (ai 0) g], []⟩
def ZpZ : Ctr := ⟨[.int, .rows, .g, .int], [.one (.int .i64 (ai 3))], [lsC (ai 0) (rA 1) (gA 2)], [eLe (.int 0) (ai 3), eLt (ai 3) (ai 0), eLe (ai 0) (ZA (rA 1))], [.bytes], .tup [],
 [lsO (ai 3) (ai 0) (rA 1) (gA 2), bAr (nt (rA 1) (ai 3) 1) (bA 4) (nt (rA 1) (ai 3) 3)],
 [eLe (.int 0) (nt (rA 1) (ai 3) 2), eLe (nt (rA 1) (ai 3) 2) (ZP (bA 4)), eqS (tkB (bA 4) (nt (rA 1) (ai 3) 2)) (usY 212 (gA 2) (ai 3) z0), .f2 45 (nt (rA 1) (ai 3) 0) (usI 217 (gA 2) (ai 3) z0), eLe (nt (rA 1) (ai 3) 2) (nt (rA 1) (ai 3) 3)]⟩
def Zjh : Ctr := ⟨[.int, .int, .rows, .g, .bytes], [], [lsO (ai 0) (ai 1) (rA 2) (gA 3), bAr (nt (rA 2) (ai 0) 1) (bA 4) (nt (rA 2) (ai 0) 3)],
 [eLe (.int 0) (ai 0), eLt (ai 0) (ai 1), eLe (ai 1) (ZA (rA 2)), .f2 45 (ai 1) (usI 211 (gA 3) z0 z0), eLe (.int 0) (nt (rA 2) (ai 0) 2), eLe (nt (rA 2) (ai 0) 2) (ZP (bA 4)), eqS (tkB (bA 4) (nt (rA 2) (ai 0) 2)) (usY 212 (gA 3) (ai 0) z0), .f2 45 (nt (rA 2) (ai 0) 0) (usI 217 (gA 3) (ai 0) z0)], [], .tup [], [lsC (ai 1) (rA 2) (gA 3)], []⟩
def row4 (a b c d : SX) : SX := ZdF a b c d
def ZEP : Ctr := ⟨[.int, .rows, .g, .int, .int, .int, .int, .bytes], [.one (.int .i64 (ai 3)), .one (sl1 (ai 4) (ai 5) (ai 6))], [lsC (ai 0) (rA 1) (gA 2), bAr (ai 4) (bA 7) (ai 6)],
 [eLe (.int 0) (ai 0), eLe (ai 0) (ZA (rA 1)), eLe (.int 0) (ai 5), eLe (ai 5) (ZP (bA 7)), .f2 45 (ai 0) (usI 211 (gA 2) z0 z0)], [], .tup [],
 [lsC (Zgf (ai 0)) (.f2 121 (tk (rA 1) (ai 0)) (.f2 124 (row4 (ai 3) (ai 4) (ai 5) (ai 6)) YD)) (usG 224 (gA 2) (ai 3) (tkB (bA 7) (ai 5)))], []⟩
def ZIw (k : Nat) : Ctr := ⟨[.int, .rows, .g], [], [lsC (ai 0) (rA 1) (gA 2)], [.f2 45 (usI 211 (usG k (gA 2) z0 z0) z0 z0) z0], [], .tup [], [lsC z0 YD (usG k (gA 2) z0 z0), lsA (.int (-1)) YD z0], []⟩
theorem Zrw {T : Sig GG} (hu : T.usr = T.usr) (hS : DvSig T) (ρ : Go.Eng.Env GG) (w0 : World) (g : SX) : (Ch.cel (ai 0) 0 (ZFE g)).den T ρ w0 =
  celD (ρ 0).tI (Zk (g.den T ρ)) (ρ 2).tI (ρ 3).tI (ρ 4).tI (ρ 5).tI (ρ 6).tI (ρ 7).tI (ρ 8).tI (ρ 9).tI (ρ 10).tI := by
 simp only [ZFE, celD, Ch.den, ZUs, List.map_nil, sl1, ZaA, SC.den, pgX, sfX, usI, usB, usY, ZP, mapV, SX.den, hS.u200, hS.u201, hS.u202, hS.u203, hS.u204, hS.u205, hS.u206, hS.u207, hS.u208, Zi, Zv, Zu, ai, Za1, U.tIi, U.tQi, U.tBi, reduceCtorEq]
 rfl
theorem DvSig.of {S T : Sig GG} (h : DvSig S) (hu : T.usr = S.usr) (hp : T.prd = S.prd) (hd : T.dg = S.dg) : DvSig T := by
 constructor
 ·rw [hd]; exact h.dg
 all_goals first | (rw [hu]; first | exact h.u200 | exact h.u201 | exact h.u202 | exact h.u203 | exact h.u204 | exact h.u205 | exact h.u206 | exact h.u207 | exact h.u208 | exact h.u209 | exact h.u210 | exact h.u211 | exact h.u212 | exact h.u213 | exact h.u214 | exact h.u215 | exact h.u216 | exact h.u217 | exact h.u218 | exact h.u219 | exact h.u220 | exact h.u221 | exact h.u222 | exact h.u223 | exact h.u224 | exact h.u225 | exact h.u226 | exact h.u227 | exact h.u228 | exact h.u229 | exact h.u230 | exact h.u231 | exact h.u232 | exact h.u233 | exact h.u234 | exact h.u235 | exact h.u236 | exact h.u237) | (rw [hp]; first | exact h.p50 | exact h.p51 | exact h.p52)
def pV (b : Int) : Value := if b < 0 then .pointer none else .pointer (some ⟨b.toNat, 0, none⟩)
def ZY (x a b : Int) : HProp := fun h => (0 <= x \/ False) /\ row x.toNat 0 [pV a, pV b] true h
def dlS : Int -> List Int -> Int -> HProp
 | _, [], _ => emp
 | p, x :: xs, n => Zb (ZY x p (xs.headD n)) (dlS x xs n)
theorem Zco : ∀ (p : Int) (a b : List Int) (n : Int), dlS p (a ++ b) n = Zb (dlS p a (b.headD n)) (dlS (a.getLastD p) b n)
 | p, [], b, n => by rw [List.nil_append]; show _ = Zb emp _; rw [emp_star]; rfl
 | p, x :: a, b, n => by
  rw [List.cons_append]
  show Zb (ZY x p ((a ++ b).headD n)) (dlS x (a ++ b) n) = Zb (Zb (ZY x p (a.headD (b.headD n))) (dlS x a (b.headD n))) (dlS ((x :: a).getLastD p) b n)
  rw [Zco x a b n, star_assoc, List.getLastD_cons]
  congr 2
  cases a <;> rfl
def ZfL (L : List Int) : HProp := dlS (L.getLastD 0) L (L.headD 0)
def Zat (H : Int) (xs : List Int) : HProp := ZfL (H :: xs)
theorem Yz (a b : List Int) (d : Int) : (a ++ b).getLastD d = b.getLastD (a.getLastD d) := by
 induction a generalizing d with
 | nil => rfl
 | cons x a ih => rw [List.cons_append, List.getLastD_cons, List.getLastD_cons, ih]
theorem Zck {b : List Int} (hb : b ≠ []) (d e : Int) : b.getLastD d = b.getLastD e := by
 cases b with
 | nil => exact absurd rfl hb
 | cons x b => rw [List.getLastD_cons, List.getLastD_cons]
theorem ZlW {b : List Int} (hb : b ≠ []) (d e : Int) : b.headD d = b.headD e := by
 cases b with
 | nil => exact absurd rfl hb
 | cons x b => rfl
theorem ZkF {a : List Int} (ha : a ≠ []) (b : List Int) (d : Int) : (a ++ b).headD d = a.headD d := by
 cases a with
 | nil => exact absurd rfl ha
 | cons x a => rfl
theorem Zmt (a b : List Int) : ZfL (a ++ b) = ZfL (b ++ a) := by
 by_cases ha : a = []
 ·subst ha; rw [List.nil_append, List.append_nil]
 by_cases hb : b = []
 ·subst hb; rw [List.nil_append, List.append_nil]
 unfold ZfL
 rw [Zco, Zco, Zp, Yz, Yz, ZkF ha, ZkF hb, Zck ha (b.getLastD 0) 0, Zck hb (a.getLastD 0) 0, ZlW hb (a.headD 0) 0, ZlW ha (b.headD 0) 0, Zck ha (b.getLastD 0) 0]
theorem Zb1 (u : List Int) (x : Int) (v : List Int) : ZfL (u ++ x :: v) = Zb (ZY x ((v ++ u).getLastD x) ((v ++ u).headD x)) (dlS x (v ++ u) x) := by
 rw [Zmt, List.cons_append]
 unfold ZfL
 rw [List.getLastD_cons]; rfl
theorem ZK3 (x q : Int) (mid : List Int) (p : Int) : dlS x (q :: (mid ++ [p])) x = Zb (ZY q x (mid.headD p)) (Zb (dlS q mid p) (ZY p (mid.getLastD q) x)) := by
 show Zb (ZY q x ((mid ++ [p]).headD x)) (dlS q (mid ++ [p]) x) = _
 rw [Zco]
 have e1 : (mid ++ [p]).headD x = mid.headD p := by cases mid <;> rfl
 have e2 : dlS (mid.getLastD q) [p] x = ZY p (mid.getLastD q) x := by show Zb _ emp = _; rw [Za]; rfl
 rw [e1, e2]; rfl
theorem ZGG (q : Int) (mid : List Int) (p : Int) : ZfL (q :: (mid ++ [p])) = Zb (ZY q p (mid.headD p)) (Zb (dlS q mid p) (ZY p (mid.getLastD q) q)) := by
 unfold ZfL
 show Zb (ZY q _ ((mid ++ [p]).headD q)) (dlS q (mid ++ [p]) q) = _
 rw [Zco]
 have e1 : (mid ++ [p]).headD q = mid.headD p := by cases mid <;> rfl
 have e2 : dlS (mid.getLastD q) [p] q = ZY p (mid.getLastD q) q := by show Zb _ emp = _; rw [Za]; rfl
 have e3 : (q :: (mid ++ [p])).getLastD 0 = p := by rw [List.getLastD_cons, Yz]; rfl
 rw [e1, e2, e3]; rfl
theorem ZGb {M : List Int} (h : 2 <= M.length) : ∃ q mid p, M = q :: (mid ++ [p]) := by
 match M, h with
 | q :: m, h =>
  have : m ≠ [] := by intro e; subst e; simp at h
  exact ⟨q, m.dropLast, m.getLast this, by rw [List.dropLast_concat_getLast]⟩
theorem Zo5 {xs : List Int} {l : Int} (h : l ∈ xs) : ∃ u v, xs = u ++ l :: v /\ xs.erase l = u ++ v := by
 obtain ⟨u, v, h1, h2, h3⟩ := List.exists_erase_eq h
 exact ⟨u, v, h2, h3⟩
def rsO (H l p q pa qb : Int) (xs : List Int) : HProp := fun h => ∃ u v mid, xs = u ++ l :: v /\ xs.erase l = u ++ v /\ v ++ H :: u = q :: (mid ++ [p]) /\ qb = mid.headD p /\ pa = mid.getLastD q /\ dlS q mid p h
def rsL (H z hb za : Int) (xs : List Int) : HProp := fun h => ∃ u, xs = u ++ [z] /\ hb = u.headD z /\ za = u.getLastD H /\ dlS H u z h
def rsN (H i x a b : Int) (xs : List Int) : HProp := fun h => ∃ u v, H :: xs = u ++ x :: v /\ i = (u.length : Nat) /\ a = (v ++ u).getLastD x /\ b = (v ++ u).headD x /\ dlS x (v ++ u) x h
theorem ZD8 {H l : Int} : Zat H [l] = Zb (ZY l H H) (ZY H l l) := by
 show ZfL ([H] ++ l :: []) = _
 rw [Zb1]
 show Zb (ZY l H H) (Zb (ZY H l l) emp) = _
 rw [Za]
theorem Zse (H : Int) : Zat H [] = ZY H H H := by
 show Zb (ZY H H H) emp = _
 rw [Za]
theorem ZG8 {H l : Int} {xs : List Int} {h : Hl} (hm : l ∈ xs) (h2 : 2 <= xs.length) (hr : Zat H xs h) : ∃ p q pa qb, Zb (ZY l p q) (Zb (ZY p pa l) (Zb (ZY q l qb) (rsO H l p q pa qb xs))) h := by
 obtain ⟨u, v, e1, e2⟩ := Zo5 hm
 have hl : 2 <= (v ++ H :: u).length := by
  have := congrArg List.length e1
  simp only [ZUo, ZUD] at this ⊢; omega
 obtain ⟨q, mid, p, e3⟩ := ZGb hl
 have e0 : H :: xs = (H :: u) ++ l :: v := by rw [e1]; rfl
 unfold Zat at hr
 rw [e0, Zb1, e3, ZK3] at hr
 have f1 : (q :: (mid ++ [p])).getLastD l = p := by rw [List.getLastD_cons, Yz]; rfl
 rw [f1] at hr
 refine ⟨p, q, mid.getLastD q, mid.headD p, ?_⟩
 refine Yt hr fun h hr => ?_
 rw [<- star_assoc, Zp, <- star_assoc] at hr
 rw [star_assoc] at hr
 exact Yt hr fun h hr => Yt hr fun h hr => ⟨u, v, mid, e1, e2, e3, rfl, rfl, hr⟩
theorem ZFX {H l p q pa qb : Int} {xs : List Int} {h : Hl} (hr : Zb (ZY p pa q) (Zb (ZY q p qb) (rsO H l p q pa qb xs)) h) : Zat H (xs.erase l) h := by
 obtain ⟨a, b, d, e, h1, b1, b2, d2, rfl, h2, u, v, mid, e1, e2, e3, rfl, rfl, h3⟩ := hr
 have hh : Zb (ZY p (mid.getLastD q) q) (Zb (ZY q p (mid.headD p)) (dlS q mid p)) h := ⟨a, _, d, e, h1, b1, b2, d2, rfl, h2, h3⟩
 have e4 : Zat H (xs.erase l) = ZfL (v ++ H :: u) := by rw [e2, Zmt]; rfl
 rw [e4, e3, ZGG, <- star_assoc, Zp]
 exact hh
theorem ZFY {H l : Int} : Zb (ZY l H H) (ZY H l l) = Zat H ([] ++ [l]) := ZD8.symm
theorem Zw2 {H : Int} {xs : List Int} {h : Hl} (h2 : xs ≠ []) (hr : Zat H xs h) : ∃ z hb za, Zb (ZY H z hb) (Zb (ZY z za H) (rsL H z hb za xs)) h := by
 obtain ⟨u, z, rfl⟩ : ∃ u z, xs = u ++ [z] := ⟨xs.dropLast, xs.getLast h2, by rw [List.dropLast_concat_getLast]⟩
 refine ⟨z, u.headD z, u.getLastD H, ?_⟩
 unfold Zat at hr
 rw [show H :: (u ++ [z]) = [] ++ H :: (u ++ [z]) from rfl, Zb1, List.append_nil] at hr
 have f1 : (u ++ [z]).getLastD H = z := by rw [Yz]; rfl
 have f2 : (u ++ [z]).headD H = u.headD z := by cases u <;> rfl
 rw [f1, f2, Zco] at hr
 have e2 : dlS (u.getLastD H) [z] H = ZY z (u.getLastD H) H := by show Zb _ emp = _; rw [Za]; rfl
 rw [e2] at hr
 refine Yt hr fun h hr => ?_
 rw [Zp] at hr
 exact Yt hr fun h hr => ⟨u, rfl, rfl, rfl, hr⟩
theorem ZA5 {H l z hb za : Int} {xs : List Int} {h : Hl} (hr : Zb (ZY l z H) (Zb (ZY z za l) (Zb (ZY H l hb) (rsL H z hb za xs))) h) : Zat H (xs ++ [l]) h := by
 obtain ⟨a, r1, d1, k1, ha, b, r2, d2, k2, hb', c, r3, d3, k3, hc, u, rfl, rfl, rfl, hd⟩ := hr
 have hh : Zb (ZY l z H) (Zb (ZY z (u.getLastD H) l) (Zb (ZY H l (u.headD z)) (dlS H u z))) h := ⟨a, r1, d1, k1, ha, b, r2, d2, k2, hb', c, r3, d3, k3, hc, hd⟩
 unfold Zat
 rw [show H :: (u ++ [z] ++ [l]) = [] ++ H :: (u ++ [z] ++ [l]) from rfl, Zb1, List.append_nil]
 have f1 : (u ++ [z] ++ [l]).getLastD H = l := by rw [Yz]; rfl
 have f2 : (u ++ [z] ++ [l]).headD H = u.headD z := by cases u <;> rfl
 have e1 : dlS ((u ++ [z]).getLastD H) [l] H = ZY l z H := by rw [Yz]; show Zb _ emp = _; rw [Za]; rfl
 have e2 : dlS (u.getLastD H) [z] l = ZY z (u.getLastD H) l := by show Zb _ emp = _; rw [Za]; rfl
 rw [f1, f2, Zco, e1, Zco, show [l].headD H = l from rfl, e2, show [z].headD l = z from rfl]
 rw [Zp (ZY l z H), Zp (ZY z _ l), star_assoc, star_assoc] at hh
 rw [star_assoc (dlS H u z)]
 exact hh
theorem ZT0 {H : Int} {xs u v : List Int} {x : Int} (e : H :: xs = u ++ x :: v) : (v ++ u).headD x = (xs ++ [H]).getD u.length 0 := by
 cases u with
 | nil =>
  rw [List.nil_append] at e
  injection e with e1 e2
  subst e1 e2
  cases xs <;> rfl
 | cons y u =>
  rw [List.cons_append] at e
  injection e with e1 e2
  subst e1 e2
  cases v with
  | nil => simp [ZUj]
  | cons z v => simp [ZUj]
theorem Zwr {H i : Int} {xs : List Int} {h : Hl} (h0 : 0 <= i) (h1 : i <= xs.length) (hr : Zat H xs h) : ∃ a, Zb (ZY ((H :: xs).getD i.toNat 0) a ((xs ++ [H]).getD i.toNat 0)) (rsN H i ((H :: xs).getD i.toNat 0) a ((xs ++ [H]).getD i.toNat 0) xs) h := by
 have hi : i.toNat < (H :: xs).length := by rw [ZUD]; omega
 have hsp := ZO (d := 0) hi
 rw [List.singleton_append] at hsp
 generalize hu : (H :: xs).take i.toNat = u at hsp
 generalize (H :: xs).drop (i.toNat + 1) = v at hsp
 generalize (H :: xs).getD i.toNat 0 = x at hsp ⊢
 have hul : u.length = i.toNat := by rw [<- hu, ZUl]; omega
 have hb := ZT0 hsp
 rw [hul] at hb
 unfold Zat at hr
 rw [hsp, Zb1, hb] at hr
 exact ⟨_, Yt hr fun h hr => ⟨u, v, hsp, by omega, rfl, hb.symm, hr⟩⟩
theorem ZuT {H i x a b : Int} {xs : List Int} {h : Hl} (hr : Zb (ZY x a b) (rsN H i x a b xs) h) : Zat H xs h := by
 obtain ⟨r1, r2, d1, k1, ha, u, v, e1, e2, rfl, rfl, hd⟩ := hr
 unfold Zat
 rw [e1, Zb1]
 exact ⟨r1, r2, d1, k1, ha, hd⟩
def fr0 : Fr := ⟨0, [], false, 0⟩
def Cs.at' (c : Cs) (i : Int) : Fr := c.fr.getD i.toNat fr0
def Zf7 (P : Fr -> Bool) : List Fr -> Nat
 | [] => 0
 | f :: l => bif P f then 0 else Zf7 P l + 1
def Cs.idx (c : Cs) (n : Int) : Nat := Zf7 (fun f => f.n == n) c.fr
def Cs.old (c : Cs) : Nat := Zf7 (fun f => f.pins == 0) c.fr
def Cs.gone (c : Cs) (i : Int) : Cs := { c with fr := c.fr.take i.toNat ++ c.fr.drop (i.toNat + 1) }
def Cs.add (c : Cs) (f : Fr) : Cs := { c with fr := c.fr ++ [f] }
def Cs.touch (c : Cs) (i : Int) : Cs := (c.gone i).add (c.at' i)
def Cs.put (c : Cs) (i : Int) (f : Fr) : Cs := { c with fr := c.fr.take i.toNat ++ f :: c.fr.drop (i.toNat + 1) }
def Cs.full (c : Cs) : Prop := c.frames <= c.fr.length
structure GoodC (c : Cs) : Prop where
 frames : 1 <= c.frames /\ c.frames <= 4096
 len : (c.fr.length : Int) <= c.frames
 nod : (c.fr.map (·.n)).Nodup
 pins : ∀ f ∈ c.fr, 0 <= f.pins
 cnt : 0 <= c.hits /\ 0 <= c.misses /\ 0 <= c.evic
 b : ∀ f ∈ c.fr, f.b.length <= 65536
def Cs.evict (c : Cs) : Cs := { c.gone (c.old : Nat) with evic := c.evic + 1 }
def Cs.oldF (c : Cs) : Fr := c.at' (c.old : Nat)
def Cs.roomC (c : Cs) (d : Dv) : Cs := if (c.fr.length : Int) < c.frames \/ c.fr.length <= c.old then c else if c.oldF.dirty = true /\ d.wrE c.oldF.n c.oldF.b ≠ 0 then c else c.evict
def Cs.roomD (c : Cs) (d : Dv) : Dv := if (c.fr.length : Int) < c.frames \/ c.fr.length <= c.old then d else if c.oldF.dirty = true then d.wrD c.oldF.n c.oldF.b else d
def Cs.roomE (c : Cs) (d : Dv) : Int := if (c.fr.length : Int) < c.frames then 0 else if c.fr.length <= c.old then 40 else if c.oldF.dirty = true then d.wrE c.oldF.n c.oldF.b else 0
def Cs.hit (c : Cs) (n : Int) : Prop := c.idx n < c.fr.length
def Cs.stuck (c : Cs) : Prop := c.frames <= (c.fr.length : Int) /\ c.fr.length <= c.old
def Cs.hitC (c : Cs) (n : Int) : Cs := { c.touch (c.idx n : Nat) with hits := c.hits + 1 }
def Cs.came (c : Cs) (n : Int) (b : List UInt8) : Cs := { c.add ⟨n, b, false, 0⟩ with misses := c.misses + 1 }
open Classical in
def Cs.holdC (c : Cs) (d : Dv) (n : Int) : Cs := if c.hit n then c.hitC n else if c.stuck \/ d.ref n ≠ 0 then c else if c.roomE (d.rdD n) ≠ 0 then c.roomC (d.rdD n) else (c.roomC (d.rdD n)).came n (d.rdB n)
open Classical in
def Cs.holdD (c : Cs) (d : Dv) (n : Int) : Dv := if c.hit n \/ c.stuck \/ d.ref n ≠ 0 then d else c.roomD (d.rdD n)
open Classical in
def Cs.holdE (c : Cs) (d : Dv) (n : Int) : Int := if c.hit n then 0 else if c.stuck then 40 else if d.ref n ≠ 0 then d.ref n else c.roomE (d.rdD n)
def Cs.pinAt (c : Cs) (i : Int) (k : Int) : Cs := c.put i { c.at' i with pins := (c.at' i).pins + k }
open Classical in
def Cs.unpC (c : Cs) (n : Int) : Cs := if c.hit n /\ (c.at' (c.idx n : Nat)).pins ≠ 0 then c.pinAt (c.idx n : Nat) (-1) else c
open Classical in
def Cs.unpE (c : Cs) (n : Int) : Int := if c.hit n /\ (c.at' (c.idx n : Nat)).pins ≠ 0 then 0 else 41
open Classical in
def Cs.pinC (c : Cs) (d : Dv) (n : Int) : Cs := if c.holdE d n = 0 then (c.holdC d n).pinAt (((c.holdC d n).fr.length : Nat) + -1) 1 else c.holdC d n
def Cs.bad (d : Dv) (n : Int) (b : List UInt8) : Prop := n < 0 \/ d.pages <= n \/ (b.length : Int) ≠ d.page
def Cs.hitP (c : Cs) (n : Int) (b : List UInt8) : Cs := (c.gone (c.idx n : Nat)).add { c.at' (c.idx n : Nat) with b := b, dirty := true }
open Classical in
def Cs.putC (c : Cs) (d : Dv) (n : Int) (b : List UInt8) : Cs := if Cs.bad d n b then c else if c.hit n then c.hitP n b else if c.roomE d ≠ 0 then c.roomC d else (c.roomC d).add ⟨n, b, true, 0⟩
open Classical in
def Cs.putD (c : Cs) (d : Dv) (n : Int) (b : List UInt8) : Dv := if Cs.bad d n b \/ c.hit n then d else c.roomD d
open Classical in
def Cs.putE (c : Cs) (d : Dv) (n : Int) (b : List UInt8) : Int := if n < 0 \/ d.pages <= n then 30 else if (b.length : Int) ≠ d.page then 31 else if c.hit n then 0 else c.roomE d
open Classical in
def Cs.dropC (c : Cs) (n : Int) : Cs := if c.hit n /\ ¬ 0 < (c.at' (c.idx n : Nat)).pins then c.gone (c.idx n : Nat) else c
open Classical in
def Cs.dropE (c : Cs) (n : Int) : Int := if c.hit n /\ 0 < (c.at' (c.idx n : Nat)).pins then 40 else 0
def Cs.dirN (c : Cs) (left : List (Int × Int)) : Nat := (c.fr.filter fun f => f.dirty && !Yl left f.n).length
def Cs.pinN (c : Cs) (left : List (Int × Int)) : Nat := (c.fr.filter fun f => decide (0 < f.pins) && !Yl left f.n).length
def Cs.clean (c : Cs) (i : Int) : Cs := c.put i { c.at' i with dirty := false }
def flS : List Int -> Cs -> Dv -> Cs × Dv × Int
 | [], c, d => (c, d, 0)
 | n :: l, c, d => bif (c.at' (c.idx n : Nat)).dirty then (if d.wrE n (c.at' (c.idx n : Nat)).b = 0 then flS l (c.clean (c.idx n : Nat)) (d.wrD n (c.at' (c.idx n : Nat)).b) else (c, d.wrD n (c.at' (c.idx n : Nat)).b, d.wrE n (c.at' (c.idx n : Nat)).b)) else flS l c d
def sortK (l : List Int) : List Int := l.mergeSort fun x y => decide (x <= y)
def Cs.keys (c : Cs) : List Int := sortK (c.fr.map (·.n))
def ZL (x : Int) : List UInt8 := if x < 0 then [1, 2, 3] else List.replicate 512 (UInt8.ofNat (x % 256).toNat)
def ZHk (y : List UInt8) (x i : Int) : Prop := y.length = 512 /\ y.take i.toNat = List.replicate i.toNat (UInt8.ofNat (x % 256).toNat)
def dvOn (page : Int) (safe : List UInt8) : Dv := ⟨page, safe, [], false, -1, [], 0, 0, 0, 0, 0⟩
def Yx (pages : Int) : Dv := dvOn 512 (List.replicate (512 * pages.toNat) 0)
def Zbt (frames : Int) : Cs := ⟨[], frames, 0, 0, 0⟩
def prs (fr : List Fr) (R : List (List Int)) : List (Int × Int) := List.zipWith (fun f r => (f.n, g0 r)) fr R
def ZX (m : List (Int × Int)) (R : List (List Int)) (fr : List Fr) : Prop := R.length = fr.length /\ (fr.map (·.n)).Nodup /\ m.Perm (prs fr R)
theorem ZeK {P : Fr -> Bool} : ∀ {l : List Fr}, Zf7 P l < l.length -> P (l.getD (Zf7 P l) fr0) = true
 | [], h => absurd h (Nat.lt_irrefl _)
 | f :: l, h => by
  unfold Zf7 at h ⊢
  cases hp : P f
  ·rw [hp] at h
   have h : Zf7 P l + 1 < l.length + 1 := h
   show P (l.getD (Zf7 P l) fr0) = true
   exact ZeK (by omega)
  ·exact hp
theorem Zgr {P : Fr -> Bool} : ∀ {l : List Fr} {i : Nat}, i < Zf7 P l -> i < l.length /\ P (l.getD i fr0) = false
 | [], i, h => absurd h (Nat.not_lt_zero _)
 | f :: l, i, h => by
  unfold Zf7 at h
  cases hp : P f
  ·rw [hp] at h
   have h : i < Zf7 P l + 1 := h
   cases i with
   | zero => exact ⟨Nat.succ_pos _, hp⟩
   | succ i => have := Zgr (P := P) (l := l) (i := i) (by omega); exact ⟨Nat.succ_lt_succ this.1, this.2⟩
  ·rw [hp] at h; exact absurd h (Nat.not_lt_zero _)
theorem Zl8 {P : Fr -> Bool} {l : List Fr} (h : ∀ f ∈ l, P f = false) : Zf7 P l = l.length := by
 induction l with
 | nil => rfl
 | cons f l ih =>
  unfold Zf7
  rw [h f ZUr, ih fun g hg => h g (ZUp _ hg)]; rfl
theorem ZgR {fr : List Fr} {R : List (List Int)} (h : R.length = fr.length) : (prs fr R).map (·.1) = fr.map (·.n) := by
 induction fr generalizing R with
 | nil => rfl
 | cons f fr ih =>
  cases R with
  | nil => simp at h
  | cons r R => show f.n :: (prs fr R).map _ = f.n :: _; rw [ih (by simpa using h)]
theorem ZIT {fr : List Fr} {R : List (List Int)} (h : R.length = fr.length) {i : Nat} (hi : i < fr.length) : ((fr.getD i fr0).n, g0 (R.getD i [])) ∈ prs fr R := by
 induction fr generalizing R i with
 | nil => exact absurd hi (Nat.not_lt_zero _)
 | cons f fr ih =>
  cases R with
  | nil => simp at h
  | cons r R =>
   cases i with
   | zero => exact ZUr
   | succ i => exact ZUp _ (ih (by simpa using h) (by simpa using hi))
theorem ZGH {m : List (Int × Int)} {d n b : Int} (hn : (m.map (·.1)).Nodup) (h : (n, b) ∈ m) : Y5 d m n = b := by
 induction m with
 | nil => cases h
 | cons p m ih =>
  obtain ⟨k, v⟩ := p
  rw [ZUs, List.nodup_cons] at hn
  show (if k = n then v else Y5 d m n) = b
  rcases List.mem_cons.1 h with e | h'
  ·injection e with e1 e2; rw [if_pos e1.symm, e2]
  ·have : n ∈ m.map (·.1) := List.mem_map.2 ⟨_, h', rfl⟩
   rw [if_neg (fun e => hn.1 (by rw [show (k, v).1 = n from e]; exact this))]
   exact ih hn.2 h'
theorem ZX.nod {m : List (Int × Int)} {R : List (List Int)} {fr : List Fr} (h : ZX m R fr) : (m.map (·.1)).Nodup := by
 have := h.2.2.map (·.1)
 rw [ZgR h.1] at this
 exact this.nodup_iff.2 h.2.1
theorem ZX.len {m : List (Int × Int)} {R : List (List Int)} {fr : List Fr} (h : ZX m R fr) : m.length = fr.length := by
 have h2 := h.2.2.length_eq
 have h1 := h.1
 rw [h2]; unfold prs; rw [List.length_zipWith, h1, Nat.min_self]
theorem ZX.has {m : List (Int × Int)} {R : List (List Int)} {c : Cs} (h : ZX m R c.fr) (n : Int) : Yl m n = true ↔ c.idx n < c.fr.length := by
 rw [Zf5, (h.2.2.map (·.1)).mem_iff, ZgR h.1]
 constructor
 ·intro hm
  rcases Nat.lt_or_ge (c.idx n) c.fr.length with hl | hl
  ·exact hl
  ·obtain ⟨f, hf, e⟩ := List.mem_map.1 hm
   obtain ⟨i, hi, e2⟩ := List.getElem_of_mem hf
   have := (Zgr (P := fun f => f.n == n) (l := c.fr) (i := i) (Nat.lt_of_lt_of_le hi hl)).2
   rw [ZUj, ZUm hi, Option.getD_some, e2] at this
   rw [e] at this; simp at this
 ·intro hl
  have := ZeK hl
  have hf : c.fr.getD (c.idx n) fr0 ∈ c.fr := by rw [ZUj, ZUm hl]; exact ZUG _
  exact List.mem_map.2 ⟨_, hf, beq_iff_eq.1 this⟩
theorem ZX.get {m : List (Int × Int)} {R : List (List Int)} {fr : List Fr} (h : ZX m R fr) {d : Int} {i : Nat} (hi : i < fr.length) : Y5 d m (fr.getD i fr0).n = g0 (R.getD i []) :=
 ZGH h.nod (h.2.2.mem_iff.2 (ZIT h.1 hi))
theorem Cs.idx_n {c : Cs} {n : Int} (h : c.idx n < c.fr.length) : (c.fr.getD (c.idx n) fr0).n = n := beq_iff_eq.1 (ZeK h)
theorem Zeg {fr gr : List Fr} {R Q : List (List Int)} (h : R.length = fr.length) : prs (fr ++ gr) (R ++ Q) = prs fr R ++ prs gr Q := by
 unfold prs; rw [List.zipWith_append h.symm]
theorem ZX.rot {m : List (Int × Int)} {R : List (List Int)} {fr : List Fr} (h : ZX m R fr) {i : Nat} (hi : i < fr.length) :
  ZX m (R.take i ++ R.drop (i + 1) ++ [R.getD i []]) (fr.take i ++ fr.drop (i + 1) ++ [fr.getD i fr0]) := by
 obtain ⟨h1, h2, h3⟩ := h
 have hR := ZO (d := []) (show i < R.length by omega)
 have hF := ZO (d := fr0) hi
 have pF : fr.Perm (fr.take i ++ fr.drop (i + 1) ++ [fr.getD i fr0]) := by
  conv => lhs; rw [hF]
  rw [ZUH]
  exact (List.perm_append_comm).append_left _
 refine ⟨by simp only [ZUo, ZUl, ZUx, List.length_singleton]; omega, (pF.map (·.n)).nodup_iff.1 h2, h3.trans ?_⟩
 have e1 : prs fr R = prs (fr.take i) (R.take i) ++ (prs [fr.getD i fr0] [R.getD i []] ++ prs (fr.drop (i + 1)) (R.drop (i + 1))) := by
  conv => lhs; rw [hR, hF]
  rw [Zeg (by rw [ZUl, ZUl]; omega), Zeg rfl]
 rw [e1, Zeg (by simp only [ZUo, ZUl, ZUx]; omega), Zeg (by rw [ZUl, ZUl]; omega), ZUH]
 exact (List.perm_append_comm).append_left _
theorem ZAG {m : List (Int × Int)} {n b : Int} {l : List (Int × Int)} (hn : (m.map (·.1)).Nodup) (h : m.Perm ((n, b) :: l)) : (Zay m n).Perm l := by
 have key : ∀ {m : List (Int × Int)}, (m.map (·.1)).Nodup -> (n, b) ∈ m -> m.Perm ((n, b) :: Zay m n) := by
  intro m hn hm
  induction m with
  | nil => cases hm
  | cons p m ih =>
   obtain ⟨k, v⟩ := p
   rw [ZUs, List.nodup_cons] at hn
   show ((k, v) :: m).Perm ((n, b) :: (if k = n then m else (k, v) :: Zay m n))
   rcases List.mem_cons.1 hm with e | h'
   ·injection e with e1 e2; subst e1 e2; rw [if_pos rfl]
   ·have : n ∈ m.map (·.1) := List.mem_map.2 ⟨_, h', rfl⟩
    rw [if_neg (fun e => hn.1 (by rw [show (k, v).1 = n from e]; exact this))]
    exact ((ih hn.2 h').cons _).trans (List.Perm.swap _ _ _)
 exact List.Perm.cons_inv ((key hn (h.mem_iff.2 ZUr)).symm.trans h)
theorem ZX.gone {m : List (Int × Int)} {R : List (List Int)} {fr : List Fr} (h : ZX m R fr) {i : Nat} (hi : i < fr.length) :
  ZX (Zay m (fr.getD i fr0).n) (R.take i ++ R.drop (i + 1)) (fr.take i ++ fr.drop (i + 1)) := by
 obtain ⟨h1, h2, h3⟩ := h.rot hi
 have hl : (R.take i ++ R.drop (i + 1)).length = (fr.take i ++ fr.drop (i + 1)).length := by simp only [ZUo, ZUl, ZUx]; have := h.1; omega
 rw [Zeg hl] at h3
 refine ⟨hl, ?_, ZAG h.nod (b := g0 (R.getD i [])) (h3.trans List.perm_append_comm)⟩
 rw [ZUz] at h2
 exact (List.nodup_append.1 h2).1
theorem ZHi {m : List (Int × Int)} {n b : Int} (h : Yl m n = false) : Zai m n b = m ++ [(n, b)] := by
 induction m with
 | nil => rfl
 | cons p m ih =>
  obtain ⟨k, v⟩ := p
  have h' : (if k = n then true else Yl m n) = false := h
  by_cases e : k = n
  ·rw [if_pos e] at h'; cases h'
  ·rw [if_neg e] at h'
   show (if k = n then (n, b) :: m else (k, v) :: Zai m n b) = _
   rw [if_neg e, ih h']; rfl
theorem ZX.add {m : List (Int × Int)} {R : List (List Int)} {c : Cs} (h : ZX m R c.fr) {f : Fr} (hf : ¬ c.idx f.n < c.fr.length) (r : List Int) : ZX (Zai m f.n (g0 r)) (R ++ [r]) (c.fr ++ [f]) := by
 have hh : Yl m f.n = false := by
  cases e : Yl m f.n
  ·rfl
  ·exact absurd ((h.has _).1 e) hf
 obtain ⟨h1, h2, h3⟩ := h
 refine ⟨by rw [ZUo, ZUo, h1]; rfl, ?_, ?_⟩
 ·rw [ZUz, List.nodup_append]
  refine ⟨h2, by simp, ?_⟩
  intro a ha b hb
  have hb : b = f.n := by simpa using hb
  subst hb
  intro e
  subst e
  have : f.n ∈ m.map (·.1) := by rw [(h3.map (·.1)).mem_iff, ZgR h1]; exact ha
  rw [<- Zf5, hh] at this; cases this
 ·rw [ZHi hh, Zeg h1]
  exact h3.append_right _
theorem ZX.put {m : List (Int × Int)} {R : List (List Int)} {fr : List Fr} (h : ZX m R fr) {i : Nat} (hi : i < fr.length) {f : Fr} {r : List Int} (hf : f.n = (fr.getD i fr0).n) (hr : g0 r = g0 (R.getD i [])) :
  ZX m (R.take i ++ r :: R.drop (i + 1)) (fr.take i ++ f :: fr.drop (i + 1)) := by
 obtain ⟨h1, h2, h3⟩ := h
 have hR := ZO (d := []) (show i < R.length by omega)
 have hF := ZO (d := fr0) hi
 have e1 : prs fr R = prs (fr.take i) (R.take i) ++ (prs [fr.getD i fr0] [R.getD i []] ++ prs (fr.drop (i + 1)) (R.drop (i + 1))) := by
  conv => lhs; rw [hR, hF]
  rw [Zeg (by rw [ZUl, ZUl]; omega), Zeg rfl]
 have e2 : prs (fr.take i ++ f :: fr.drop (i + 1)) (R.take i ++ r :: R.drop (i + 1)) = prs fr R := by
  rw [e1, Zeg (by rw [ZUl, ZUl]; omega)]
  show _ ++ ((f.n, g0 r) :: _) = _ ++ (((fr.getD i fr0).n, g0 (R.getD i [])) :: _)
  rw [hf, hr]; rfl
 have e3 : (fr.take i ++ f :: fr.drop (i + 1)).map (·.n) = fr.map (·.n) := by
  conv => rhs; rw [hF]
  simp [hf]
 refine ⟨by simp only [ZUo, ZUl, ZUD, ZUx]; omega, by rw [e3]; exact h2, by rw [e2]; exact h3⟩
def Zaz (k : List (List Int)) (i : Nat) : Int := (k.getD 0 []).getD i 0
def rs2 (H l a b c d : Int) (xs : List Int) : HProp := fun h => ∃ A : HProp, Zat H xs = Zb (ZY l a b) (Zb (ZY H c d) A) /\ A h
structure RgSig (S : Sig GG) : Prop where
 p60 : ∀ w0 k x, S.prd 60 w0 k x = Zat k.tI x.tN
 p61 : ∀ w0 k x, S.prd 61 w0 k x = rsO (Zaz k.tR 0) (Zaz k.tR 1) (Zaz k.tR 2) (Zaz k.tR 3) (Zaz k.tR 4) (Zaz k.tR 5) x.tN
 p62 : ∀ w0 k x, S.prd 62 w0 k x = rsL (Zaz k.tR 0) (Zaz k.tR 1) (Zaz k.tR 2) (Zaz k.tR 3) x.tN
 p63 : ∀ w0 k x, S.prd 63 w0 k x = rsN (Zaz k.tR 0) (Zaz k.tR 1) (Zaz k.tR 2) (Zaz k.tR 3) (Zaz k.tR 4) x.tN
 u240 : ∀ a b c d, S.usr 240 a b c d = .ints (a.tN.erase b.tI)
 u241 : ∀ a b c d, S.usr 241 a b c d = .bool (Zz (b.tI ∈ a.tN))
 u242 : ∀ a b c d, S.usr 242 a b c d = .ints (a.tR.map g0)
 u243 : ∀ a b c d, S.usr 243 a b c d = .ints (a.tN ++ [b.tI])
 u244 : ∀ a b c d, S.usr 244 a b c d = .int (((a.tI :: b.tN).idxOf c.tI : Nat))
 u245 : ∀ a b c d, S.usr 245 a b c d = .int ((b.tN ++ [a.tI]).idxOf c.tI : Nat)
 u246 : ∀ a b c d, S.usr 246 a b c d = .bool (Zz ((a.tI :: b.tN).Nodup))
 u247 : ∀ a b c d, S.usr 247 a b c d = .int ((b.tN ++ [a.tI]).getD ((a.tI :: b.tN).idxOf c.tI) 0)
 u248 : ∀ a b c d, S.usr 248 a b c d = .bool (Zz (c.tI ∈ a.tI :: b.tN))
 u249 : ∀ a b c d, S.usr 249 a b c d = .bool (Zz (∀ y ∈ a.tI :: b.tN, 0 <= y))
 p64 : ∀ w0 k x, S.prd 64 w0 k x = rs2 (Zaz k.tR 0) (Zaz k.tR 1) (Zaz k.tR 2) (Zaz k.tR 3) (Zaz k.tR 4) (Zaz k.tR 5) x.tN
abbrev srg {S : Sig GG} (h : RgSig S) := (And.intro h.u240 (And.intro h.u241 (And.intro h.u242 (And.intro h.u243 (And.intro h.u244 (And.intro h.u245 (And.intro h.u246 (And.intro h.u247 (And.intro h.u248 h.u249)))))))))
theorem RgSig.of {S T : Sig GG} (h : RgSig S) (hu : T.usr = S.usr) (hp : T.prd = S.prd) : RgSig T := by
 constructor
 all_goals first | (rw [hu]; first | exact h.u240 | exact h.u241 | exact h.u242 | exact h.u243 | exact h.u244 | exact h.u245 | exact h.u246 | exact h.u247 | exact h.u248 | exact h.u249) | (rw [hp]; first | exact h.p60 | exact h.p61 | exact h.p62 | exact h.p63 | exact h.p64)
def pC (b : SX) : SC := .ptr b 0
def ndC (x a b : SX) : Ch := .cel x 0 [pC a, pC b]
def rgC (H x : SX) : Ch := .prd 60 H x
def rsOC (H l p q pa qb x : SX) : Ch := .prd 61 (Zj (Ze6 H l p q pa qb) YD) x
def rsLC (H z hb za x : SX) : Ch := .prd 62 (Zj (ZdF H z hb za) YD) x
def rsNC (H i x a b xs : SX) : Ch := .prd 63 (Zj (ZbQ H i x a b) YD) xs
def erX (x l : SX) : SX := usN 240 x l z0
def ZLk (x l : SX) : SX := usB 241 x l z0
def snX (x l : SX) : SX := usN 243 x l z0
def ZM8 : Ctr := ⟨[.int, .int, .ints], [.one (.ptr (ai 0) 0)], [rgC (ai 1) (iA 2)], [ZLk (iA 2) (ai 0), .f2 45 (Zb7 (iA 2)) (.int 1)], [], .tup [], [ndC (ai 0) (ai 1) (ai 1), ndC (ai 1) (ai 0) (ai 0)], [eqS (iA 2) (snX Zbv (ai 0))]⟩
def ZOv : Ctr := ⟨[.int, .int, .ints], [.one (.ptr (ai 0) 0)], [rgC (ai 1) (iA 2)], [ZLk (iA 2) (ai 0), .f1 2 (.f2 45 (Zb7 (iA 2)) (.int 1))], [.int, .int, .int, .int], .tup [],
 [ndC (ai 0) (ai 3) (ai 4), ndC (ai 3) (ai 5) (ai 0), ndC (ai 4) (ai 0) (ai 6), rsOC (ai 1) (ai 0) (ai 3) (ai 4) (ai 5) (ai 6) (iA 2)], []⟩
def sh1C : Ctr := ⟨[.int], [.one (.ptr (ai 0) 0)], [ndC (ai 0) (ai 0) (ai 0)], [], [], .tup [], [rgC (ai 0) Zbv], []⟩
def sh2C : Ctr := ⟨[.int, .int, .int, .int, .int, .int, .ints], [.one (.ptr (ai 0) 0), .one (.ptr (ai 1) 0)], [ndC (ai 0) (ai 2) (ai 1), ndC (ai 1) (ai 0) (ai 3), rsOC (ai 4) (ai 5) (ai 0) (ai 1) (ai 2) (ai 3) (iA 6)], [], [], .tup [], [rgC (ai 4) (erX (iA 6) (ai 5))], []⟩
def ZOG : Ctr := ⟨[.int, .ints], [.one (.ptr (ai 0) 0)], [rgC (ai 0) (iA 1)], [.f2 45 (Zb7 (iA 1)) z0], [], .tup [], [ndC (ai 0) (ai 0) (ai 0)], [eqS (iA 1) Zbv]⟩
def ZPb : Ctr := ⟨[.int, .ints], [.one (.ptr (ai 0) 0)], [rgC (ai 0) (iA 1)], [.f1 2 (.f2 45 (Zb7 (iA 1)) z0)], [.int, .int, .int], .tup [], [ndC (ai 0) (ai 2) (ai 3), ndC (ai 2) (ai 4) (ai 0), rsLC (ai 0) (ai 2) (ai 3) (ai 4) (iA 1)], []⟩
def se1C : Ctr := ⟨[.int, .int], [.one (.ptr (ai 0) 0), .one (.ptr (ai 1) 0)], [ndC (ai 0) (ai 1) (ai 1), ndC (ai 1) (ai 0) (ai 0)], [], [], .tup [], [rgC (ai 1) (snX Zbv (ai 0))], []⟩
def se2C : Ctr := ⟨[.int, .int, .int, .int, .int, .ints], [.one (.ptr (ai 0) 0), .one (.ptr (ai 1) 0), .one (.ptr (ai 2) 0)], [ndC (ai 0) (ai 2) (ai 1), ndC (ai 2) (ai 3) (ai 0), ndC (ai 1) (ai 0) (ai 4), rsLC (ai 1) (ai 2) (ai 4) (ai 3) (iA 5)], [], [], .tup [], [rgC (ai 1) (snX (iA 5) (ai 0))], []⟩
def Zv3 (x : SX) : List Ch := [ndC x (ai 3) (usI 247 (ai 1) (iA 2) x), rsNC (ai 1) (usI 244 (ai 1) (iA 2) x) x (ai 3) (usI 247 (ai 1) (iA 2) x) (iA 2)]
def onC : Ctr := ⟨[.int, .int, .ints], [.one (.ptr (ai 0) 0)], [rgC (ai 1) (iA 2)], [usB 248 (ai 1) (iA 2) (ai 0)], [.int], .tup [], Zv3 (ai 0), []⟩
def onHC : Ctr := ⟨[.int, .int, .ints], [.one (.ptr (ai 0) 0)], [rgC (ai 1) (iA 2)], [], [.int], .tup [], Zv3 (ai 1), []⟩
def ZRc : Ctr := ⟨[.int, .int, .int, .int, .int, .ints], [], [rsNC (ai 0) (ai 1) (ai 2) (ai 3) (ai 4) (iA 5), ndC (ai 2) (ai 3) (ai 4)], [], [], .tup [], [rgC (ai 0) (iA 5)], []⟩
def Zol : Ctr := ⟨[.int, .ints], [], [rgC (ai 0) (iA 1)], [], [], .tup [], [rgC (ai 0) (iA 1)], [usB 246 (ai 0) (iA 1) z0, usB 249 (ai 0) (iA 1) z0]⟩
def rs2C (H l a b c d x : SX) : Ch := .prd 64 (Zj (Ze6 H l a b c d) YD) x
def ZOV : Ctr := ⟨[.int, .int, .ints], [.one (.ptr (ai 0) 0)], [rgC (ai 1) (iA 2)], [usB 248 (ai 1) (iA 2) (ai 0), .f1 2 (.f2 45 (ai 0) (ai 1))], [.int, .int, .int, .int], .tup [],
 [ndC (ai 0) (ai 3) (ai 4), ndC (ai 1) (ai 5) (ai 6), rs2C (ai 1) (ai 0) (ai 3) (ai 4) (ai 5) (ai 6) (iA 2)], []⟩
def sn2C : Ctr := ⟨[.int, .int, .int, .int, .int, .int, .ints], [], [rs2C (ai 1) (ai 0) (ai 2) (ai 3) (ai 4) (ai 5) (iA 6), ndC (ai 0) (ai 2) (ai 3), ndC (ai 1) (ai 4) (ai 5)], [], [], .tup [], [rgC (ai 1) (iA 6)], []⟩
theorem Z4 (T : Sig GG) (ρ : Go.Eng.Env GG) (w0 : World) (x a b : SX) : (ndC x a b).den T ρ w0 = ZY (x.den T ρ).tI (a.den T ρ).tI (b.den T ρ).tI := by
 simp only [ndC, pC, Ch.den, ZUs, List.map_nil, SC.den, reduceCtorEq]
 rfl
theorem ZR4 (S : Sig GG) (hS : RgSig S) : Z7 S ZM8 := by
 refine Zw S fun T w0 ρ h hu hp hd hr hpre => ?_
 have hT := hS.of hu hp
 have e1 : hpDen T ρ w0 ZM8.pre = Zb (T.prd 60 w0 ((ai 1).den T ρ) ((iA 2).den T ρ)) emp := rfl
 have e2 : hpDen T ρ w0 ZM8.post = Zb ((ndC (ai 0) (ai 1) (ai 1)).den T ρ w0) (Zb ((ndC (ai 1) (ai 0) (ai 0)).den T ρ w0) emp) := rfl
 have r0 := hr (ZLk (iA 2) (ai 0)) (by simp [ZM8])
 have r1 := hr (.f2 45 (Zb7 (iA 2)) (.int 1)) (by simp [ZM8])
 simp only [ZLk, usB, Zb7, SX.den, iA, ai, hT.u241, Zi, ZQ, Zv, U.tPi, U.tQi, U.tIi, U.tNi, p45, ZS, Zf] at r0 r1
 obtain ⟨l, hl⟩ : ∃ l, (ρ 2).tN = [l] := List.length_eq_one_iff.1 (by omega)
 have hl : (ρ 2).tN = [(ρ 0).tI] := by rw [hl] at r0 ⊢; rw [List.mem_singleton.1 r0]
 rw [e1, Za, hT.p60] at hpre
 have k1 : ((iA 2).den T ρ).tN = (ρ 2).tN := rfl
 rw [k1, hl, ZD8] at hpre
 refine ⟨ρ, Ext.refl _ _, ?_, ?_⟩
 ·rw [e2, Za, Z4, Z4]; exact hpre
 ·intro q hq
  simp only [ZM8, List.mem_singleton] at hq
  subst hq
  simp only [eqS, snX, usN, Zbv, SX.den, iA, ai, hT.u243, Zi, ZQ, U.tIi, U.tNi, ZfH, ZV, U.ints.injEq]
  rw [hl]; rfl
theorem ZT4 (S : Sig GG) (hS : RgSig S) : Z7 S ZOv := by
 refine Zw S fun T w0 ρ h hu hp hd hr hpre => ?_
 have hT := hS.of hu hp
 have e1 : hpDen T ρ w0 ZOv.pre = Zb (T.prd 60 w0 ((ai 1).den T ρ) ((iA 2).den T ρ)) emp := rfl
 have e2 : ∀ ρ', hpDen T ρ' w0 ZOv.post = Zb ((ndC (ai 0) (ai 3) (ai 4)).den T ρ' w0) (Zb ((ndC (ai 3) (ai 5) (ai 0)).den T ρ' w0) (Zb ((ndC (ai 4) (ai 0) (ai 6)).den T ρ' w0) (Zb (T.prd 61 w0 ((Zj (Ze6 (ai 1) (ai 0) (ai 3) (ai 4) (ai 5) (ai 6)) YD).den T ρ') ((iA 2).den T ρ')) emp))) := fun _ => rfl
 have r0 := hr (ZLk (iA 2) (ai 0)) (by simp [ZOv])
 have r1 := hr (.f1 2 (.f2 45 (Zb7 (iA 2)) (.int 1))) (by simp [ZOv])
 simp only [ZLk, usB, Zb7, SX.den, iA, ai, hT.u241, Zi, ZQ, Zv, U.tPi, U.tQi, U.tIi, U.tNi, ZGy, ZS, Zf] at r0 r1
 have hl : 2 <= (ρ 2).tN.length := by
  have := List.length_pos_of_mem r0
  omega
 rw [e1, Za, hT.p60] at hpre
 obtain ⟨p, q, pa, qb, hh⟩ := ZG8 (H := (ρ 1).tI) r0 hl hpre
 refine ⟨(((ρ.upd 3 (.int p)).upd 4 (.int q)).upd 5 (.int pa)).upd 6 (.int qb), ?_, ?_, (fun x hx => nomatch hx)⟩
 ·intro i hi
  have hi : i < 3 := hi
  simp only [Env.upd]
  repeat rw [if_neg (by omega)]
 ·rw [e2, Za, Z4, Z4, Z4, hT.p61]; exact hh
theorem ZQ1 (S : Sig GG) (hS : RgSig S) : Z7 S sh1C := by
 refine Zw S fun T w0 ρ h hu hp hd hr hpre => ⟨ρ, Ext.refl _ _, ?_, (fun x hx => nomatch hx)⟩
 have hT := hS.of hu hp
 have e1 : hpDen T ρ w0 sh1C.pre = Zb ((ndC (ai 0) (ai 0) (ai 0)).den T ρ w0) emp := rfl
 have e2 : hpDen T ρ w0 sh1C.post = Zb (T.prd 60 w0 ((ai 0).den T ρ) (Zbv.den T ρ)) emp := rfl
 rw [e1, Za, Z4] at hpre
 rw [e2, Za, hT.p60]
 show Zat _ [] h
 rw [Zse]; exact hpre
theorem ZPt (S : Sig GG) (hS : RgSig S) : Z7 S sh2C := by
 refine Zw S fun T w0 ρ h hu hp hd hr hpre => ⟨ρ, Ext.refl _ _, ?_, (fun x hx => nomatch hx)⟩
 have hT := hS.of hu hp
 have e1 : hpDen T ρ w0 sh2C.pre = Zb ((ndC (ai 0) (ai 2) (ai 1)).den T ρ w0) (Zb ((ndC (ai 1) (ai 0) (ai 3)).den T ρ w0) (Zb (T.prd 61 w0 ((Zj (Ze6 (ai 4) (ai 5) (ai 0) (ai 1) (ai 2) (ai 3)) YD).den T ρ) ((iA 6).den T ρ)) emp)) := rfl
 have e2 : hpDen T ρ w0 sh2C.post = Zb (T.prd 60 w0 ((ai 4).den T ρ) ((erX (iA 6) (ai 5)).den T ρ)) emp := rfl
 rw [e1, Za, Z4, Z4, hT.p61] at hpre
 rw [e2, Za, hT.p60]
 have k : ((erX (iA 6) (ai 5)).den T ρ).tN = (ρ 6).tN.erase (ρ 5).tI := by
  simp only [erX, usN, SX.den, hT.u240, ZQ, U.tNi, iA, ai, Zi, U.tIi]
 rw [k]
 exact ZFX hpre
theorem ZO8 (S : Sig GG) (hS : RgSig S) : Z7 S ZOG := by
 refine Zw S fun T w0 ρ h hu hp hd hr hpre => ?_
 have hT := hS.of hu hp
 have e1 : hpDen T ρ w0 ZOG.pre = Zb (T.prd 60 w0 ((ai 0).den T ρ) ((iA 1).den T ρ)) emp := rfl
 have e2 : hpDen T ρ w0 ZOG.post = Zb ((ndC (ai 0) (ai 0) (ai 0)).den T ρ w0) emp := rfl
 have r1 := hr (.f2 45 (Zb7 (iA 1)) z0) (by simp [ZOG])
 simp only [Zb7, SX.den, iA, z0, ZQ, U.tIi, U.tNi, p45, ZS] at r1
 have hl : (ρ 1).tN = [] := ZUy (by omega)
 rw [e1, Za, hT.p60] at hpre
 have k1 : ((iA 1).den T ρ).tN = (ρ 1).tN := rfl
 rw [k1, hl, Zse] at hpre
 refine ⟨ρ, Ext.refl _ _, ?_, ?_⟩
 ·rw [e2, Za, Z4]; exact hpre
 ·intro q hq
  simp only [ZOG, List.mem_singleton] at hq
  subst hq
  simp only [eqS, Zbv, SX.den, iA, ZQ, U.tNi, ZfH, ZV, U.ints.injEq]
  exact hl
theorem ZQ0 (S : Sig GG) (hS : RgSig S) : Z7 S ZPb := by
 refine Zw S fun T w0 ρ h hu hp hd hr hpre => ?_
 have hT := hS.of hu hp
 have e1 : hpDen T ρ w0 ZPb.pre = Zb (T.prd 60 w0 ((ai 0).den T ρ) ((iA 1).den T ρ)) emp := rfl
 have e2 : ∀ ρ', hpDen T ρ' w0 ZPb.post = Zb ((ndC (ai 0) (ai 2) (ai 3)).den T ρ' w0) (Zb ((ndC (ai 2) (ai 4) (ai 0)).den T ρ' w0) (Zb (T.prd 62 w0 ((Zj (ZdF (ai 0) (ai 2) (ai 3) (ai 4)) YD).den T ρ') ((iA 1).den T ρ')) emp)) := fun _ => rfl
 have r1 := hr (.f1 2 (.f2 45 (Zb7 (iA 1)) z0)) (by simp [ZPb])
 simp only [Zb7, SX.den, iA, z0, ZQ, U.tIi, U.tNi, ZGy, ZS] at r1
 have hl : (ρ 1).tN ≠ [] := by intro e; rw [e] at r1; exact r1 rfl
 rw [e1, Za, hT.p60] at hpre
 obtain ⟨z, hb, za, hh⟩ := Zw2 (H := (ρ 0).tI) hl hpre
 refine ⟨((ρ.upd 2 (.int z)).upd 3 (.int hb)).upd 4 (.int za), ?_, ?_, (fun x hx => nomatch hx)⟩
 ·intro i hi
  have hi : i < 2 := hi
  simp only [Env.upd]
  repeat rw [if_neg (by omega)]
 ·rw [e2, Za, Z4, Z4, hT.p62]; exact hh
theorem ZQO (S : Sig GG) (hS : RgSig S) : Z7 S se1C := by
 refine Zw S fun T w0 ρ h hu hp hd hr hpre => ⟨ρ, Ext.refl _ _, ?_, (fun x hx => nomatch hx)⟩
 have hT := hS.of hu hp
 have e1 : hpDen T ρ w0 se1C.pre = Zb ((ndC (ai 0) (ai 1) (ai 1)).den T ρ w0) (Zb ((ndC (ai 1) (ai 0) (ai 0)).den T ρ w0) emp) := rfl
 have e2 : hpDen T ρ w0 se1C.post = Zb (T.prd 60 w0 ((ai 1).den T ρ) ((snX Zbv (ai 0)).den T ρ)) emp := rfl
 rw [e1, Za, Z4, Z4] at hpre
 rw [e2, Za, hT.p60]
 have k : ((snX Zbv (ai 0)).den T ρ).tN = [] ++ [(ρ 0).tI] := by
  simp only [snX, Zbv, usN, SX.den, hT.u243, ZQ, U.tNi, ai, Zi, U.tIi, ZV]
 rw [k, <- ZFY]
 exact hpre
theorem ZQv (S : Sig GG) (hS : RgSig S) : Z7 S se2C := by
 refine Zw S fun T w0 ρ h hu hp hd hr hpre => ⟨ρ, Ext.refl _ _, ?_, (fun x hx => nomatch hx)⟩
 have hT := hS.of hu hp
 have e1 : hpDen T ρ w0 se2C.pre = Zb ((ndC (ai 0) (ai 2) (ai 1)).den T ρ w0) (Zb ((ndC (ai 2) (ai 3) (ai 0)).den T ρ w0) (Zb ((ndC (ai 1) (ai 0) (ai 4)).den T ρ w0) (Zb (T.prd 62 w0 ((Zj (ZdF (ai 1) (ai 2) (ai 4) (ai 3)) YD).den T ρ) ((iA 5).den T ρ)) emp))) := rfl
 have e2 : hpDen T ρ w0 se2C.post = Zb (T.prd 60 w0 ((ai 1).den T ρ) ((snX (iA 5) (ai 0)).den T ρ)) emp := rfl
 rw [e1, Za, Z4, Z4, Z4, hT.p62] at hpre
 rw [e2, Za, hT.p60]
 have k : ((snX (iA 5) (ai 0)).den T ρ).tN = (ρ 5).tN ++ [(ρ 0).tI] := by
  simp only [snX, usN, SX.den, hT.u243, ZQ, U.tNi, ai, iA, Zi, U.tIi]
 rw [k]
 exact ZA5 hpre
theorem ZK8 {H x : Int} {xs : List Int} {h : Hl} (hm : x ∈ H :: xs) (hr : Zat H xs h) : ∃ a, Zb (ZY x a ((xs ++ [H]).getD ((H :: xs).idxOf x) 0)) (rsN H ((H :: xs).idxOf x : Nat) x a ((xs ++ [H]).getD ((H :: xs).idxOf x) 0) xs) h := by
 have hi := List.idxOf_lt_length_of_mem hm
 have hx : (H :: xs).getD ((H :: xs).idxOf x) 0 = x := by rw [ZUj, ZUm hi, Option.getD_some, List.getElem_idxOf]
 obtain ⟨a, ha⟩ := Zwr (i := ((H :: xs).idxOf x : Nat)) (by omega) (by rw [ZUD] at hi; omega) hr
 rw [ZUq, hx] at ha
 exact ⟨a, ha⟩
theorem onG (S : Sig GG) (hS : RgSig S) (sp : Ctr) (x : SX) (hx : x = ai 0 \/ x = ai 1) (e1 : sp.ss = [.int, .int, .ints]) (e2 : sp.pre = [rgC (ai 1) (iA 2)]) (e3 : sp.post = Zv3 x) (e4 : sp.facts = [])
  (hm : ∀ (T : Sig GG) (ρ : Go.Eng.Env GG), RgSig T -> (∀ e ∈ sp.reqs, (e.den T ρ).tP) -> (x.den T ρ).tI ∈ (ρ 1).tI :: (ρ 2).tN) : Z7 S sp := by
 refine Zw S fun T w0 ρ h hu hp hd hr hpre => ?_
 have hT := hS.of hu hp
 have f1 : hpDen T ρ w0 sp.pre = Zb (T.prd 60 w0 ((ai 1).den T ρ) ((iA 2).den T ρ)) emp := by rw [e2]; rfl
 have f2 : ∀ ρ', hpDen T ρ' w0 sp.post = Zb ((ndC x (ai 3) (usI 247 (ai 1) (iA 2) x)).den T ρ' w0) (Zb (T.prd 63 w0 ((Zj (ZbQ (ai 1) (usI 244 (ai 1) (iA 2) x) x (ai 3) (usI 247 (ai 1) (iA 2) x)) YD).den T ρ') ((iA 2).den T ρ')) emp) := by intro; rw [e3]; rfl
 rw [f1, Za, hT.p60] at hpre
 obtain ⟨a, ha⟩ := ZK8 (H := (ρ 1).tI) (hm T ρ hT hr) hpre
 refine ⟨ρ.upd 3 (.int a), by rw [e1]; exact Ext.upd _ _, ?_, by rw [e4]; exact fun q hq => nomatch hq⟩
 have hxd : (x.den T (ρ.upd 3 (.int a))).tI = (x.den T ρ).tI := by rcases hx with rfl | rfl <;> rfl
 have w7 : (usI 247 (ai 1) (iA 2) x).den T (ρ.upd 3 (.int a)) = .int (((ρ 2).tN ++ [(ρ 1).tI]).getD (((ρ 1).tI :: (ρ 2).tN).idxOf (x.den T ρ).tI) 0) := by
  simp only [usI, SX.den, hT.u247, Zi, U.tIi, hxd]; rfl
 have w4 : (usI 244 (ai 1) (iA 2) x).den T (ρ.upd 3 (.int a)) = .int ((((ρ 1).tI :: (ρ 2).tN).idxOf (x.den T ρ).tI : Nat)) := by
  simp only [usI, SX.den, hT.u244, Zi, U.tIi, hxd]; rfl
 have kk : ((Zj (ZbQ (ai 1) (usI 244 (ai 1) (iA 2) x) x (ai 3) (usI 247 (ai 1) (iA 2) x)) YD).den T (ρ.upd 3 (.int a))).tR = [[(ρ 1).tI, ((usI 244 (ai 1) (iA 2) x).den T (ρ.upd 3 (.int a))).tI, (x.den T (ρ.upd 3 (.int a))).tI, a, ((usI 247 (ai 1) (iA 2) x).den T (ρ.upd 3 (.int a))).tI]] := rfl
 rw [f2, Za, Z4, hT.p63, kk, w7, w4, hxd]
 exact ha
theorem on_gh (S : Sig GG) (hS : RgSig S) : Z7 S onC := by
 refine onG S hS onC (ai 0) (.inl rfl) rfl rfl rfl rfl fun T ρ hT hr => ?_
 have r0 := hr (usB 248 (ai 1) (iA 2) (ai 0)) (by simp [onC])
 simpa only [usB, SX.den, hT.u248, Zi, ZQ, Zv, iA, ai, U.tPi, U.tQi, U.tIi, U.tNi, Zf] using r0
theorem ZRi (S : Sig GG) (hS : RgSig S) : Z7 S onHC :=
 onG S hS onHC (ai 1) (.inr rfl) rfl rfl rfl rfl fun T ρ hT hr => ZUr
theorem ZIx (S : Sig GG) (hS : RgSig S) : Z7 S ZRc := by
 refine Zw S fun T w0 ρ h hu hp hd hr hpre => ⟨ρ, Ext.refl _ _, ?_, (fun x hx => nomatch hx)⟩
 have hT := hS.of hu hp
 have e1 : hpDen T ρ w0 ZRc.pre = Zb (T.prd 63 w0 ((Zj (ZbQ (ai 0) (ai 1) (ai 2) (ai 3) (ai 4)) YD).den T ρ) ((iA 5).den T ρ)) (Zb ((ndC (ai 2) (ai 3) (ai 4)).den T ρ w0) emp) := rfl
 have e2 : hpDen T ρ w0 ZRc.post = Zb (T.prd 60 w0 ((ai 0).den T ρ) ((iA 5).den T ρ)) emp := rfl
 rw [e1, Za, Z4, hT.p63, Zp] at hpre
 rw [e2, Za, hT.p60]
 exact ZuT hpre
theorem ZwU {x a b c d : Int} {A : HProp} {h : Hl} (hr : Zb (ZY x a b) (Zb (ZY x c d) A) h) : False := by
 obtain ⟨p, q, hd, _, ⟨_, rfl⟩, r, s, hd2, rfl, ⟨_, rfl⟩, _⟩ := hr
 have h1 : Zbe x.toNat 0 [pV a, pV b] true x.toNat 0 = some (.val (pV a) true) := ZbP (i := 0) (by simp)
 have h2 : Zbe x.toNat 0 [pV c, pV d] true x.toNat 0 = some (.val (pV c) true) := ZbP (i := 0) (by simp)
 rcases hd x.toNat 0 with e | e
 ·rw [h1] at e; cases e
 ·unfold Hl.un at e; rw [h2] at e; cases e
theorem ZCe {x : Int} : ∀ {p : Int} {xs : List Int} {n : Int} {h : Hl}, x ∈ xs -> dlS p xs n h -> ∃ a b A, Zb (ZY x a b) A h
 | p, y :: xs, n, h, hm, hr => by
  rcases List.mem_cons.1 hm with rfl | hm
  ·exact ⟨_, _, _, hr⟩
  ·obtain ⟨u, v, d, rfl, hu, hv⟩ := hr
   obtain ⟨a, b, A, hA⟩ := ZCe hm hv
   refine ⟨a, b, Zb (ZY y p (xs.headD n)) A, ?_⟩
   rw [Zl]
   exact ⟨u, v, d, rfl, hu, hA⟩
theorem ZzM : ∀ {p : Int} {xs : List Int} {n : Int} {h : Hl}, dlS p xs n h -> xs.Nodup
 | _, [], _, _, _ => List.nodup_nil
 | _, x :: xs, _, h, hr => by
  rw [List.nodup_cons]
  obtain ⟨u, v, d, rfl, hu, hv⟩ := hr
  refine ⟨fun hm => ?_, ZzM hv⟩
  obtain ⟨a, b, A, hA⟩ := ZCe hm hv
  exact ZwU ⟨u, v, d, rfl, hu, hA⟩
theorem Zzd : ∀ {p : Int} {xs : List Int} {n : Int} {h : Hl}, dlS p xs n h -> ∀ y ∈ xs, 0 <= y
 | _, x :: xs, _, h, hr, y, hy => by
  obtain ⟨u, v, d, rfl, ⟨hu, _⟩, hv⟩ := hr
  rcases List.mem_cons.1 hy with rfl | hy
  ·simpa using hu
  ·exact Zzd hv y hy
theorem Zca (S : Sig GG) (hS : RgSig S) : Z7 S Zol := by
 refine Zw S fun T w0 ρ h hu hp hd hr hpre => ⟨ρ, Ext.refl _ _, hpre, ?_⟩
 have hT := hS.of hu hp
 have e1 : hpDen T ρ w0 Zol.pre = Zb (T.prd 60 w0 ((ai 0).den T ρ) ((iA 1).den T ρ)) emp := rfl
 rw [e1, Za, hT.p60] at hpre
 have hn : ((ρ 0).tI :: (ρ 1).tN).Nodup := ZzM hpre
 have hq0 : ∀ y ∈ (ρ 0).tI :: (ρ 1).tN, 0 <= y := Zzd hpre
 intro q hq
 simp only [Zol, List.mem_cons, List.not_mem_nil, or_false] at hq
 rcases hq with rfl | rfl
 ·simp only [usB, SX.den, hT.u246, Zi, ZQ, Zv, iA, ai, U.tPi, U.tQi, U.tIi, U.tNi, Zf]
  exact hn
 ·simp only [usB, SX.den, hT.u249, Zi, ZQ, Zv, iA, ai, U.tPi, U.tQi, U.tIi, U.tNi, Zf]
  exact hq0
theorem Zsm {x : Int} : ∀ {p : Int} {xs : List Int} {n : Int}, x ∈ xs -> ∃ a b A, dlS p xs n = Zb (ZY x a b) A
 | p, y :: xs, n, hm => by
  rcases List.mem_cons.1 hm with rfl | hm
  ·exact ⟨_, _, _, rfl⟩
  ·obtain ⟨a, b, A, hA⟩ := Zsm (p := y) (n := n) hm
   refine ⟨a, b, Zb (ZY y p (xs.headD n)) A, ?_⟩
   rw [Zl, <- hA]; rfl
theorem ZPG (S : Sig GG) (hS : RgSig S) : Z7 S ZOV := by
 refine Zw S fun T w0 ρ h hu hp hd hr hpre => ?_
 have hT := hS.of hu hp
 have e1 : hpDen T ρ w0 ZOV.pre = Zb (T.prd 60 w0 ((ai 1).den T ρ) ((iA 2).den T ρ)) emp := rfl
 have e2 : ∀ ρ', hpDen T ρ' w0 ZOV.post = Zb ((ndC (ai 0) (ai 3) (ai 4)).den T ρ' w0) (Zb ((ndC (ai 1) (ai 5) (ai 6)).den T ρ' w0) (Zb (T.prd 64 w0 ((Zj (Ze6 (ai 1) (ai 0) (ai 3) (ai 4) (ai 5) (ai 6)) YD).den T ρ') ((iA 2).den T ρ')) emp)) := fun _ => rfl
 have r0 := hr (usB 248 (ai 1) (iA 2) (ai 0)) (by simp [ZOV])
 have r1 := hr (.f1 2 (.f2 45 (ai 0) (ai 1))) (by simp [ZOV])
 simp only [usB, SX.den, hT.u248, Zi, ZQ, Zv, iA, ai, U.tPi, U.tQi, U.tIi, U.tNi, Zf, ZGy] at r0 r1
 have hm : (ρ 0).tI ∈ (ρ 2).tN := by
  rcases List.mem_cons.1 r0 with e | e
  ·exact absurd e r1
  ·exact e
 rw [e1, Za, hT.p60] at hpre
 obtain ⟨a, b, A, hA⟩ := Zsm (p := (ρ 1).tI) (n := (ρ 1).tI) hm
 have hE : Zat (ρ 1).tI (ρ 2).tN = Zb (ZY (ρ 0).tI a b) (Zb (ZY (ρ 1).tI ((ρ 2).tN.getLastD (ρ 1).tI) ((ρ 2).tN.headD (ρ 1).tI)) A) := by
  show ZfL ([] ++ (ρ 1).tI :: (ρ 2).tN) = _
  rw [Zb1, List.append_nil, hA, Zl]
 refine ⟨(((ρ.upd 3 (.int a)).upd 4 (.int b)).upd 5 (.int ((ρ 2).tN.getLastD (ρ 1).tI))).upd 6 (.int ((ρ 2).tN.headD (ρ 1).tI)), ?_, ?_, (fun x hx => nomatch hx)⟩
 ·intro i hi
  have hi : i < 3 := hi
  simp only [Env.upd]
  repeat rw [if_neg (by omega)]
 ·rw [e2, Za, Z4, Z4, hT.p64]
  have hpre : Zat (ρ 1).tI (ρ 2).tN h := hpre
  rw [hE] at hpre
  exact Yt hpre fun h hh => Yt hh fun h hh => ⟨A, hE, hh⟩
theorem ZQN (S : Sig GG) (hS : RgSig S) : Z7 S sn2C := by
 refine Zw S fun T w0 ρ h hu hp hd hr hpre => ⟨ρ, Ext.refl _ _, ?_, (fun x hx => nomatch hx)⟩
 have hT := hS.of hu hp
 have e1 : hpDen T ρ w0 sn2C.pre = Zb (T.prd 64 w0 ((Zj (Ze6 (ai 1) (ai 0) (ai 2) (ai 3) (ai 4) (ai 5)) YD).den T ρ) ((iA 6).den T ρ)) (Zb ((ndC (ai 0) (ai 2) (ai 3)).den T ρ w0) (Zb ((ndC (ai 1) (ai 4) (ai 5)).den T ρ w0) emp)) := rfl
 have e2 : hpDen T ρ w0 sn2C.post = Zb (T.prd 60 w0 ((ai 1).den T ρ) ((iA 6).den T ρ)) emp := rfl
 rw [e1, Za, Z4, Z4, hT.p64, Zp, star_assoc] at hpre
 rw [e2, Za, hT.p60]
 obtain ⟨a, b, d, rfl, ha, c, e, d2, rfl, hc, A, hE, hA⟩ := hpre
 have hE : Zat ((ai 1).den T ρ).tI ((iA 6).den T ρ).tN = _ := hE
 rw [hE]
 exact ⟨a, _, d, rfl, ha, c, e, d2, rfl, hc, hA⟩
def frD (r : List Int) (f : Fr) : HProp := fun h => (0 <= g0 r \/ False) /\ row (g0 r).toNat 2 [.int .i64 f.n, slV (g1 r) f.b.length (g2 r), .bool f.dirty, .int .i64 f.pins] true h
def ZDq (r : List Int) (f : Fr) : HProp := Zb (frD r f) (bAD (g1 r) f.b (g2 r))
def frH : List (List Int) -> List Fr -> HProp
 | [], [] => emp
 | r :: rs, f :: fs => Zb (ZDq r f) (frH rs fs)
 | _, _ => fun _ => False
def mapP (b : Int) (m : List (Int × Int)) : HProp := fun h => 0 <= b /\ ∃ es clock, Ze5 .i64 .ptr es clock m /\ Zdt b.toNat (.map es clock) h
def celK (c p hm H : Int) (s : Cs) : HProp := fun h => (0 <= c \/ False) /\ row c.toNat 0 [pV p, mapV hm, pV H, .int .i64 s.frames, .int .i64 0, .int .i64 0, .int .i64 0, .int .i64 s.hits, .int .i64 s.misses, .int .i64 s.evic] true h
def csP (c p : Int) (s : Cs) : HProp := fun h => GoodC s /\ ∃ (hm H : Int) (R : List (List Int)) (m : List (Int × Int)), ZX m R s.fr ∧
 Zb (celK c p hm H s) (Zb (mapP hm m) (Zb (Zat H (R.map g0)) (frH R s.fr))) h
def kp71 (k : List (List Int)) (s : Cs) : HProp := Zb (frH ((k.drop 1).take (g0 (k.getD 0 [])).toNat) (s.fr.take (g0 (k.getD 0 [])).toNat)) (frH ((k.drop 1).drop ((g0 (k.getD 0 [])).toNat + 1)) (s.fr.drop ((g0 (k.getD 0 [])).toNat + 1)))
def Zcc (l : Int) : List (List Int) -> Nat
 | [] => 0
 | r :: R => bif g0 r == l then 0 else Zcc l R + 1
def Cs.addF (c : Cs) (n : Int) (b : List UInt8) : Cs := c.add ⟨n, b, false, 0⟩
def Cs.putF (c : Cs) (i : Int) (b : List UInt8) (d : List Int) : Cs := c.put i ⟨(c.at' i).n, b, d.getD 0 0 == 1, d.getD 1 0⟩
def ZIE (R : List (List Int)) (i : Int) (r : List Int) : List (List Int) := R.take i.toNat ++ r :: R.drop (i.toNat + 1)
def ZjM (R : List (List Int)) (i : Int) : List (List Int) := R.take i.toNat ++ R.drop (i.toNat + 1)
def Zty (R : List (List Int)) (i : Int) : List (List Int) := ZjM R i ++ [R.getD i.toNat []]
def ZtP (R : List (List Int)) (c : Cs) : Int := if c.old < c.fr.length then g0 (R.getD c.old []) else -1
structure CsSig (S : Sig GG) : Prop where
 dv : DvSig S
 rg : RgSig S
 p70 : ∀ w0 k x, S.prd 70 w0 k x = frH k.tR (Zn x).fr
 p71 : ∀ w0 k x, S.prd 71 w0 k x = kp71 k.tR (Zn x)
 p72 : ∀ w0 k x, S.prd 72 w0 k x = csP (Zaz k.tR 0) (Zaz k.tR 1) (Zn x)
 u250 : ∀ a b c d, S.usr 250 a b c d = .int (Zcc b.tI a.tR : Nat)
 u251 : ∀ a b c d, S.usr 251 a b c d = .bool (Zz (ZX a.tM b.tR (Zn c).fr))
 u252 : ∀ a b c d, S.usr 252 a b c d = .int ((Zn a).at' b.tI).n
 u253 : ∀ a b c d, S.usr 253 a b c d = .bytes ((Zn a).at' b.tI).b
 u254 : ∀ a b c d, S.usr 254 a b c d = .bool ((Zn a).at' b.tI).dirty
 u255 : ∀ a b c d, S.usr 255 a b c d = .int ((Zn a).at' b.tI).pins
 u256 : ∀ a b c d, S.usr 256 a b c d = .int ((Zn a).fr.length : Nat)
 u257 : ∀ a b c d, S.usr 257 a b c d = .int (Zn a).frames
 u258 : ∀ a b c d, S.usr 258 a b c d = .int (Zn a).hits
 u259 : ∀ a b c d, S.usr 259 a b c d = .int (Zn a).misses
 u260 : ∀ a b c d, S.usr 260 a b c d = .int (Zn a).evic
 u261 : ∀ a b c d, S.usr 261 a b c d = .int ((Zn a).old : Nat)
 u262 : ∀ a b c d, S.usr 262 a b c d = .int ((Zn a).idx b.tI : Nat)
 u263 : ∀ a b c d, S.usr 263 a b c d = .g (.cs ((Zn a).touch b.tI))
 u264 : ∀ a b c d, S.usr 264 a b c d = .g (.cs ((Zn a).gone b.tI))
 u265 : ∀ a b c d, S.usr 265 a b c d = .g (.cs ((Zn a).addF b.tI c.tB))
 u266 : ∀ a b c d, S.usr 266 a b c d = .g (.cs ((Zn a).putF b.tI c.tB d.tN))
 u267 : ∀ a b c d, S.usr 267 a b c d = .g (.cs { Zn a with hits := b.tI, misses := c.tI, evic := d.tI })
 u268 : ∀ a b c d, S.usr 268 a b c d = .bool (Zz (GoodC (Zn a)))
 u269 : ∀ a b c d, S.usr 269 a b c d = .rows (ZIE a.tR b.tI c.tN)
 u270 : ∀ a b c d, S.usr 270 a b c d = .rows (Zty a.tR b.tI)
 u271 : ∀ a b c d, S.usr 271 a b c d = .rows (ZjM a.tR b.tI)
 u272 : ∀ a b c d, S.usr 272 a b c d = .int (ZtP a.tR (Zn b))
 u273 : ∀ a b c d, S.usr 273 a b c d = .g (.cs (Zn a))
 u274 : ∀ a b c d, S.usr 274 a b c d = .bool (Zz ((Zn a).fr = (Zn b).fr))
 u280 : ∀ a b c d, S.usr 280 a b c d = .g (.cs ((Zn a).roomC (Zk b)))
 u281 : ∀ a b c d, S.usr 281 a b c d = .g (.dv ((Zn a).roomD (Zk b)))
 u282 : ∀ a b c d, S.usr 282 a b c d = .int ((Zn a).roomE (Zk b))
 u283 : ∀ a b c d, S.usr 283 a b c d = .g (.cs ((Zn a).holdC (Zk b) c.tI))
 u284 : ∀ a b c d, S.usr 284 a b c d = .g (.dv ((Zn a).holdD (Zk b) c.tI))
 u285 : ∀ a b c d, S.usr 285 a b c d = .int ((Zn a).holdE (Zk b) c.tI)
 u287 : ∀ a b c d, S.usr 287 a b c d = .g (.cs ((Zn a).pinC (Zk b) c.tI))
 u288 : ∀ a b c d, S.usr 288 a b c d = .bool (Zz (∀ f ∈ (Zn a).fr, f.pins <= 4611686018427387904))
 u289 : ∀ a b c d, S.usr 289 a b c d = .g (.cs ((Zn a).unpC b.tI))
 u290 : ∀ a b c d, S.usr 290 a b c d = .int ((Zn a).unpE b.tI)
 u291 : ∀ a b c d, S.usr 291 a b c d = .int ((Zn a).dirN b.tM : Nat)
 u292 : ∀ a b c d, S.usr 292 a b c d = .int ((Zn a).pinN b.tM : Nat)
 u293 : ∀ a b c d, S.usr 293 a b c d = .g (.cs ((Zn a).clean b.tI))
 u294 : ∀ a b c d, S.usr 294 a b c d = .g (.cs (flS c.tN (Zn a) (Zk b)).1)
 u295 : ∀ a b c d, S.usr 295 a b c d = .g (.dv (flS c.tN (Zn a) (Zk b)).2.1)
 u296 : ∀ a b c d, S.usr 296 a b c d = .int (flS c.tN (Zn a) (Zk b)).2.2
 u297 : ∀ a b c d, S.usr 297 a b c d = .ints ((Zn a).keys)
 u298 : ∀ a b c d, S.usr 298 a b c d = .ints (sortK (a.tM.map (·.1)))
 u299 : ∀ a b c d, S.usr 299 a b c d = .g (.cs ((Zn a).putC (Zk b) c.tI d.tB))
 u300 : ∀ a b c d, S.usr 300 a b c d = .g (.dv ((Zn a).putD (Zk b) c.tI d.tB))
 u301 : ∀ a b c d, S.usr 301 a b c d = .int ((Zn a).putE (Zk b) c.tI d.tB)
 u302 : ∀ a b c d, S.usr 302 a b c d = .g (.cs ((Zn a).dropC b.tI))
 u303 : ∀ a b c d, S.usr 303 a b c d = .int ((Zn a).dropE b.tI)
 u304 : ∀ a b c d, S.usr 304 a b c d = .g (.cs (Zbt a.tI))
 u305 : ∀ a b c d, S.usr 305 a b c d = .bool (Zz (∀ f ∈ (Zn a).fr, 0 <= f.n /\ f.n < 65536))
 u306 : ∀ a b c d, S.usr 306 a b c d = .bool (Zz (∀ p ∈ a.tM, 0 <= p.1 /\ p.1 < 65536))
 u307 : ∀ a b c d, S.usr 307 a b c d = .g (.dv (dvOn a.tI b.tB))
 u308 : ∀ a b c d, S.usr 308 a b c d = .bytes (ZL a.tI)
 u309 : ∀ a b c d, S.usr 309 a b c d = .g (.dv (Yx a.tI))
 u310 : ∀ a b c d, S.usr 310 a b c d = .bool (Zz (ZHk a.tB b.tI c.tI))
abbrev scs {S : Sig GG} (h : CsSig S) := (And.intro h.u250 (And.intro h.u251 (And.intro h.u252 (And.intro h.u253 (And.intro h.u254 (And.intro h.u255 (And.intro h.u256 (And.intro h.u257 (And.intro h.u258 (And.intro h.u259 (And.intro h.u260 (And.intro h.u261 (And.intro h.u262 (And.intro h.u263 (And.intro h.u264 (And.intro h.u265 (And.intro h.u266 (And.intro h.u267 (And.intro h.u268 (And.intro h.u269 (And.intro h.u270 (And.intro h.u271 (And.intro h.u272 (And.intro h.u273 (And.intro h.u274 (And.intro h.u280 (And.intro h.u281 (And.intro h.u282 (And.intro h.u283 (And.intro h.u284 (And.intro h.u285 (And.intro h.u287 (And.intro h.u288 (And.intro h.u289 (And.intro h.u290 (And.intro h.u291 (And.intro h.u292 (And.intro h.u293 (And.intro h.u294 (And.intro h.u295 (And.intro h.u296 (And.intro h.u297 (And.intro h.u298 (And.intro h.u299 (And.intro h.u300 (And.intro h.u301 (And.intro h.u302 (And.intro h.u303 (And.intro h.u304 (And.intro h.u305 (And.intro h.u306 (And.intro h.u307 (And.intro h.u308 (And.intro h.u309 h.u310))))))))))))))))))))))))))))))))))))))))))))))))))))))
theorem CsSig.of {S T : Sig GG} (h : CsSig S) (hu : T.usr = S.usr) (hp : T.prd = S.prd) (hd : T.dg = S.dg) : CsSig T := by
 constructor
 ·exact h.dv.of hu hp hd
 ·exact h.rg.of hu hp
 all_goals first | (rw [hp]; first | exact h.p70 | exact h.p71 | exact h.p72) | (rw [hu]; first | exact h.u250 | exact h.u251 | exact h.u252 | exact h.u253 | exact h.u254 | exact h.u255 | exact h.u256 | exact h.u257 | exact h.u258 | exact h.u259 | exact h.u260 | exact h.u261 | exact h.u262 | exact h.u263 | exact h.u264 | exact h.u265 | exact h.u266 | exact h.u267 | exact h.u268 | exact h.u269 | exact h.u270 | exact h.u271 | exact h.u272 | exact h.u273 | exact h.u274 | exact h.u280 | exact h.u281 | exact h.u282 | exact h.u283 | exact h.u284 | exact h.u285 | exact h.u287 | exact h.u288 | exact h.u289 | exact h.u290 | exact h.u291 | exact h.u292 | exact h.u293 | exact h.u294 | exact h.u295 | exact h.u296 | exact h.u297 | exact h.u298 | exact h.u299 | exact h.u300 | exact h.u301 | exact h.u302 | exact h.u303 | exact h.u304 | exact h.u305 | exact h.u306 | exact h.u307 | exact h.u308 | exact h.u309 | exact h.u310)
def csC (c p g : SX) : Ch := .prd 72 (Zj (ZT c p) YD) g
def frC (R g : SX) : Ch := .prd 70 R g
def frO (i R g : SX) : Ch := .prd 71 (Zj (Yy i) R) g
def mpC (b m : SX) : Ch := .map .i64 .ptr b m
def ZtN (p hm H g : SX) : List SC := [pC p, .map hm, pC H, .int .i64 (usI 257 g z0 z0), .int .i64 z0, .int .i64 z0, .int .i64 z0, .int .i64 (usI 258 g z0 z0), .int .i64 (usI 259 g z0 z0), .int .i64 (usI 260 g z0 z0)]
def fcQ (g i bb bc : SX) : List SC := [.int .i64 (usI 252 g i z0), sl1 bb (ZP (usY 253 g i z0)) bc, .bool (usB 254 g i z0), .int .i64 (usI 255 g i z0)]
def rgX (R : SX) : SX := usN 242 R z0 z0
def Zdo : Ctr := ⟨[.int, .int, .g], [.one (.ptr (ai 0) 0)], [csC (ai 0) (ai 1) (gA 2)], [], [.int, .int, .rows, .amap], .tup [],
 [.cel (ai 0) 0 (ZtN (ai 1) (ai 3) (ai 4) (gA 2)), mpC (ai 3) (mA 6), rgC (ai 4) (rgX (rA 5)), frC (rA 5) (gA 2)],
 [usB 251 (mA 6) (rA 5) (gA 2), usB 268 (gA 2) z0 z0, .f2 45 (ZA (rA 5)) (usI 256 (gA 2) z0 z0), eLe z0 (ai 3)]⟩
def ZkX (g : SX) : Ctr := ⟨[.int, .int, .g, .int, .int, .rows, .amap, .ints], [.one (.ptr (ai 0) 0)],
 [.cel (ai 0) 0 (ZtN (ai 1) (ai 3) (ai 4) g), mpC (ai 3) (mA 6), rgC (ai 4) (iA 7), frC (rA 5) (gA 2)],
 [eqS (iA 7) (rgX (rA 5)), usB 251 (mA 6) (rA 5) g, usB 268 g z0 z0, usB 274 g (gA 2) z0], [], .tup [], [csC (ai 0) (ai 1) g], []⟩
def ixX (R l : SX) : SX := usI 250 R l z0
def Zln : Ctr := ⟨[.int, .rows, .g], [.one (.ptr (ai 0) 0)], [frC (rA 1) (gA 2)], [eLt (ixX (rA 1) (ai 0)) (ZA (rA 1))], [], .tup [],
 [.cel (ai 0) 2 (fcQ (gA 2) (ixX (rA 1) (ai 0)) (nt (rA 1) (ixX (rA 1) (ai 0)) 1) (nt (rA 1) (ixX (rA 1) (ai 0)) 2)), bAr (nt (rA 1) (ixX (rA 1) (ai 0)) 1) (usY 253 (gA 2) (ixX (rA 1) (ai 0)) z0) (nt (rA 1) (ixX (rA 1) (ai 0)) 2), frO (ixX (rA 1) (ai 0)) (rA 1) (gA 2)], [eLe (ZP (usY 253 (gA 2) (ixX (rA 1) (ai 0)) z0)) (nt (rA 1) (ixX (rA 1) (ai 0)) 2), .f2 50 (eLe z0 (nt (rA 1) (ixX (rA 1) (ai 0)) 1)) (.f2 45 (ZP (usY 253 (gA 2) (ixX (rA 1) (ai 0)) z0)) z0)]⟩
def ZuG : Ctr := ⟨[.int, .int, .rows, .g, .int, .int, .int, .bytes, .bool, .int, .int], [.one (.ptr (ai 0) 0)],
 [.cel (ai 0) 2 [.int .i64 (ai 10), sl1 (ai 4) (ai 5) (ai 6), .bool (qA 8), .int .i64 (ai 9)], bAr (ai 4) (bA 7) (ai 6), frO (ai 1) (rA 2) (gA 3)],
 [eLe z0 (ai 1), eLt (ai 1) (ZA (rA 2)), .f2 45 (ai 10) (usI 252 (gA 3) (ai 1) z0), eLe z0 (ai 5), eLe (ai 5) (ZP (bA 7))], [], .tup [],
 [frC (usR 269 (rA 2) (ai 1) (Yf (ai 0) (ai 4) (ai 6))) (.us .g 266 (gA 3) (ai 1) (tkB (bA 7) (ai 5)) (ZT (.f1 3 (qA 8)) (ai 9)))], []⟩
def ZkV : Ctr := ⟨[.int, .int, .rows, .g], [.one (.ptr (ai 0) 0)], [frO (ai 1) (rA 2) (gA 3), .cel (ai 0) 2 (fcQ (gA 3) (ai 1) (nt (rA 2) (ai 1) 1) (nt (rA 2) (ai 1) 2)), bAr (nt (rA 2) (ai 1) 1) (usY 253 (gA 3) (ai 1) z0) (nt (rA 2) (ai 1) 2)],
 [eLe z0 (ai 1), eLt (ai 1) (ZA (rA 2)), .f2 45 (ai 0) (nt (rA 2) (ai 1) 0), .f2 45 (ZA (rA 2)) (usI 256 (gA 3) z0 z0)], [], .tup [], [frC (rA 2) (gA 3)], []⟩
def gnFC : Ctr := ⟨[.int, .rows, .g], [], [frO (ai 0) (rA 1) (gA 2)], [eLe z0 (ai 0)], [], .tup [], [frC (usR 271 (rA 1) (ai 0) z0) (usG 264 (gA 2) (ai 0) z0)], []⟩
def ZOz : Ctr := ⟨[.int, .rows, .g], [.one (.ptr (ai 0) 0)], [frC (rA 1) (gA 2)], [eLt (ixX (rA 1) (ai 0)) (ZA (rA 1))], [], .tup [], [frC (usR 270 (rA 1) (ixX (rA 1) (ai 0)) z0) (usG 263 (gA 2) (ixX (rA 1) (ai 0)) z0)], []⟩
def ZOu : Ctr := ⟨[.int, .rows, .g, .int, .int, .int, .int, .bytes], [.one (.ptr (ai 0) 0)],
 [.cel (ai 0) 2 [.int .i64 (ai 3), sl1 (ai 4) (ai 5) (ai 6), .bool (.bool false), .int .i64 z0], bAr (ai 4) (bA 7) (ai 6), frC (rA 1) (gA 2)], [eLe z0 (ai 5), eLe (ai 5) (ZP (bA 7))], [], .tup [],
 [frC (.f2 121 (rA 1) (.f2 124 (Yf (ai 0) (ai 4) (ai 6)) YD)) (usG 265 (gA 2) (ai 3) (tkB (bA 7) (ai 5)))], []⟩
def ZRB : Ctr := ⟨[.int, .int, .int, .int, .int, .int, .int, .bool, .int], [.one (.ptr (ai 0) 0)], [.cel (ai 0) 0 [pC (ai 1), pC (ai 2), .int .i64 (ai 3), sl1 (ai 4) (ai 5) (ai 6), .bool (qA 7), .int .i64 (ai 8)]], [], [], .tup [],
 [ndC (ai 0) (ai 1) (ai 2), .cel (ai 0) 2 [.int .i64 (ai 3), sl1 (ai 4) (ai 5) (ai 6), .bool (qA 7), .int .i64 (ai 8)]], []⟩
def Znv : Ctr := ⟨[.int, .int, .g, .int, .int, .rows, .amap, .ints, .int, .int, .int], [.one (.ptr (ai 0) 0)],
 [.cel (ai 0) 0 [pC (ai 1), .map (ai 3), pC (ai 4), .int .i64 (usI 257 (gA 2) z0 z0), .int .i64 z0, .int .i64 z0, .int .i64 z0, .int .i64 (ai 8), .int .i64 (ai 9), .int .i64 (ai 10)], mpC (ai 3) (mA 6), rgC (ai 4) (iA 7), frC (rA 5) (gA 2)],
 [eqS (iA 7) (rgX (rA 5)), usB 251 (mA 6) (rA 5) (gA 2), usB 268 (.us .g 267 (gA 2) (ai 8) (ai 9) (ai 10)) z0 z0], [], .tup [], [csC (ai 0) (ai 1) (.us .g 267 (gA 2) (ai 8) (ai 9) (ai 10))], []⟩
def ZM2 : Ctr := ⟨[.int, .g], [], [plC (ai 0) (gA 1)], [], [], .tup [], [plC (ai 0) (usG 234 (gA 1) z0 z0)], []⟩
def celN : List SC := [pC (ai 1), .map (ai 3), pC (ai 4), .int .i64 (usI 257 (gA 2) z0 z0), .int .i64 z0, .int .i64 z0, .int .i64 z0, .int .i64 (ai 6), .int .i64 (ai 7), .int .i64 (ai 8)]
def ZOH : Ctr := ⟨[.int, .int, .g, .int, .int, .rows, .int, .int, .int], [.one (.ptr (ai 0) 0)], [.cel (ai 0) 0 celN, frC (rA 5) (gA 2)], [], [], .tup [],
 [.cel (ai 0) 0 (ZtN (ai 1) (ai 3) (ai 4) (.us .g 267 (gA 2) (ai 6) (ai 7) (ai 8))), frC (rA 5) (.us .g 267 (gA 2) (ai 6) (ai 7) (ai 8))], []⟩
def ZUc : Ctr := ⟨[.int, .g], [], [plC (ai 0) (gA 1)], [], [], .tup [], [plC (ai 0) (gA 1)], [usB 215 (gA 1) z0 z0]⟩
theorem Zdq : ∀ {k : List (List Int)} {q : List Fr} {h : Hl}, frH k q h -> k.length = q.length
 | [], [], _, _ => rfl
 | r :: k, p :: q, h, hx => by
  obtain ⟨a, b, _, _, _, hb⟩ := hx
  rw [ZUD, ZUD, Zdq hb]
 | [], _ :: _, _, hx => hx.elim
 | _ :: _, [], _, hx => hx.elim
theorem ZbS : ∀ {a : List (List Int)} {c : List Fr} (b : List (List Int)) (d : List Fr), a.length = c.length -> frH (a ++ b) (c ++ d) = Zb (frH a c) (frH b d)
 | [], [], b, d, _ => by rw [List.nil_append, List.nil_append]; show _ = Zb emp _; rw [emp_star]
 | r :: a, p :: c, b, d, h => by
  rw [List.cons_append, List.cons_append]
  show Zb _ (frH (a ++ b) (c ++ d)) = Zb (Zb _ (frH a c)) (frH b d)
  rw [ZbS b d (by simpa using h), star_assoc]
 | [], _ :: _, _, _, h => by simp at h
 | _ :: _, [], _, _, h => by simp at h
theorem ZjP (r : List Int) (p : Fr) : frH [r] [p] = ZDq r p := by
 show Zb _ emp = _
 rw [Za]
theorem ZfU {k : List (List Int)} {m : List Fr} {i : Nat} (hl : k.length = m.length) (hi : i < k.length) :
  frH k m = Zb (Zb (frH (k.take i) (m.take i)) (frH (k.drop (i + 1)) (m.drop (i + 1)))) (ZDq (k.getD i []) (m.getD i fr0)) := by
 conv => lhs; rw [ZO (d := []) hi, ZO (d := fr0) (show i < m.length by omega)]
 rw [ZbS _ _ (by rw [ZUl, ZUl]; omega), ZbS _ _ (show [k.getD i []].length = [m.getD i fr0].length from rfl), ZjP, star_assoc, Zp (ZDq _ _)]
theorem Zhm (i : Int) (R : List (List Int)) (s : Cs) : kp71 ([i] :: R) s = Zb (frH (R.take i.toNat) (s.fr.take i.toNat)) (frH (R.drop (i.toNat + 1)) (s.fr.drop (i.toNat + 1))) := rfl
theorem ZjW {l : Int} : ∀ {R : List (List Int)}, Zcc l R < R.length -> g0 (R.getD (Zcc l R) []) = l
 | [], h => absurd h (Nat.not_lt_zero _)
 | r :: R, h => by
  unfold Zcc at h ⊢
  cases hp : g0 r == l
  ·rw [hp] at h
   have h : Zcc l R + 1 < R.length + 1 := h
   show g0 (R.getD (Zcc l R) []) = l
   exact ZjW (by omega)
  ·exact beq_iff_eq.1 hp
theorem Zi6 {T : Sig GG} (hT : CsSig T) (ρ : Go.Eng.Env GG) (w0 : World) (c p hm H g : SX) : (Ch.cel c 0 (ZtN p hm H g)).den T ρ w0 = celK (c.den T ρ).tI (p.den T ρ).tI (hm.den T ρ).tI (H.den T ρ).tI (Zn (g.den T ρ)) := by
 simp only [ZtN, pC, Ch.den, ZUs, List.map_nil, SC.den, usI, z0, SX.den, hT.u257, hT.u258, hT.u259, hT.u260, Zi, U.tIi, reduceCtorEq]
 rfl
theorem Zei (T : Sig GG) (ρ : Go.Eng.Env GG) (w0 : World) (c n bb bl bc d p : SX) : (Ch.cel c 2 [.int .i64 n, sl1 bb bl bc, .bool d, .int .i64 p]).den T ρ w0 =
  fun h => (0 <= (c.den T ρ).tI \/ False) /\ row (c.den T ρ).tI.toNat 2 [.int .i64 (n.den T ρ).tI, slV (bb.den T ρ).tI (bl.den T ρ).tI (bc.den T ρ).tI, .bool (d.den T ρ).toBool, .int .i64 (p.den T ρ).tI] true h := by
 simp only [Ch.den, ZUs, List.map_nil, sl1, ZaA, SC.den, reduceCtorEq]
theorem Zpv (T : Sig GG) (ρ : Go.Eng.Env GG) (w0 : World) (b m : SX) : (mpC b m).den T ρ w0 = mapP (b.den T ρ).tI (m.den T ρ).tM := rfl
theorem ZI4 {T : Sig GG} (hT : CsSig T) (ρ : Go.Eng.Env GG) (R : SX) : ((rgX R).den T ρ).tN = (R.den T ρ).tR.map g0 := by
 simp only [rgX, usN, SX.den, hT.rg.u242, ZQ, U.tNi]
theorem Zba (S : Sig GG) (hS : CsSig S) : Z7 S Zdo := by
 refine Zw S fun T w0 ρ h hu hp hd hr hpre => ?_
 have hT := hS.of hu hp hd
 have e1 : hpDen T ρ w0 Zdo.pre = Zb (T.prd 72 w0 ((Zj (ZT (ai 0) (ai 1)) YD).den T ρ) ((gA 2).den T ρ)) emp := rfl
 rw [e1, Za, hT.p72] at hpre
 generalize hd' : Zn ((gA 2).den T ρ) = s at hpre
 obtain ⟨hg, hm, H, R, m, hh, hst⟩ := hpre
 let ρ' : Go.Eng.Env GG := (((ρ.upd 3 (.int hm)).upd 4 (.int H)).upd 5 (.rows R)).upd 6 (.amap m)
 have hgd : Zn ((gA 2).den T ρ') = s := by rw [<- hd']; rfl
 refine ⟨ρ', ?_, ?_, ?_⟩
 ·intro i hi
  have hi : i < 3 := hi
  show ((((ρ.upd 3 (.int hm)).upd 4 (.int H)).upd 5 (.rows R)).upd 6 (.amap m)) i = ρ i
  simp only [Env.upd]
  repeat rw [if_neg (by omega)]
 ·have e2 : hpDen T ρ' w0 Zdo.post = Zb ((Ch.cel (ai 0) 0 (ZtN (ai 1) (ai 3) (ai 4) (gA 2))).den T ρ' w0) (Zb ((mpC (ai 3) (mA 6)).den T ρ' w0) (Zb (T.prd 60 w0 ((ai 4).den T ρ') ((rgX (rA 5)).den T ρ')) (Zb (T.prd 70 w0 ((rA 5).den T ρ') ((gA 2).den T ρ')) emp))) := rfl
  rw [e2, Za, Zi6 hT, Zpv, hT.rg.p60, hT.p70, ZI4 hT, hgd]
  exact hst
 ·obtain ⟨_, _, _, hq⟩ := Zo hst
  obtain ⟨_, _, hmp, _⟩ := Zo hq
  intro q hq
  simp only [Zdo, List.mem_cons, List.not_mem_nil, or_false] at hq
  rcases hq with rfl | rfl | rfl | rfl
  ·have : ((usB 251 (mA 6) (rA 5) (gA 2)).den T ρ').tP ↔ ZX m R s.fr := by
    simp only [usB, SX.den, hT.u251, Zv, U.tPi, U.tQi, Zf]
    rw [hgd]; exact Iff.rfl
   exact this.2 hh
  ·have : ((usB 268 (gA 2) z0 z0).den T ρ').tP ↔ GoodC s := by
    simp only [usB, SX.den, hT.u268, Zv, U.tPi, U.tQi, Zf]
    rw [hgd]
   exact this.2 hg
  ·have : ((Go.Eng.SX.f2 45 (ZA (rA 5)) (usI 256 (gA 2) z0 z0)).den T ρ').tP ↔ (R.length : Int) = (s.fr.length : Nat) := by
    simp only [usI, ZA, SX.den, hT.u256, Zi, U.tIi, p45, Y8]
    rw [hgd]; exact Iff.rfl
   rw [this, hh.1]
  ·rw [Zg]; exact hmp.1
theorem ZKd (S : Sig GG) (hS : CsSig S) (g : SX) : Z7 S (ZkX g) := by
 refine Zw S fun T w0 ρ h hu hp hd hr hpre => ⟨ρ, Ext.refl _ _, ?_, by intro x hx; exact nomatch hx⟩
 have hT := hS.of hu hp hd
 have e1 : hpDen T ρ w0 (ZkX g).pre = Zb ((Ch.cel (ai 0) 0 (ZtN (ai 1) (ai 3) (ai 4) g)).den T ρ w0) (Zb ((mpC (ai 3) (mA 6)).den T ρ w0) (Zb (T.prd 60 w0 ((ai 4).den T ρ) ((iA 7).den T ρ)) (Zb (T.prd 70 w0 ((rA 5).den T ρ) ((gA 2).den T ρ)) emp))) := rfl
 have e2 : hpDen T ρ w0 (ZkX g).post = Zb (T.prd 72 w0 ((Zj (ZT (ai 0) (ai 1)) YD).den T ρ) (g.den T ρ)) emp := rfl
 rw [e1, Za, Zi6 hT, Zpv, hT.rg.p60, hT.p70] at hpre
 rw [e2, Za, hT.p72]
 have r1 := hr (eqS (iA 7) (rgX (rA 5))) (by simp [ZkX])
 have r2 := hr (usB 251 (mA 6) (rA 5) g) (by simp [ZkX])
 have r3 := hr (usB 268 g z0 z0) (by simp [ZkX])
 have r4 := hr (usB 274 g (gA 2) z0) (by simp [ZkX])
 simp only [eqS, rgX, usB, usN, SX.den, hT.rg.u242, hT.u251, hT.u268, hT.u274, Zv, ZQ, Zt, ZN, ZfH, rA, iA, mA, U.tNi, U.tRi, U.tMi, U.tPi, U.tQi, Zf, U.ints.injEq] at r1 r2 r3 r4
 have k1 : ((iA 7).den T ρ).tN = (ρ 5).tR.map g0 := r1
 rw [k1, <- r4] at hpre
 exact ⟨r3, (ρ 3).tI, (ρ 4).tI, (ρ 5).tR, (ρ 6).tM, r2, hpre⟩
theorem ZsC (S : Sig GG) (hS : CsSig S) : Z7 S ZM2 := by
 refine Zw S fun T w0 ρ h hu hp hd hr hpre => ⟨ρ, Ext.refl _ _, ?_, by intro x hx; exact nomatch hx⟩
 have hT := hS.of hu hp hd
 have e1 : hpDen T ρ w0 ZM2.pre = Zb (T.prd 50 w0 ((ai 0).den T ρ) ((gA 1).den T ρ)) emp := rfl
 have e2 : hpDen T ρ w0 ZM2.post = Zb (T.prd 50 w0 ((ai 0).den T ρ) ((usG 234 (gA 1) z0 z0).den T ρ)) emp := rfl
 rw [e1, Za, hT.dv.p50] at hpre
 rw [e2, Za, hT.dv.p50]
 have e : Zk ((usG 234 (gA 1) z0 z0).den T ρ) = Zk ((gA 1).den T ρ) := by simp only [usG, SX.den, hT.dv.u234, Zbf, Zr]
 rw [e]; exact hpre
theorem Zb9 (S : Sig GG) (hS : CsSig S) : Z7 S Znv := by
 refine Zw S fun T w0 ρ h hu hp hd hr hpre => ⟨ρ, Ext.refl _ _, ?_, by intro x hx; exact nomatch hx⟩
 have hT := hS.of hu hp hd
 have e1 : hpDen T ρ w0 Znv.pre = Zb ((Ch.cel (ai 0) 0 [pC (ai 1), .map (ai 3), pC (ai 4), .int .i64 (usI 257 (gA 2) z0 z0), .int .i64 z0, .int .i64 z0, .int .i64 z0, .int .i64 (ai 8), .int .i64 (ai 9), .int .i64 (ai 10)]).den T ρ w0) (Zb ((mpC (ai 3) (mA 6)).den T ρ w0) (Zb (T.prd 60 w0 ((ai 4).den T ρ) ((iA 7).den T ρ)) (Zb (T.prd 70 w0 ((rA 5).den T ρ) ((gA 2).den T ρ)) emp))) := rfl
 have e2 : hpDen T ρ w0 Znv.post = Zb (T.prd 72 w0 ((Zj (ZT (ai 0) (ai 1)) YD).den T ρ) ((Go.Eng.SX.us .g 267 (gA 2) (ai 8) (ai 9) (ai 10)).den T ρ)) emp := rfl
 have k3 : Zn ((Go.Eng.SX.us .g 267 (gA 2) (ai 8) (ai 9) (ai 10)).den T ρ) = { Zn ((gA 2).den T ρ) with hits := (ρ 8).tI, misses := (ρ 9).tI, evic := (ρ 10).tI } := by
  simp only [SX.den, hT.u267, Zbf, Zq]; rfl
 have k4 : (Ch.cel (ai 0) 0 [pC (ai 1), .map (ai 3), pC (ai 4), .int .i64 (usI 257 (gA 2) z0 z0), .int .i64 z0, .int .i64 z0, .int .i64 z0, .int .i64 (ai 8), .int .i64 (ai 9), .int .i64 (ai 10)]).den T ρ w0 =
   celK (ρ 0).tI (ρ 1).tI (ρ 3).tI (ρ 4).tI { Zn ((gA 2).den T ρ) with hits := (ρ 8).tI, misses := (ρ 9).tI, evic := (ρ 10).tI } := by
  simp only [pC, Ch.den, ZUs, List.map_nil, SC.den, usI, z0, SX.den, hT.u257, Zi, U.tIi, reduceCtorEq]
  rfl
 rw [e1, Za, k4, Zpv, hT.rg.p60, hT.p70] at hpre
 rw [e2, Za, hT.p72, k3]
 have r1 := hr (eqS (iA 7) (rgX (rA 5))) (by simp [Znv])
 have r2 := hr (usB 251 (mA 6) (rA 5) (gA 2)) (by simp [Znv])
 have r3 := hr (usB 268 (.us .g 267 (gA 2) (ai 8) (ai 9) (ai 10)) z0 z0) (by simp [Znv])
 have r3 : GoodC (Zn ((Go.Eng.SX.us .g 267 (gA 2) (ai 8) (ai 9) (ai 10)).den T ρ)) := by
  simpa only [usB, SX.den, hT.u268, Zv, U.tPi, U.tQi, Zf] using r3
 rw [k3] at r3
 simp only [eqS, rgX, usB, usN, SX.den, hT.rg.u242, hT.u251, Zv, ZQ, Zt, ZN, ZfH, rA, iA, mA, U.tNi, U.tRi, U.tMi, U.tPi, U.tQi, Zf, U.ints.injEq] at r1 r2
 have k1 : ((iA 7).den T ρ).tN = (ρ 5).tR.map g0 := r1
 rw [k1] at hpre
 exact ⟨r3, (ρ 3).tI, (ρ 4).tI, (ρ 5).tR, (ρ 6).tM, r2, hpre⟩
theorem ZIb (S : Sig GG) (hS : CsSig S) : Z7 S ZUc := by
 refine Zw S fun T w0 ρ h hu hp hd hr hpre => ⟨ρ, Ext.refl _ _, hpre, ?_⟩
 have hT := hS.of hu hp hd
 have e1 : hpDen T ρ w0 ZUc.pre = Zb (T.prd 50 w0 ((ai 0).den T ρ) ((gA 1).den T ρ)) emp := rfl
 rw [e1, Za, hT.dv.p50] at hpre
 intro q hq
 simp only [ZUc, List.mem_singleton] at hq
 subst hq
 have : ((usB 215 (gA 1) z0 z0).den T ρ).tP ↔ GoodD (Zk ((gA 1).den T ρ)) := by
  simp only [usB, SX.den, hT.dv.u215, Zv, U.tPi, U.tQi, Zf]
 exact this.2 hpre.1
theorem ZBv (S : Sig GG) (hS : CsSig S) : Z7 S ZOH := by
 refine Zw S fun T w0 ρ h hu hp hd hr hpre => ⟨ρ, Ext.refl _ _, ?_, (fun x hx => nomatch hx)⟩
 have hT := hS.of hu hp hd
 have e1 : hpDen T ρ w0 ZOH.pre = Zb ((Ch.cel (ai 0) 0 celN).den T ρ w0) (Zb (T.prd 70 w0 ((rA 5).den T ρ) ((gA 2).den T ρ)) emp) := rfl
 have e2 : hpDen T ρ w0 ZOH.post = Zb ((Ch.cel (ai 0) 0 (ZtN (ai 1) (ai 3) (ai 4) (.us .g 267 (gA 2) (ai 6) (ai 7) (ai 8)))).den T ρ w0) (Zb (T.prd 70 w0 ((rA 5).den T ρ) ((Go.Eng.SX.us .g 267 (gA 2) (ai 6) (ai 7) (ai 8)).den T ρ)) emp) := rfl
 have k3 : Zn ((Go.Eng.SX.us .g 267 (gA 2) (ai 6) (ai 7) (ai 8)).den T ρ) = { Zn ((gA 2).den T ρ) with hits := (ρ 6).tI, misses := (ρ 7).tI, evic := (ρ 8).tI } := by
  simp only [SX.den, hT.u267, Zbf, Zq]; rfl
 have k4 : (Ch.cel (ai 0) 0 celN).den T ρ w0 = celK (ρ 0).tI (ρ 1).tI (ρ 3).tI (ρ 4).tI { Zn ((gA 2).den T ρ) with hits := (ρ 6).tI, misses := (ρ 7).tI, evic := (ρ 8).tI } := by
  simp only [celN, pC, Ch.den, ZUs, List.map_nil, SC.den, usI, z0, SX.den, hT.u257, Zi, U.tIi, reduceCtorEq]
  rfl
 rw [e1, Za, k4, hT.p70] at hpre
 rw [e2, Za, Zi6 hT, hT.p70, k3]
 exact hpre
theorem ZCA {T : Sig GG} (hT : CsSig T) (ρ : Go.Eng.Env GG) (w0 : World) (c g i bb bc : SX) : (Ch.cel c 2 (fcQ g i bb bc)).den T ρ w0 =
  frD [(c.den T ρ).tI, (bb.den T ρ).tI, (bc.den T ρ).tI] ((Zn (g.den T ρ)).at' (i.den T ρ).tI) := by
 unfold fcQ
 rw [Zei]
 simp only [usI, usY, usB, z0, ZP, SX.den, hT.u252, hT.u253, hT.u254, hT.u255, Zi, Zu, Zv, U.tIi, U.tQi, U.tBi, Za1]
 rfl
theorem Zok {r s : List Int} (h0 : g0 r = g0 s) (h1 : g1 r = g1 s) (h2 : g2 r = g2 s) (f : Fr) : frD r f = frD s f := by unfold frD; rw [h0, h1, h2]
theorem ZbE (S : Sig GG) (hS : CsSig S) : Z7 S Zln := by
 refine Zw S fun T w0 ρ h hu hp hd hr hpre => ⟨ρ, Ext.refl _ _, ?_⟩
 have hT := hS.of hu hp hd
 have e1 : hpDen T ρ w0 Zln.pre = Zb (T.prd 70 w0 ((rA 1).den T ρ) ((gA 2).den T ρ)) emp := rfl
 have e2 : hpDen T ρ w0 Zln.post = Zb ((Ch.cel (ai 0) 2 (fcQ (gA 2) (ixX (rA 1) (ai 0)) (nt (rA 1) (ixX (rA 1) (ai 0)) 1) (nt (rA 1) (ixX (rA 1) (ai 0)) 2))).den T ρ w0) (Zb (ZM T .bytes ((nt (rA 1) (ixX (rA 1) (ai 0)) 1).den T ρ) ((usY 253 (gA 2) (ixX (rA 1) (ai 0)) z0).den T ρ) ((nt (rA 1) (ixX (rA 1) (ai 0)) 2).den T ρ)) (Zb (T.prd 71 w0 ((Zj (Yy (ixX (rA 1) (ai 0))) (rA 1)).den T ρ) ((gA 2).den T ρ)) emp)) := rfl
 have r1 := hr (eLt (ixX (rA 1) (ai 0)) (ZA (rA 1))) (by simp [Zln])
 have hix : ((ixX (rA 1) (ai 0)).den T ρ) = .int (Zcc (ρ 0).tI (ρ 1).tR : Nat) := by
  simp only [ixX, usI, SX.den, hT.u250, Zi, rA, ai, Zt, U.tIi, U.tRi]
 rw [Yc, hix] at r1
 have r1 : ((Zcc (ρ 0).tI (ρ 1).tR : Nat) : Int) < ((ρ 1).tR.length : Nat) := r1
 have hi : Zcc (ρ 0).tI (ρ 1).tR < (ρ 1).tR.length := by omega
 have hl := ZjW hi
 have hn : ∀ k, ((nt (rA 1) (ixX (rA 1) (ai 0)) k).den T ρ) = .int (((ρ 1).tR.getD (Zcc (ρ 0).tI (ρ 1).tR) []).getD k 0) := by
  intro k
  show (ap3 112 ((rA 1).den T ρ) ((ixX (rA 1) (ai 0)).den T ρ) (U.int (k : Int))) = _
  rw [hix, YE]; rfl
 have hb : ((usY 253 (gA 2) (ixX (rA 1) (ai 0)) z0).den T ρ) = .bytes ((Zn ((gA 2).den T ρ)).at' (Zcc (ρ 0).tI (ρ 1).tR : Nat)).b := by
  simp only [usY, SX.den, hT.u253, hix, Zu, Zi, U.tIi, U.tBi]
 rw [e1, Za, hT.p70] at hpre
 have k1 : ((rA 1).den T ρ).tR = (ρ 1).tR := rfl
 rw [k1] at hpre
 rw [e2, Za, ZCA hT, hn, hn, hb, hT.p71, hix]
 have k2 : ((Zj (Yy (ixX (rA 1) (ai 0))) (rA 1)).den T ρ).tR = [((ixX (rA 1) (ai 0)).den T ρ).tI] :: (ρ 1).tR := rfl
 rw [k2, hix, Zhm]
 have hlen := Zdq hpre
 generalize Zn ((gA 2).den T ρ) = s at *
 rw [ZfU hlen hi] at hpre
 generalize hI : Zcc (ρ 0).tI (ρ 1).tR = I at *
 rw [Zp] at hpre
 unfold ZDq at hpre
 rw [star_assoc] at hpre
 have hk : (ρ 0).tI = g0 ((ρ 1).tR.getD I []) := hl.symm
 have ea : frD [((ai 0).den T ρ).tI, (U.int (((ρ 1).tR.getD I []).getD 1 0) : U GG).tI, (U.int (((ρ 1).tR.getD I []).getD 2 0) : U GG).tI] (s.at' (U.int (I : Nat) : U GG).tI) = frD ((ρ 1).tR.getD I []) (s.fr.getD I fr0) :=
  Zok (show g0 [(ρ 0).tI, _, _] = _ from hk) rfl rfl _
 rw [ea]
 refine ⟨hpre, ?_⟩
 obtain ⟨_, _, _, hq⟩ := Zo hpre
 obtain ⟨_, _, hba, _⟩ := Zo hq
 have hle := Zgy hba
 obtain ⟨_, _, _, hb0, _⟩ := hba
 intro q hq
 simp only [Zln, List.mem_cons, List.not_mem_nil, or_false] at hq
 rcases hq with rfl | rfl
 ·rw [Zg, hn]
  have e : ((ZP (usY 253 (gA 2) (ixX (rA 1) (ai 0)) z0)).den T ρ).tI = ((s.at' (I : Nat)).b.length : Nat) := by
   show (ap1 31 ((usY 253 (gA 2) (ixX (rA 1) (ai 0)) z0).den T ρ)).tI = _
   rw [hb]; rfl
  rw [e]; exact hle
 ·have e : ((ZP (usY 253 (gA 2) (ixX (rA 1) (ai 0)) z0)).den T ρ).tI = ((s.at' (I : Nat)).b.length : Nat) := by
   show (ap1 31 ((usY 253 (gA 2) (ixX (rA 1) (ai 0)) z0).den T ρ)).tI = _
   rw [hb]; rfl
  have goal : 0 <= ((ρ 1).tR.getD I []).getD 1 0 \/ (((s.at' (I : Nat)).b.length : Nat) : Int) = 0 := by
   rcases hb0 with h | h
   ·exact .inl h
   ·have h : g2 ((ρ 1).tR.getD I []) = 0 := h
    rw [h] at hle
    exact .inr (by have hle : (((s.fr.getD I fr0).b.length : Nat) : Int) <= 0 := hle; show (((s.fr.getD I fr0).b.length : Nat) : Int) = 0; omega)
  simp only [SX.den, p50]
  rcases goal with g | g
  ·left
   show ((eLe z0 (nt (rA 1) (ixX (rA 1) (ai 0)) 1)).den T ρ).tP
   rw [Zg, hn]; exact g
  ·right
   show (ap2 45 ((ZP (usY 253 (gA 2) (ixX (rA 1) (ai 0)) z0)).den T ρ) (z0.den T ρ)).tP
   rw [p45, e]; exact g
theorem ZEA (S : Sig GG) (hS : CsSig S) : Z7 S ZuG := by
 refine Zw S fun T w0 ρ h hu hp hd hr hpre => ⟨ρ, Ext.refl _ _, ?_, (fun x hx => nomatch hx)⟩
 have hT := hS.of hu hp hd
 have e1 : hpDen T ρ w0 ZuG.pre = Zb ((Ch.cel (ai 0) 2 [.int .i64 (ai 10), sl1 (ai 4) (ai 5) (ai 6), .bool (qA 8), .int .i64 (ai 9)]).den T ρ w0) (Zb (bAD (ρ 4).tI (ρ 7).tB (ρ 6).tI) (Zb (T.prd 71 w0 ((Zj (Yy (ai 1)) (rA 2)).den T ρ) ((gA 3).den T ρ)) emp)) := rfl
 have e2 : hpDen T ρ w0 ZuG.post = Zb (T.prd 70 w0 ((usR 269 (rA 2) (ai 1) (Yf (ai 0) (ai 4) (ai 6))).den T ρ) ((Go.Eng.SX.us .g 266 (gA 3) (ai 1) (tkB (bA 7) (ai 5)) (ZT (.f1 3 (qA 8)) (ai 9))).den T ρ)) emp := rfl
 have r0 := hr (eLe z0 (ai 1)) (by simp [ZuG])
 have r1 := hr (eLt (ai 1) (ZA (rA 2))) (by simp [ZuG])
 have r2 := hr (.f2 45 (ai 10) (usI 252 (gA 3) (ai 1) z0)) (by simp [ZuG])
 have r3 := hr (eLe z0 (ai 5)) (by simp [ZuG])
 have r4 := hr (eLe (ai 5) (ZP (bA 7))) (by simp [ZuG])
 rw [Zg] at r0 r3 r4
 rw [Yc] at r1
 simp only [usI, SX.den, hT.u252, Zi, U.tIi, p45, ai] at r2
 have r0 : 0 <= (ρ 1).tI := r0
 have r1 : (ρ 1).tI < ((ρ 2).tR.length : Nat) := r1
 have r3 : 0 <= (ρ 5).tI := r3
 have r4 : (ρ 5).tI <= ((ρ 7).tB.length : Nat) := r4
 have k1 : ((Zj (Yy (ai 1)) (rA 2)).den T ρ).tR = [(ρ 1).tI] :: (ρ 2).tR := rfl
 rw [e1, Za, Zei, hT.p71, k1, Zhm] at hpre
 have k2 : ((usR 269 (rA 2) (ai 1) (Yf (ai 0) (ai 4) (ai 6))).den T ρ).tR = ZIE (ρ 2).tR (ρ 1).tI [(ρ 0).tI, (ρ 4).tI, (ρ 6).tI] := by
  simp only [usR, SX.den, hT.u269, Zt, U.tRi]; try rfl
 have k3 : Zn ((Go.Eng.SX.us .g 266 (gA 3) (ai 1) (tkB (bA 7) (ai 5)) (ZT (.f1 3 (qA 8)) (ai 9))).den T ρ) = (Zn ((gA 3).den T ρ)).putF (ρ 1).tI ((ρ 7).tB.take (ρ 5).tI.toNat) [(ap1 3 (U.bool (ρ 8).toBool : U GG)).tI, (ρ 9).tI] := by
  simp only [SX.den, hT.u266, Zbf, Zq]; rfl
 rw [e2, Za, hT.p70, k2, k3]
 generalize Zn ((gA 3).den T ρ) = s at hpre r2 ⊢
 obtain ⟨a, b1, d1, rfl, ⟨ha1, ha2⟩, b, c1, d2, rfl, hb, hc⟩ := hpre
 obtain ⟨c, e, d3, rfl, hc1, hc2⟩ := hc
 have hl1 := Zdq hc1
 have hl2 := Zdq hc2
 rw [ZUl, ZUl] at hl1
 rw [ZUx, ZUx] at hl2
 unfold ZIE Cs.putF Cs.put
 show frH (_ ++ [_, _, _] :: _) (_ ++ _ :: _) _
 rw [<- List.singleton_append, <- List.singleton_append (l := s.fr.drop _), ZbS _ _ (by rw [ZUl, ZUl]; omega), ZbS _ _ (show [_].length = [_].length from rfl), ZjP]
 have hlen : (((ρ 7).tB.take (ρ 5).tI.toNat).length : Int) = (ρ 5).tI := by rw [ZUl]; omega
 have hdirty : ((ap1 3 (U.bool (ρ 8).toBool : U GG)).tI == 1) = (ρ 8).toBool := by cases (ρ 8).toBool <;> rfl
 have hh : Zb (frD [(ρ 0).tI, (ρ 4).tI, (ρ 6).tI] ⟨(s.at' (ρ 1).tI).n, (ρ 7).tB.take (ρ 5).tI.toNat, (ap1 3 (U.bool (ρ 8).toBool : U GG)).tI == 1, (ρ 9).tI⟩)
   (Zb (bAD (ρ 4).tI ((ρ 7).tB.take (ρ 5).tI.toNat) (ρ 6).tI) (Zb (frH ((ρ 2).tR.take (ρ 1).tI.toNat) (s.fr.take (ρ 1).tI.toNat)) (frH ((ρ 2).tR.drop ((ρ 1).tI.toNat + 1)) (s.fr.drop ((ρ 1).tI.toNat + 1))))) _ :=
  ⟨a, _, d1, rfl, ⟨ha1, by
   show row (ρ 0).tI.toNat 2 [.int .i64 (s.at' (ρ 1).tI).n, slV (ρ 4).tI (((ρ 7).tB.take (ρ 5).tI.toNat).length : Nat) (ρ 6).tI, .bool _, .int .i64 (ρ 9).tI] true a
   rw [hlen, hdirty, <- r2]; exact ha2⟩, b, _, d2, rfl, ZfV _ hb, c, e, d3, rfl, hc1, hc2⟩
 rw [<- star_assoc, Zl] at hh
 exact hh
theorem Zcp (S : Sig GG) (hS : CsSig S) : Z7 S ZkV := by
 refine Zw S fun T w0 ρ h hu hp hd hr hpre => ⟨ρ, Ext.refl _ _, ?_, (fun x hx => nomatch hx)⟩
 have hT := hS.of hu hp hd
 have e1 : hpDen T ρ w0 ZkV.pre = Zb (T.prd 71 w0 ((Zj (Yy (ai 1)) (rA 2)).den T ρ) ((gA 3).den T ρ)) (Zb ((Ch.cel (ai 0) 2 (fcQ (gA 3) (ai 1) (nt (rA 2) (ai 1) 1) (nt (rA 2) (ai 1) 2))).den T ρ w0) (Zb (ZM T .bytes ((nt (rA 2) (ai 1) 1).den T ρ) ((usY 253 (gA 3) (ai 1) z0).den T ρ) ((nt (rA 2) (ai 1) 2).den T ρ)) emp)) := rfl
 have e2 : hpDen T ρ w0 ZkV.post = Zb (T.prd 70 w0 ((rA 2).den T ρ) ((gA 3).den T ρ)) emp := rfl
 have r0 := hr (eLe z0 (ai 1)) (by simp [ZkV])
 have r1 := hr (eLt (ai 1) (ZA (rA 2))) (by simp [ZkV])
 have r2 := hr (.f2 45 (ai 0) (nt (rA 2) (ai 1) 0)) (by simp [ZkV])
 have r3 := hr (.f2 45 (ZA (rA 2)) (usI 256 (gA 3) z0 z0)) (by simp [ZkV])
 simp only [ZA, usI, SX.den, hT.u256, p45, Y8, U.tIi, Zi] at r3
 have r3 : ((ρ 2).tR.length : Int) = ((Zn ((gA 3).den T ρ)).fr.length : Nat) := r3
 rw [Zg] at r0
 rw [Yc] at r1
 have r0 : 0 <= (ρ 1).tI := r0
 have r1 : (ρ 1).tI < ((ρ 2).tR.length : Nat) := r1
 have hn : ∀ k, ((nt (rA 2) (ai 1) k).den T ρ) = .int (((ρ 2).tR.getD (ρ 1).tI.toNat []).getD k 0) := by
  intro k
  show (ap3 112 ((rA 2).den T ρ) ((ai 1).den T ρ) (U.int (k : Int))) = _
  rw [YE]; rfl
 have r2 : (ρ 0).tI = g0 ((ρ 2).tR.getD (ρ 1).tI.toNat []) := by
  simp only [SX.den, hn, p45, U.tIi, ai, Zi] at r2; exact r2
 have hb : ((usY 253 (gA 3) (ai 1) z0).den T ρ) = .bytes ((Zn ((gA 3).den T ρ)).at' (ρ 1).tI).b := by
  simp only [usY, SX.den, hT.u253, Zu, Zi, U.tIi, U.tBi, ai]
 have k2 : ((Zj (Yy (ai 1)) (rA 2)).den T ρ).tR = [(ρ 1).tI] :: (ρ 2).tR := rfl
 rw [e1, Za, ZCA hT, hn, hn, hb, hT.p71, k2, Zhm] at hpre
 rw [e2, Za, hT.p70]
 have k1 : ((rA 2).den T ρ).tR = (ρ 2).tR := rfl
 have k3 : ((ai 1).den T ρ).tI = (ρ 1).tI := rfl
 rw [k1]
 rw [k3] at hpre
 generalize Zn ((gA 3).den T ρ) = s at *
 have hlen : (ρ 2).tR.length = s.fr.length := by
  omega
 rw [ZfU hlen (show (ρ 1).tI.toNat < _ by omega)]
 have ea : frD [((ai 0).den T ρ).tI, (U.int (((ρ 2).tR.getD (ρ 1).tI.toNat []).getD 1 0) : U GG).tI, (U.int (((ρ 2).tR.getD (ρ 1).tI.toNat []).getD 2 0) : U GG).tI] (s.at' (ρ 1).tI) = frD ((ρ 2).tR.getD (ρ 1).tI.toNat []) (s.fr.getD (ρ 1).tI.toNat fr0) :=
  Zok (show g0 [(ρ 0).tI, _, _] = _ from r2) rfl rfl _
 rw [ea] at hpre
 exact hpre
theorem ZSo (S : Sig GG) (hS : CsSig S) : Z7 S gnFC := by
 refine Zw S fun T w0 ρ h hu hp hd hr hpre => ⟨ρ, Ext.refl _ _, ?_, (fun x hx => nomatch hx)⟩
 have hT := hS.of hu hp hd
 have e1 : hpDen T ρ w0 gnFC.pre = Zb (T.prd 71 w0 ((Zj (Yy (ai 0)) (rA 1)).den T ρ) ((gA 2).den T ρ)) emp := rfl
 have e2 : hpDen T ρ w0 gnFC.post = Zb (T.prd 70 w0 ((usR 271 (rA 1) (ai 0) z0).den T ρ) ((usG 264 (gA 2) (ai 0) z0).den T ρ)) emp := rfl
 have k1 : ((Zj (Yy (ai 0)) (rA 1)).den T ρ).tR = [(ρ 0).tI] :: (ρ 1).tR := rfl
 rw [e1, Za, hT.p71, k1, Zhm] at hpre
 have k2 : ((usR 271 (rA 1) (ai 0) z0).den T ρ).tR = ZjM (ρ 1).tR (ρ 0).tI := by
  simp only [usR, SX.den, hT.u271, Zt, U.tRi]; try rfl
 have k3 : Zn ((usG 264 (gA 2) (ai 0) z0).den T ρ) = (Zn ((gA 2).den T ρ)).gone (ρ 0).tI := by
  simp only [usG, SX.den, hT.u264, Zbf, Zq]; rfl
 rw [e2, Za, hT.p70, k2, k3]
 generalize Zn ((gA 2).den T ρ) = s at hpre ⊢
 have hl : ((ρ 1).tR.take (ρ 0).tI.toNat).length = (s.fr.take (ρ 0).tI.toNat).length := by
  obtain ⟨_, _, h1, _⟩ := Zo hpre
  exact Zdq h1
 unfold ZjM Cs.gone
 show frH (_ ++ _) (_ ++ _) h
 rw [ZbS _ _ hl]
 exact hpre
theorem ZIB (S : Sig GG) (hS : CsSig S) : Z7 S ZOz := by
 refine Zw S fun T w0 ρ h hu hp hd hr hpre => ⟨ρ, Ext.refl _ _, ?_, (fun x hx => nomatch hx)⟩
 have hT := hS.of hu hp hd
 have e1 : hpDen T ρ w0 ZOz.pre = Zb (T.prd 70 w0 ((rA 1).den T ρ) ((gA 2).den T ρ)) emp := rfl
 have e2 : hpDen T ρ w0 ZOz.post = Zb (T.prd 70 w0 ((usR 270 (rA 1) (ixX (rA 1) (ai 0)) z0).den T ρ) ((usG 263 (gA 2) (ixX (rA 1) (ai 0)) z0).den T ρ)) emp := rfl
 have r1 := hr (eLt (ixX (rA 1) (ai 0)) (ZA (rA 1))) (by simp [ZOz])
 have hix : ((ixX (rA 1) (ai 0)).den T ρ) = .int (Zcc (ρ 0).tI (ρ 1).tR : Nat) := by
  simp only [ixX, usI, SX.den, hT.u250, Zi, rA, ai, Zt, U.tIi, U.tRi]
 rw [Yc, hix] at r1
 have r1 : ((Zcc (ρ 0).tI (ρ 1).tR : Nat) : Int) < ((ρ 1).tR.length : Nat) := r1
 have hi : Zcc (ρ 0).tI (ρ 1).tR < (ρ 1).tR.length := by omega
 rw [e1, Za, hT.p70] at hpre
 have k1 : ((rA 1).den T ρ).tR = (ρ 1).tR := rfl
 rw [k1] at hpre
 have k2 : ((usR 270 (rA 1) (ixX (rA 1) (ai 0)) z0).den T ρ).tR = Zty (ρ 1).tR (Zcc (ρ 0).tI (ρ 1).tR : Nat) := by
  simp only [usR, SX.den, hT.u270, hix, Zt, U.tRi, Zi, U.tIi]; try rfl
 have k3 : Zn ((usG 263 (gA 2) (ixX (rA 1) (ai 0)) z0).den T ρ) = (Zn ((gA 2).den T ρ)).touch (Zcc (ρ 0).tI (ρ 1).tR : Nat) := by
  simp only [usG, SX.den, hT.u263, hix, Zbf, Zq, Zi, U.tIi]; try rfl
 rw [e2, Za, hT.p70, k2, k3]
 have hlen := Zdq hpre
 generalize Zn ((gA 2).den T ρ) = s at *
 generalize Zcc (ρ 0).tI (ρ 1).tR = I at *
 rw [ZfU hlen hi] at hpre
 unfold Zty ZjM Cs.touch Cs.add Cs.gone Cs.at'
 show frH (_ ++ _ ++ [_]) (_ ++ _ ++ [_]) h
 simp only [ZUq]
 rw [ZbS _ _ (by simp only [ZUo, ZUl, ZUx]; omega), ZbS _ _ (by simp only [ZUl]; omega), ZjP]
 exact hpre
theorem ZQb (S : Sig GG) (hS : CsSig S) : Z7 S ZOu := by
 refine Zw S fun T w0 ρ h hu hp hd hr hpre => ⟨ρ, Ext.refl _ _, ?_, (fun x hx => nomatch hx)⟩
 have hT := hS.of hu hp hd
 have e1 : hpDen T ρ w0 ZOu.pre = Zb ((Ch.cel (ai 0) 2 [.int .i64 (ai 3), sl1 (ai 4) (ai 5) (ai 6), .bool (.bool false), .int .i64 z0]).den T ρ w0) (Zb (bAD (ρ 4).tI (ρ 7).tB (ρ 6).tI) (Zb (T.prd 70 w0 ((rA 1).den T ρ) ((gA 2).den T ρ)) emp)) := rfl
 have e2 : hpDen T ρ w0 ZOu.post = Zb (T.prd 70 w0 ((Go.Eng.SX.f2 121 (rA 1) (.f2 124 (Yf (ai 0) (ai 4) (ai 6)) YD)).den T ρ) ((usG 265 (gA 2) (ai 3) (tkB (bA 7) (ai 5))).den T ρ)) emp := rfl
 have r3 := hr (eLe z0 (ai 5)) (by simp [ZOu])
 have r4 := hr (eLe (ai 5) (ZP (bA 7))) (by simp [ZOu])
 rw [Zg] at r3 r4
 have r3 : 0 <= (ρ 5).tI := r3
 have r4 : (ρ 5).tI <= ((ρ 7).tB.length : Nat) := r4
 rw [e1, Za, Zei, hT.p70] at hpre
 have k1 : ((rA 1).den T ρ).tR = (ρ 1).tR := rfl
 rw [k1] at hpre
 have k2 : ((Go.Eng.SX.f2 121 (rA 1) (.f2 124 (Yf (ai 0) (ai 4) (ai 6)) YD)).den T ρ).tR = (ρ 1).tR ++ [[(ρ 0).tI, (ρ 4).tI, (ρ 6).tI]] := rfl
 have k3 : Zn ((usG 265 (gA 2) (ai 3) (tkB (bA 7) (ai 5))).den T ρ) = (Zn ((gA 2).den T ρ)).addF (ρ 3).tI ((ρ 7).tB.take (ρ 5).tI.toNat) := by
  simp only [usG, SX.den, hT.u265, Zbf, Zq]; rfl
 rw [e2, Za, hT.p70, k2, k3]
 generalize Zn ((gA 2).den T ρ) = s at hpre ⊢
 obtain ⟨a, b1, d1, rfl, ⟨ha1, ha2⟩, b, c, d2, rfl, hb, hc⟩ := hpre
 have hl := Zdq hc
 unfold Cs.addF Cs.add
 show frH (_ ++ [_]) (_ ++ [_]) _
 rw [ZbS _ _ hl, ZjP]
 have hlen : (((ρ 7).tB.take (ρ 5).tI.toNat).length : Int) = (ρ 5).tI := by rw [ZUl]; omega
 have hh : Zb (frD [(ρ 0).tI, (ρ 4).tI, (ρ 6).tI] ⟨(ρ 3).tI, (ρ 7).tB.take (ρ 5).tI.toNat, false, 0⟩)
   (Zb (bAD (ρ 4).tI ((ρ 7).tB.take (ρ 5).tI.toNat) (ρ 6).tI) (frH (ρ 1).tR s.fr)) _ :=
  ⟨a, _, d1, rfl, ⟨ha1, by
   show row (ρ 0).tI.toNat 2 [.int .i64 (ρ 3).tI, slV (ρ 4).tI (((ρ 7).tB.take (ρ 5).tI.toNat).length : Nat) (ρ 6).tI, .bool false, .int .i64 0] true a
   rw [hlen]; exact ha2⟩, b, c, d2, rfl, ZfV _ hb, hc⟩
 rw [<- star_assoc, Zp] at hh
 exact hh
theorem ZCk (S : Sig GG) : Z7 S ZRB := by
 refine Zw S fun T w0 ρ h hu hp hd hr hpre => ⟨ρ, Ext.refl _ _, ?_, (fun x hx => nomatch hx)⟩
 have e1 : hpDen T ρ w0 ZRB.pre = Zb ((Ch.cel (ai 0) 0 [pC (ai 1), pC (ai 2), .int .i64 (ai 3), sl1 (ai 4) (ai 5) (ai 6), .bool (qA 7), .int .i64 (ai 8)]).den T ρ w0) emp := rfl
 have e2 : hpDen T ρ w0 ZRB.post = Zb ((ndC (ai 0) (ai 1) (ai 2)).den T ρ w0) (Zb ((Ch.cel (ai 0) 2 [.int .i64 (ai 3), sl1 (ai 4) (ai 5) (ai 6), .bool (qA 7), .int .i64 (ai 8)]).den T ρ w0) emp) := rfl
 have e3 : (Ch.cel (ai 0) 0 [pC (ai 1), pC (ai 2), .int .i64 (ai 3), sl1 (ai 4) (ai 5) (ai 6), .bool (qA 7), .int .i64 (ai 8)]).den T ρ w0 =
   fun h => (0 <= (ρ 0).tI \/ False) /\ row (ρ 0).tI.toNat 0 ([pV (ρ 1).tI, pV (ρ 2).tI] ++ [.int .i64 (ρ 3).tI, slV (ρ 4).tI (ρ 5).tI (ρ 6).tI, .bool (ρ 7).toBool, .int .i64 (ρ 8).tI]) true h := by
  simp only [Ch.den, pC, ZUs, List.map_nil, sl1, ZaA, SC.den, reduceCtorEq]
  rfl
 rw [e1, Za, e3] at hpre
 obtain ⟨h0, hrow⟩ := hpre
 rw [Ztv] at hrow
 obtain ⟨a, b, d, e, ha, hb⟩ := hrow
 rw [e2, Za, Z4, Zei]
 exact ⟨a, b, d, e, ⟨h0, ha⟩, h0, hb⟩
def ZQD : SX := .f2 45 (Zb7 (iA 2)) (.int 1)
def ZBS : Ctr := ⟨[.int, .int, .ints], [.one (.ptr (ai 0) 0)], [rgC (ai 1) (iA 2)], [ZLk (iA 2) (ai 0)], [.int, .int], .tup [], [rgC (ai 1) (erX (iA 2) (ai 0)), ndC (ai 0) (ai 3) (ai 4)], []⟩
def ZSB : Cx := { specs := [], anns := [(39, [(0, .split ZQD), (0, .iff ZQD), (0, .ghost ZM8 [.tmp 0]), (0, .iff (ZcW ZQD)), (0, .ghost ZOv [.tmp 0]), (500000, .iff ZQD), (500000, .ghost sh1C [.tmp 5]), (500000, .iff (ZcW ZQD)), (500000, .ghost sh2C [.tmp 5, .tmp 9])])] }
def ZTi : SX := .f2 45 (Zb7 (iA 2)) z0
def Zvq : Ctr := ⟨[.int, .int, .ints, .int, .int], [.one (.ptr (ai 0) 0), .one (.ptr (ai 1) 0)], [rgC (ai 1) (iA 2), ndC (ai 0) (ai 3) (ai 4)], [], [], .tup [], [rgC (ai 1) (snX (iA 2) (ai 0))], []⟩
def ZRb : Cx := { specs := [], anns := [(40, [(0, .split ZTi), (0, .iff ZTi), (0, .ghost ZOG [.tmp 1]), (0, .iff (ZcW ZTi)), (0, .ghost ZPb [.tmp 1]), (500002, .iff ZTi), (500002, .ghost se1C [.tmp 0, .tmp 1]), (500002, .iff (ZcW ZTi)), (500002, .ghost se2C [.tmp 0, .tmp 1, .tmp 18])])] }
def ZTZ : VC := i (c 241 (s 2) (a 0)) (.and (i (e (.f1 30 (s 2)) (k 1)) (i (.f2 155 (s 2) (wN 243 (.f1 152 z) (a 0))) (n (.f2 155 (wN 240 (s 2) (a 0)) (.f1 152 z)) .tt))) (i (.f1 2 (e (.f1 30 (s 2)) (k 1))) (u 3 .int (u 4 .int (u 5 .int (u 6 .int .tt))))))
theorem ZPh : Yk Tryz.prog ZSB 12 39 ZBS = ZTZ := by kernel_rfl
def ZTa : VC := .and (i (e (.f1 30 (s 2)) z) (i (.f2 155 (s 2) (.f1 152 z)) (n (.f2 155 (wN 243 (s 2) (a 0)) (wN 243 (.f1 152 z) (a 0))) .tt))) (i (.f1 2 (e (.f1 30 (s 2)) z)) (u 5 .int (u 6 .int (u 7 .int .tt))))
theorem ZPi : Yk Tryz.prog ZRb 12 40 Zvq = ZTa := by kernel_rfl
theorem ZQ6 (S : Sig GG) (hS : RgSig S) : Zs S Tryz.prog 39 ZBS := by
 refine Zd S (C := ZSB) (fuel := 12) (Zx trivial ⟨⟨trivial, trivial, ⟨by decide, ZR4 S hS⟩, trivial, ⟨by decide, ZT4 S hS⟩, trivial, ⟨by decide, ZQ1 S hS⟩, trivial, ⟨by decide, ZPt S hS⟩, trivial⟩, trivial⟩ trivial) fun ρ => ?_
 rw [ZPh]
 simp only [ZTZ, VC.den, SX.den, ZN, Env.upd, ZS, Zao, Z3, Z2, ZB, ZI, ZJ, ZH, beq_iff_eq, Bool.not_eq_true', beq_eq_false_iff_ne, ne_eq, Bool.not_not, U.tMi, Int.toNat_zero, Nat.reduceEqDiff, reduceIte, Zf, ZK, ZG, U.int.injEq, srg hS, sB]
 intro hm
 refine ⟨fun h1 h2 => ?_, fun h1 _ _ _ _ => trivial⟩
 rw [h2]
 simp
theorem ZSK (S : Sig GG) (hS : RgSig S) : Zs S Tryz.prog 40 Zvq := by
 refine Zd S (C := ZRb) (fuel := 12) (Zx trivial ⟨⟨trivial, trivial, ⟨by decide, ZO8 S hS⟩, trivial, ⟨by decide, ZQ0 S hS⟩, trivial, ⟨by decide, ZQO S hS⟩, trivial, ⟨by decide, ZQv S hS⟩, trivial⟩, trivial⟩ trivial) fun ρ => ?_
 rw [ZPi]
 simp only [ZTa, VC.den, SX.den, ZN, Env.upd, ZS, Zao, Z3, Z2, ZB, ZI, ZJ, ZH, beq_iff_eq, Bool.not_eq_true', beq_eq_false_iff_ne, ne_eq, Bool.not_not, U.tMi, Int.toNat_zero, Nat.reduceEqDiff, reduceIte, Zf, ZK, ZG, U.int.injEq, srg hS, sB]
 refine ⟨fun h1 h2 => ?_, fun h1 _ _ _ => trivial⟩
 rw [h2]
 exact ⟨rfl, trivial⟩
def opT : List Srt := [.int, .int, .g, .int, .int, .rows, .amap, .ints]
def opS (g : SX) : List Ch := [.cel (ai 0) 0 (ZtN (ai 1) (ai 3) (ai 4) g), mpC (ai 3) (mA 6), rgC (ai 4) (iA 7), frC (rA 5) g]
def opR (g : SX) : List SX := [eqS (iA 7) (rgX (rA 5)), usB 251 (mA 6) (rA 5) g, usB 268 g z0 z0]
def Zpp : Ctr := ⟨opT, [.one (.ptr (ai 0) 0)], opS (gA 2), opR (gA 2), [], .one (.bool (eLe (usI 257 (gA 2) z0 z0) (usI 256 (gA 2) z0 z0))), opS (gA 2), []⟩
def ZHZ : Cx := { specs := [], anns := [] }
def Zxu : Ctr := ⟨opT, [.one (.ptr (ai 0) 0)], opS (gA 2), opR (gA 2), [], .one (.ptr (usI 272 (rA 5) (gA 2) z0) 0), opS (gA 2), []⟩
def oldW : SX := usI 245 (ai 4) (iA 7) (di 0)
def oldI : Inv := ⟨[.int], [(3, .one (.ptr (di 0) 0))], [], [usB 248 (ai 4) (iA 7) (di 0), eLe oldW (usI 261 (gA 2) z0 z0)], .f2 41 (ZA (rA 5)) oldW⟩
def oldE : SX := .f2 45 (ai 9) (ai 4)
def ZOX : Cx := { specs := [], anns := [(74, [(1, .ghost Zol []), (1, .ghost onHC [.tmp 0]), (500001, .ghost ZRc []), (2, .inv oldI), (2, .split oldE), (2, .iff (ZcW oldE)), (2, .ghost ZOV [.tmp 3]), (500002, .iff (ZcW oldE)), (500002, .ghost sn2C []), (4, .ghost Zln [.tmp 3]), (5, .ghost ZkV [.tmp 3]), (3, .ghost ZkV [.tmp 3]), (3, .ghost onC [.tmp 3]), (500003, .ghost ZRc [])])] }
def ZIa : VC := i (.f2 155 (s 7) (o 242 (r 5))) (i (y 251 (m 6) (r 5) (g 2)) (i (p 268 (g 2)) (n (.f2 155 (l (v 257 (g 2)) (v 256 (g 2))) (l (v 257 (g 2)) (.f1 33 (m 6)))) .tt)))
theorem ZIW : Yk Tryz.prog ZHZ 12 73 Zpp = ZIa := by kernel_rfl
def ZSc : VC := i (.f2 155 (s 7) (o 242 (r 5))) (i (y 251 (m 6) (r 5) (g 2)) (i (p 268 (g 2)) (i (c 246 (a 4) (s 7)) (i (c 249 (a 4) (s 7)) (u 8 .int (n (y 248 (a 4) (s 7) (x 247 (a 4) (s 7) (a 4))) (n (l (x 245 (a 4) (s 7) (x 247 (a 4) (s 7) (a 4))) (v 261 (g 2))) (u 9 .int (i (y 248 (a 4) (s 7) (a 9)) (i (l (x 245 (a 4) (s 7) (a 9)) (v 261 (g 2))) (.and (i (e (a 9) (a 4)) (n (l z (a 9)) (n (e (d 272 (r 5) (g 2)) (k (- (0 + 1)))) .tt))) (i (.f1 2 (e (a 9) (a 4))) (u 10 .int (u 11 .int (u 12 .int (u 13 .int (n (t (d 250 (r 5) (a 9)) (.f1 32 (r 5))) (i (l (.f1 31 (wB 253 (g 2) (d 250 (r 5) (a 9)))) (.f3 112 (r 5) (d 250 (r 5) (a 9)) (k 2))) (i (.f2 50 (l z (.f3 112 (r 5) (d 250 (r 5) (a 9)) (k 1))) (e (.f1 31 (wB 253 (g 2) (d 250 (r 5) (a 9)))) z)) (.and (i (e (d 255 (g 2) (d 250 (r 5) (a 9))) z) (n (l z (d 250 (r 5) (a 9))) (n (e (a 9) (.f3 112 (r 5) (d 250 (r 5) (a 9)) z)) (n (e (.f1 32 (r 5)) (v 256 (g 2))) (n (e (d 272 (r 5) (g 2)) (a 9)) .tt))))) (i (.f1 2 (e (d 255 (g 2) (d 250 (r 5) (a 9))) z)) (n (l z (d 250 (r 5) (a 9))) (n (e (a 9) (.f3 112 (r 5) (d 250 (r 5) (a 9)) z)) (n (e (.f1 32 (r 5)) (v 256 (g 2))) (u 14 .int (n (l z (.f2 41 (.f1 32 (r 5)) (x 245 (a 4) (s 7) (x 247 (a 4) (s 7) (a 9))))) (n (t (.f2 41 (.f1 32 (r 5)) (x 245 (a 4) (s 7) (x 247 (a 4) (s 7) (a 9)))) (.f2 41 (.f1 32 (r 5)) (x 245 (a 4) (s 7) (a 9)))) (n (y 248 (a 4) (s 7) (x 247 (a 4) (s 7) (a 9))) (n (l (x 245 (a 4) (s 7) (x 247 (a 4) (s 7) (a 9))) (v 261 (g 2))) .tt)))))))))))))))))))))))))))))
theorem ZSY : Yk Tryz.prog ZOX 12 74 Zxu = ZSc := by kernel_rfl
theorem ZNW (S : Sig GG) (hS : CsSig S) : Zs S Tryz.prog 73 Zpp := by
 refine Zd S (C := ZHZ) (fuel := 12) (Zx trivial trivial trivial) fun ρ => ?_
 rw [ZIW]
 simp only [ZIa, Zbf, Zq, VC.den, SX.den, ZN, Env.upd, ZS, Zao, Z3, Z2, ZB, ZI, ZJ, ZH, beq_iff_eq, Bool.not_eq_true', beq_eq_false_iff_ne, ne_eq, Bool.not_not, U.tMi, Int.toNat_zero, Nat.reduceEqDiff, reduceIte, Zf, ZK, ZG, U.int.injEq, srg hS.rg, scs hS, sB]
 intro _ h2 _
 refine ⟨?_, trivial⟩
 rw [show ap1 33 (U.amap (ρ 6).tM) = (.int ((ρ 6).tM.length : Nat) : U GG) from rfl, h2.len]
theorem ZH5 {y l : Int} {L : List Int} (h : y ≠ l) : (y :: L).idxOf l = L.idxOf l + 1 := by
 rw [List.idxOf_cons, beq_eq_false_iff_ne.2 h]; rfl
theorem Zab : ∀ {L : List Int}, L.Nodup -> ∀ {k : Nat}, k < L.length -> L.idxOf (L.getD k 0) = k
 | [], _, k, h => absurd h (Nat.not_lt_zero _)
 | y :: L, hn, 0, _ => List.idxOf_cons_self
 | y :: L, hn, k + 1, h => by
  rw [List.nodup_cons] at hn
  have hk : k < L.length := by simpa using h
  have hm : L.getD k 0 ∈ L := by rw [ZUj, ZUm hk]; exact ZUG _
  show (y :: L).idxOf (L.getD k 0) = k + 1
  rw [ZH5 (fun e => hn.1 (by rw [e]; exact hm)), Zab hn.2 hk]
theorem Zah (l : Int) : ∀ R : List (List Int), Zcc l R = (R.map g0).idxOf l
 | [] => rfl
 | r :: R => by
  unfold Zcc
  rw [ZUs, List.idxOf_cons]
  cases g0 r == l
  ·show Zcc l R + 1 = _; rw [Zah l R]; rfl
  ·rfl
theorem ZN9 {H : Int} {xs : List Int} (hn : (H :: xs).Nodup) : (xs ++ [H]).idxOf H = xs.length := by
 rw [List.nodup_cons] at hn
 rw [List.idxOf_append, if_neg hn.1, List.idxOf_cons_self, Nat.zero_add]
theorem ZIF {H l : Int} {xs : List Int} (hm : l ∈ xs) : (xs ++ [H]).idxOf l = xs.idxOf l := by rw [List.idxOf_append, if_pos hm]
theorem ZzO {H : Int} {xs : List Int} (hn : (H :: xs).Nodup) : (xs ++ [H]).Nodup := (List.perm_append_comm (l₁ := [H]) (l₂ := xs)).nodup_iff.1 hn
theorem ZLu {H l : Int} {xs : List Int} (hn : (H :: xs).Nodup) (hm : l ∈ xs) : (xs ++ [H]).idxOf ((xs ++ [H]).getD ((H :: xs).idxOf l) 0) = xs.idxOf l + 1 := by
 have hi := List.idxOf_lt_length_of_mem hm
 have hl : H ≠ l := by rintro rfl; exact (List.nodup_cons.1 hn).1 hm
 rw [ZH5 hl, Zab (ZzO hn) (by rw [ZUo]; show _ < _ + 1; omega)]
theorem ZNl {H l : Int} {xs : List Int} (hm : l ∈ xs) : (xs ++ [H]).getD ((H :: xs).idxOf l) 0 ∈ H :: xs := by
 have hi := List.idxOf_lt_length_of_mem hm
 have hle : (H :: xs).idxOf l <= xs.idxOf l + 1 := by
  rw [List.idxOf_cons]
  cases H == l
  ·exact Nat.le_refl _
  ·exact Nat.zero_le _
 have hk : (H :: xs).idxOf l < (xs ++ [H]).length := by rw [ZUo]; show _ < _ + 1; omega
 have : (xs ++ [H]).getD ((H :: xs).idxOf l) 0 ∈ xs ++ [H] := by rw [ZUj, ZUm hk]; exact ZUG _
 rcases List.mem_append.1 this with h | h
 ·exact ZUp _ h
 ·rw [List.mem_singleton.1 h]; exact ZUr
theorem ZTk (S : Sig GG) (hS : CsSig S) : Zs S Tryz.prog 74 Zxu := by
 refine Zd S (C := ZOX) (fuel := 12) (Zx trivial ⟨⟨⟨by decide, Zca S hS.rg⟩, ⟨by decide, ZRi S hS.rg⟩, ⟨by decide, ZIx S hS.rg⟩, trivial, trivial, trivial, ⟨by decide, ZPG S hS.rg⟩, trivial, ⟨by decide, ZQN S hS.rg⟩, ⟨by decide, ZbE S hS⟩, ⟨by decide, Zcp S hS⟩, ⟨by decide, Zcp S hS⟩, ⟨by decide, on_gh S hS.rg⟩, ⟨by decide, ZIx S hS.rg⟩, trivial⟩, trivial⟩ trivial) fun ρ => ?_
 rw [ZSY]
 simp only [ZSc, Zbf, Zq, VC.den, SX.den, ZN, Env.upd, ZS, Zao, Z3, Z2, ZB, ZI, ZJ, ZH, beq_iff_eq, Bool.not_eq_true', beq_eq_false_iff_ne, ne_eq, Bool.not_not, U.tMi, Int.toNat_zero, Nat.reduceEqDiff, reduceIte, Zf, ZK, ZG, U.int.injEq, srg hS.rg, scs hS, sB]
 generalize Zn (U.co S .g (ρ 2)) = c
 generalize (ρ 5).tR = R
 generalize (ρ 4).tI = H
 generalize (ρ 6).tM = m
 intro hx hh hg
 rw [hx]
 intro hn hp _
 have hlen := hh.1
 have hidx : ∀ l, Zcc l R = (R.map g0).idxOf l := fun l => Zah l R
 have hxl : (R.map g0).length = c.fr.length := by rw [ZUt]; exact hlen
 have hEnd := ZN9 hn
 -- the first one behind the end
 have hH0 : (H :: R.map g0).idxOf H = 0 := List.idxOf_cons_self
 refine ⟨?_, ?_, fun l hl hi => ⟨fun hlH => ⟨?_, ?_, trivial⟩, fun hlH _ _ _ _ => ?_⟩⟩
 ·rw [hH0]
  cases hR : R.map g0 with
  | nil => exact ZUr
  | cons y ys => exact ZUp _ ZUr
 ·rw [hH0, Zab (ZzO hn) (by rw [ZUo]; show 0 < _ + 1; omega)]
  omega
 ·exact hp l hl
 ·rw [hlH, hEnd, hxl] at hi
  unfold ZtP
  rw [if_neg (by omega)]; rfl
 ·have hm : l ∈ R.map g0 := by
   rcases List.mem_cons.1 hl with e | e
   ·exact absurd e hlH
   ·exact e
  have hj := List.idxOf_lt_length_of_mem hm
  rw [ZIF hm] at hi
  have hjl := ZjW (l := l) (R := R) (by rw [hidx]; rw [ZUt] at hj; exact hj)
  rw [hidx] at hjl
  have hnx := ZLu hn hm
  have hnm := ZNl (H := H) hm
  simp only [hidx, ZUq]
  generalize hJ : (R.map g0).idxOf l = J at *
  have hJR : J < R.length := by rw [ZUt] at hj; exact hj
  refine ⟨by omega, fun _ _ => ⟨fun hpin => ⟨by omega, hjl.symm, by omega, ?_, trivial⟩, fun hpin => ⟨by omega, hjl.symm, by omega, fun _ => ⟨?_, ?_, hnm, ?_, trivial⟩⟩⟩⟩
  ·have hold : c.old = J := by
    rcases Nat.lt_or_ge J c.old with h | h
    ·have := (Zgr h).2
     have hp0 : (c.fr.getD J fr0).pins = 0 := hpin
     rw [hp0] at this; cases this
    ·omega
   unfold ZtP
   rw [hold, if_pos (by omega)]
   exact hjl
  ·omega
  ·rw [ZIF hm, hJ]; omega
  ·rw [hnx]
   rcases Nat.lt_or_ge J c.old with h | h
   ·omega
   ·have hold : c.old = J := by omega
    have h1 : c.old < c.fr.length := by omega
    have h2 := ZeK h1
    have h2 : (c.fr.getD c.old fr0).pins = 0 := beq_iff_eq.1 h2
    rw [hold] at h2
    exact absurd h2 hpin
def ZGL : List (Nat × List Ctr) := [(39, [ZBS]), (40, [Zvq])]
def idL : SX := ixX (rA 5) (ai 8)
def ZpB : Ctr := ⟨opT ++ [.int], [.one (.ptr (ai 0) 0), .one (.ptr (ai 8) 0)], opS (gA 2), opR (gA 2) ++ [eLt idL (ZA (rA 5))], [.amap], .tup [],
 [.cel (ai 0) 0 (ZtN (ai 1) (ai 3) (ai 4) (usG 264 (gA 2) idL z0)), mpC (ai 3) (mA 9), rgC (ai 4) (rgX (usR 271 (rA 5) idL z0)), frC (usR 271 (rA 5) idL z0) (usG 264 (gA 2) idL z0)],
 [usB 251 (mA 9) (usR 271 (rA 5) idL z0) (usG 264 (gA 2) idL z0), usB 268 (usG 264 (gA 2) idL z0) z0 z0]⟩
def ZIc : Cx := { specs := ZGL, anns := [(60, [(1, .ghost Zln [.tmp 1]), (500001, .ghost gnFC [])])] }
def ZiS : Ctr := ⟨opT ++ [.int, .int, .int, .int, .bytes], [.one (.ptr (ai 0) 0), .agg [.int .i64 (ai 8), sl1 (ai 9) (ai 10) (ai 11), .bool (.bool false), .int .i64 z0]],
 opS (gA 2) ++ [bAr (ai 9) (bA 12) (ai 11)], opR (gA 2) ++ [eLe z0 (ai 10), eLe (ai 10) (ZP (bA 12)), eLe (ai 10) (.int 65536), eLe (usI 256 (gA 2) z0 z0) (usI 262 (gA 2) (ai 8) z0), eLt (usI 256 (gA 2) z0 z0) (usI 257 (gA 2) z0 z0)], [.int, .rows, .amap], .one (.ptr (ai 13) 0),
 [.cel (ai 0) 0 (ZtN (ai 1) (ai 3) (ai 4) (usG 265 (gA 2) (ai 8) (tkB (bA 12) (ai 10)))), mpC (ai 3) (mA 15), rgC (ai 4) (rgX (rA 14)), frC (rA 14) (usG 265 (gA 2) (ai 8) (tkB (bA 12) (ai 10)))],
 [usB 251 (mA 15) (rA 14) (usG 265 (gA 2) (ai 8) (tkB (bA 12) (ai 10))), usB 268 (usG 265 (gA 2) (ai 8) (tkB (bA 12) (ai 10))) z0 z0, .f2 45 (ZA (rA 14)) (Zgf (ZA (rA 5))), .f2 45 (nt (rA 14) (ZA (rA 5)) 0) (ai 13), usB 246 (ai 4) (rgX (rA 14)) z0]⟩
def Zw1 : Cx := { specs := ZGL, anns := [(42, [(2, .ghost ZRB [.tmp 5]), (3, .ghost Zol []), (3, .ghost ZOu [.tmp 5])])] }
def ZHR : VC := i (.f2 155 (s 7) (o 242 (r 5))) (i (y 251 (m 6) (r 5) (g 2)) (i (p 268 (g 2)) (i (t (d 250 (r 5) (a 8)) (.f1 32 (r 5))) (n (c 241 (s 7) (a 8)) (u 9 .int (u 10 .int (i (l (.f1 31 (wB 253 (g 2) (d 250 (r 5) (a 8)))) (.f3 112 (r 5) (d 250 (r 5) (a 8)) (k 2))) (i (.f2 50 (l z (.f3 112 (r 5) (d 250 (r 5) (a 8)) (k 1))) (e (.f1 31 (wB 253 (g 2) (d 250 (r 5) (a 8)))) z)) (n (l z (d 250 (r 5) (a 8))) (n (y 251 (.f2 143 (m 6) (d 252 (g 2) (d 250 (r 5) (a 8)))) (wR 271 (r 5) (d 250 (r 5) (a 8))) (f 264 (g 2) (d 250 (r 5) (a 8)))) (n (p 268 (f 264 (g 2) (d 250 (r 5) (a 8)))) (n (.f2 155 (o 242 (wR 271 (r 5) (d 250 (r 5) (a 8)))) (wN 240 (s 7) (a 8))) (n (e (v 260 (f 264 (g 2) (d 250 (r 5) (a 8)))) (v 260 (g 2))) (n (e (v 259 (f 264 (g 2) (d 250 (r 5) (a 8)))) (v 259 (g 2))) (n (e (v 258 (f 264 (g 2) (d 250 (r 5) (a 8)))) (v 258 (g 2))) (n (e (v 257 (f 264 (g 2) (d 250 (r 5) (a 8)))) (v 257 (g 2))) .tt))))))))))))))))
theorem ZKr : Yk Tryz.prog ZIc 12 60 ZpB = ZHR := by kernel_rfl
def ZDk : VC := i (.f2 155 (s 7) (o 242 (r 5))) (i (y 251 (m 6) (r 5) (g 2)) (i (p 268 (g 2)) (i (l z (a 10)) (i (l (a 10) (.f1 31 (b 12))) (i (l (a 10) (k 65536)) (i (l (v 256 (g 2)) (d 262 (g 2) (a 8))) (i (t (v 256 (g 2)) (v 257 (g 2))) (u 13 .int (i (l z (a 13)) (u 14 .int (i (l z (a 14)) (i (c 246 (a 4) (wN 243 (s 7) (a 14))) (i (c 249 (a 4) (wN 243 (s 7) (a 14))) (n (y 251 (.f3 142 (m 6) (a 8) (a 14)) (.f2 121 (r 5) (.f2 124 (.f2 122 (a 14) (.f2 122 (a 9) (.f2 122 (a 11) (.f1 152 z)))) (.f1 154 z))) (h 265 (g 2) (a 8) (.f2 114 (b 12) (a 10)))) (n (p 268 (h 265 (g 2) (a 8) (.f2 114 (b 12) (a 10)))) (n (e (.f2 40 (.f1 32 (r 5)) (k 1)) (.f2 40 (.f1 32 (r 5)) (k 1))) (n (e (.f3 112 (.f2 121 (r 5) (.f2 124 (.f2 122 (a 14) (.f2 122 (a 9) (.f2 122 (a 11) (.f1 152 z)))) (.f1 154 z))) (.f1 32 (r 5)) z) (a 14)) (n (c 246 (a 4) (o 242 (.f2 121 (r 5) (.f2 124 (.f2 122 (a 14) (.f2 122 (a 9) (.f2 122 (a 11) (.f1 152 z)))) (.f1 154 z))))) (n (.f2 155 (o 242 (.f2 121 (r 5) (.f2 124 (.f2 122 (a 14) (.f2 122 (a 9) (.f2 122 (a 11) (.f1 152 z)))) (.f1 154 z)))) (wN 243 (s 7) (a 14))) (n (e (v 260 (h 265 (g 2) (a 8) (.f2 114 (b 12) (a 10)))) (v 260 (g 2))) (n (e (v 259 (h 265 (g 2) (a 8) (.f2 114 (b 12) (a 10)))) (v 259 (g 2))) (n (e (v 258 (h 265 (g 2) (a 8) (.f2 114 (b 12) (a 10)))) (v 258 (g 2))) (n (e (v 257 (h 265 (g 2) (a 8) (.f2 114 (b 12) (a 10)))) (v 257 (g 2))) .tt)))))))))))))))))))))))
theorem ZHj : Yk Tryz.prog Zw1 12 42 ZiS = ZDk := by kernel_rfl
theorem ZeG {S : Sig GG} (hS : CsSig S) : YK S Tryz.prog ZGL := ⟨Zc (by decide) (ZQ6 S hS.rg), Zc (by decide) (ZSK S hS.rg), trivial⟩
theorem Zd4 (l : Int) : ∀ R : List (List Int), (R.map g0).erase l = (R.take (Zcc l R) ++ R.drop (Zcc l R + 1)).map g0
 | [] => rfl
 | r :: R => by
  unfold Zcc
  rw [ZUs, List.erase_cons]
  cases hb : g0 r == l
  ·show (if false = true then _ else _) = _
   rw [if_neg (by decide), Zd4 l R]; rfl
  ·rfl
theorem ZjH {l : Int} {R : List (List Int)} (h : Zcc l R < R.length) : l ∈ R.map g0 := by
 have h1 := ZjW h
 rw [<- h1]
 refine List.mem_map.2 ⟨_, ?_, rfl⟩
 rw [ZUj, ZUm h]; exact ZUG _
theorem GoodC.gone {c : Cs} (h : GoodC c) (i : Int) : GoodC (c.gone i) := by
 have hsub : (c.fr.take i.toNat ++ c.fr.drop (i.toNat + 1)).Sublist c.fr := by
  conv => rhs; rw [<- List.take_append_drop i.toNat c.fr]
  refine List.Sublist.append_left ?_ _
  rw [<- List.drop_drop]
  exact List.drop_sublist _ _
 have hl := hsub.length_le
 have hlen := h.len
 exact ⟨h.frames, show ((c.fr.take i.toNat ++ c.fr.drop (i.toNat + 1)).length : Int) <= c.frames by omega, (hsub.map _).nodup h.nod, fun f hf => h.pins f (hsub.subset hf), h.cnt, fun f hf => h.b f (hsub.subset hf)⟩
theorem ZNK (S : Sig GG) (hS : CsSig S) : Zs S Tryz.prog 60 ZpB := by
 refine Zd S (C := ZIc) (fuel := 12) (Zx (ZeG hS) ⟨⟨⟨by decide, ZbE S hS⟩, ⟨by decide, ZSo S hS⟩, trivial⟩, trivial⟩ trivial) fun ρ => ?_
 rw [ZKr]
 simp only [ZHR, Zbf, Zq, VC.den, SX.den, ZN, Env.upd, ZS, Zao, Z3, Z2, ZB, ZI, ZJ, ZH, beq_iff_eq, Bool.not_eq_true', beq_eq_false_iff_ne, ne_eq, Bool.not_not, U.tMi, Int.toNat_zero, Nat.reduceEqDiff, reduceIte, Zf, ZK, ZG, U.int.injEq, srg hS.rg, scs hS, sB]
 generalize Zn (U.co S .g (ρ 2)) = c
 generalize (ρ 5).tR = R
 generalize (ρ 4).tI = H
 generalize (ρ 6).tM = m
 generalize (ρ 8).tI = l
 intro hx hh hg hl
 have hl' : Zcc l R < R.length := by omega
 have hlen := hh.1
 refine ⟨by rw [hx]; exact ZjH hl', fun _ _ _ _ => ⟨by omega, hh.gone (i := Zcc l R) (by omega), hg.gone _, ?_, rfl, rfl, rfl, rfl, trivial⟩⟩
 rw [hx, Zd4]; rfl
theorem ZHe (S : Sig GG) (hS : CsSig S) : Zs S Tryz.prog 42 ZiS := by
 refine Zd S (C := Zw1) (fuel := 12) (Zx (ZeG hS) ⟨⟨⟨by decide, ZCk S⟩, ⟨by decide, Zca S hS.rg⟩, ⟨by decide, ZQb S hS⟩, trivial⟩, trivial⟩ trivial) fun ρ => ?_
 rw [ZHj]
 simp only [ZDk, Zbf, Zq, VC.den, SX.den, ZN, Env.upd, ZS, Zao, Z3, Z2, ZB, ZI, ZJ, ZH, beq_iff_eq, Bool.not_eq_true', beq_eq_false_iff_ne, ne_eq, Bool.not_not, U.tMi, Int.toNat_zero, Nat.reduceEqDiff, reduceIte, Zf, ZK, ZG, U.int.injEq, srg hS.rg, scs hS, sB]
 generalize Zn (U.co S .g (ρ 2)) = c
 generalize (ρ 5).tR = R
 generalize (ρ 4).tI = H
 generalize (ρ 6).tM = m
 generalize (ρ 8).tI = n
 intro hx hh hg _ _ hb16 hni hfu _ _ a _ hn hp
 have hlen := hh.1
 have h2 := hh.add (f := ⟨n, (ρ 12).tB.take (ρ 10).tI.toNat, false, 0⟩) (show ¬ c.idx n < c.fr.length by omega) [a, (ρ 9).tI, (ρ 11).tI]
 refine ⟨h2, ⟨hg.frames, ?_, h2.2.1, ?_, hg.cnt, ?_⟩, ?_, ?_, ?_, ?_, rfl, rfl, rfl, rfl, trivial⟩
 ·show ((c.fr ++ [_]).length : Int) <= c.frames
  rw [ZUo]; show ((c.fr.length + 1 : Nat) : Int) <= _; omega
 ·intro f hf
  rcases List.mem_append.1 hf with h | h
  ·exact hg.pins f h
  ·rw [List.mem_singleton.1 h]; exact ZUu _
 ·intro f hf
  rcases List.mem_append.1 hf with h | h
  ·exact hg.b f h
  ·rw [List.mem_singleton.1 h]; show ((ρ 12).tB.take (ρ 10).tI.toNat).length <= 65536; rw [ZUl]; omega
 ·exact trivial
 ·show ((R ++ [[a, (ρ 9).tI, (ρ 11).tI]]).getD ((R.length : Nat) : Int).toNat []).getD 0 0 = a
  have e : (R ++ [[a, (ρ 9).tI, (ρ 11).tI]]).getD R.length [] = [a, (ρ 9).tI, (ρ 11).tI] := by rw [ZUj, ZUC (Nat.le_refl _), Nat.sub_self]; rfl
  rw [ZUq, e]; rfl
 ·rw [hx] at hn
  show (H :: (R ++ [[a, (ρ 9).tI, (ρ 11).tI]]).map g0).Nodup
  rw [ZUz]; exact hn
 ·show (R ++ [[a, (ρ 9).tI, (ρ 11).tI]]).map g0 = _
  rw [hx, ZUz]; rfl
theorem Zhu : ∀ {k : List (List Int)} {q : List (Int × List UInt8)} {h : Hl}, lsH k q h -> k.length = q.length
 | [], [], _, _ => rfl
 | r :: k, p :: q, h, hx => by
  obtain ⟨a, b, _, _, _, hb⟩ := hx
  rw [ZUD, ZUD, Zhu hb]
 | [], _ :: _, _, hx => hx.elim
 | _ :: _, [], _, hx => hx.elim
theorem Zju : ∀ {a : List (List Int)} {c : List (Int × List UInt8)} (b : List (List Int)) (d : List (Int × List UInt8)), a.length = c.length -> lsH (a ++ b) (c ++ d) = Zb (lsH a c) (lsH b d)
 | [], [], b, d, _ => by rw [List.nil_append, List.nil_append]; show _ = Zb emp _; rw [emp_star]
 | r :: a, p :: c, b, d, h => by
  rw [List.cons_append, List.cons_append]
  show Zb _ (lsH (a ++ b) (c ++ d)) = Zb (Zb _ (lsH a c)) (lsH b d)
  rw [Zju b d (by simpa using h), star_assoc]
 | [], _ :: _, _, _, h => by simp at h
 | _ :: _, [], _, _, h => by simp at h
theorem Zu8 (r : List Int) (p : Int × List UInt8) : lsH [r] [p] = ZHo r p := by
 show Zb _ emp = _
 rw [Za]
theorem Zsx {k : List (List Int)} {m : List (Int × List UInt8)} {i : Nat} (hl : k.length = m.length) (hi : i < k.length) :
  lsH k m = Zb (Zb (lsH (k.take i) (m.take i)) (lsH (k.drop (i + 1)) (m.drop (i + 1)))) (ZHo (k.getD i []) (m.getD i (0, []))) := by
 conv => lhs; rw [ZO (d := []) hi, ZO (d := (0, [])) (show i < m.length by omega)]
 rw [Zju _ _ (by rw [ZUl, ZUl]; omega), Zju _ _ (show [k.getD i []].length = [m.getD i (0, [])].length from rfl), Zu8, star_assoc, Zp (ZHo _ _)]
theorem Zfl (T : Sig GG) (ρ : Go.Eng.Env GG) (w0 : World) (g : SX) (l : List Ch) : hpDen T ρ w0 (.cel (ai 0) 0 (ZFE g) :: ZOK g ++ l) =
  Zb ((Ch.cel (ai 0) 0 (ZFE g)).den T ρ w0) (Zb (ZM T .bytes ((ai 2).den T ρ) ((sfX g).den T ρ) ((ai 3).den T ρ)) (Zb (ZM T lsT ((ai 4).den T ρ) ((rA 11).den T ρ) ((ai 6).den T ρ))
   (Zb ((Ch.map .i64 (.int .i64) (ai 7) (mA 12)).den T ρ w0) (Zb (ZM T iE ((ai 8).den T ρ) ((iA 13).den T ρ) ((ai 10).den T ρ)) (hpDen T ρ w0 l))))) := rfl
theorem Zyo (T : Sig GG) (ρ : Go.Eng.Env GG) (w0 : World) (b m : SX) : (Ch.map .i64 (.int .i64) b m).den T ρ w0 = mapH (b.den T ρ).tI (m.den T ρ).tM := rfl
theorem ZoY {T : Sig GG} (hT : DvSig T) (ρ : Go.Eng.Env GG) (g : SX) : (sfX g).den T ρ = .bytes (Zk (g.den T ρ)).safe := by
 simp only [sfX, usY, SX.den, hT.u208, Zu, U.tBi]
theorem ZcI (S : Sig GG) (hS : DvSig S) : Z7 S Zob := by
 refine Zw S fun T w0 ρ h hu hp hd hr hpre => ?_
 have hT := hS.of hu hp hd
 have e1 : hpDen T ρ w0 Zob.pre = Zb (T.prd 50 w0 ((ai 0).den T ρ) ((gA 1).den T ρ)) emp := rfl
 rw [e1, Za, hT.p50] at hpre
 have hK : ((ai 0).den T ρ).tI = (ρ 0).tI := rfl
 rw [hK] at hpre
 generalize hd' : Zk ((gA 1).den T ρ) = d at hpre
 obtain ⟨hg, sb, sc, lb, ln, lc, mb, fb, fl, fc, y, m, z, ⟨f1, f2, f3, f4, f5, f6, f7⟩, hst⟩ := hpre
 let ρ' : Go.Eng.Env GG := (((((((((((ρ.upd 2 (.int sb)).upd 3 (.int sc)).upd 4 (.int lb)).upd 5 (.int ln)).upd 6 (.int lc)).upd 7 (.int mb)).upd 8 (.int fb)).upd 9 (.int fl)).upd 10 (.int fc)).upd 11 (.rows y)).upd 12 (.amap m)).upd 13 (.ints z)
 have hlow : ∀ i, i < 2 -> ρ' i = ρ i := fun i hi => by
  show ((((((((((((ρ.upd 2 (.int sb)).upd 3 (.int sc)).upd 4 (.int lb)).upd 5 (.int ln)).upd 6 (.int lc)).upd 7 (.int mb)).upd 8 (.int fb)).upd 9 (.int fl)).upd 10 (.int fc)).upd 11 (.rows y)).upd 12 (.amap m)).upd 13 (.ints z)) i = ρ i
  simp only [Env.upd]
  repeat rw [if_neg (by omega)]
 have hgd : Zk ((gA 1).den T ρ') = d := by rw [<- hd']; rfl
 refine ⟨ρ', hlow, ?_, ?_⟩
 ·have e2 : hpDen T ρ' w0 Zob.post = hpDen T ρ' w0 (.cel (ai 0) 0 (ZFE (gA 1)) :: ZOK (gA 1) ++ [lsC (ai 5) (rA 11) (gA 1)]) := rfl
  have e3 : hpDen T ρ' w0 [lsC (ai 5) (rA 11) (gA 1)] = Zb (T.prd 51 w0 ((Zj (Yy (ai 5)) (rA 11)).den T ρ') ((gA 1).den T ρ')) emp := rfl
  rw [e2, Zfl, e3, Za, hT.p51, Zrw rfl hT, ZoY hT, Zyo, hgd]
  have k1 : ((Zj (Yy (ai 5)) (rA 11)).den T ρ').tR = [ln] :: y := rfl
  rw [k1, Zbb]
  exact hst
 ·have hlen : (y.take ln.toNat).length = d.w.length := by
   obtain ⟨_, _, _, hq⟩ := Zo hst
   obtain ⟨_, _, _, hq⟩ := Zo hq
   obtain ⟨_, _, _, hq⟩ := Zo hq
   obtain ⟨_, _, _, hq⟩ := Zo hq
   obtain ⟨_, _, _, hq⟩ := Zo hq
   exact Zhu hq
  obtain ⟨_, _, _, hq⟩ := Zo hst
  obtain ⟨_, _, hsa, hq⟩ := Zo hq
  obtain ⟨_, _, hla, hq⟩ := Zo hq
  obtain ⟨_, _, hma, _⟩ := Zo hq
  obtain ⟨_, es, clk, hmo, _⟩ := hma
  have hb0 : 0 <= sb \/ sc = 0 := by obtain ⟨_, _, _, h3, _⟩ := hsa; exact h3
  have hsl := Zgy hsa
  have hll := Zfr (fs := [.int .i64, .slice 1]) (by decide) hla
  have q2 : ((sfX (gA 1)).den T ρ') = .bytes d.safe := by rw [ZoY hT, hgd]
  intro q hq
  simp only [Zob, List.mem_cons, List.not_mem_nil, or_false] at hq
  rcases hq with rfl | rfl | rfl | rfl | rfl | rfl | rfl | rfl | rfl | rfl | rfl | rfl
  ·show ((eLe (.int 0) (ai 5)).den T ρ').tP
   rw [Zg]; exact f1
  ·rw [Zg]; exact f2
  ·have : ((Go.Eng.SX.f2 45 (ai 5) (usI 211 (gA 1) z0 z0)).den T ρ').tP ↔ ln = (d.w.length : Nat) := by
    simp only [usI, SX.den, hT.u211, Zi, U.tIi, p45]
    rw [hgd]; exact Iff.rfl
   rw [this]; rw [<- hlen, ZUl]; omega
  ·rw [Zg]; exact Int.le_trans f2 hll
  ·rw [Zg]; exact f3
  ·rw [Zg]; exact f4
  ·have : ((Go.Eng.SX.f2 153 (tkI (iA 13) (ai 9)) (usN 209 (gA 1) z0 z0)).den T ρ').tP ↔ z.take fl.toNat = d.keep := by
    simp only [usN, tkI, SX.den, hT.u209, ZQ, U.tNi, ZON, ZB]
    rw [hgd]; exact Iff.rfl
   rw [this]; exact f5
  ·have : ((usB 214 (mA 12) (gA 1) z0).den T ρ').tP ↔ (Zdi m d.w /\ ZEJ m) := by
    simp only [usB, SX.den, hT.u214, Zv, U.tPi, U.tQi, Zf]
    rw [hgd]; exact Iff.rfl
   rw [this]; exact ⟨f6, f7⟩
  ·have : ((usB 215 (gA 1) z0 z0).den T ρ').tP ↔ GoodD d := by
    simp only [usB, SX.den, hT.u215, Zv, U.tPi, U.tQi, Zf]
    rw [hgd]
   rw [this]; exact hg
  ·rw [Zg]
   have : ((ZP (sfX (gA 1))).den T ρ').tI = (d.safe.length : Nat) := by
    show (ap1 31 ((sfX (gA 1)).den T ρ')).tI = _
    rw [q2]; rfl
   rw [this]; exact hsl
  ·rw [Zg]
   show 0 <= sb
   have hgp := hg.pages
   have hgs := ZcN hg.size
   obtain ⟨k, k1, k2, k3, k4⟩ := hg.pgs
   have : 4 * d.page.toNat <= k * d.page.toNat := Nat.mul_le_mul_right _ k1
   rcases hb0 with h | h
   ·exact h
   ·omega
  ·have : ((usB 237 (mA 12) z0 z0).den T ρ').tP ↔ (m.map (·.1)).Nodup := by
    simp only [usB, SX.den, hT.u237, Zv, U.tPi, U.tQi, Zf]
    exact Iff.rfl
   rw [this]; exact hmo.2.1
theorem Y9 (S : Sig GG) (hS : DvSig S) (more : List Srt) (args : List SV) (g : SX) : Z7 S (ZeE more args g) := by
 refine Zw S fun T w0 ρ h hu hp hd hr hpre => ⟨ρ, Ext.refl _ _, ?_, by intro x hx; exact nomatch hx⟩
 have hT := hS.of hu hp hd
 have e1 : hpDen T ρ w0 (ZeE more args g).pre = hpDen T ρ w0 (.cel (ai 0) 0 (ZFE g) :: ZOK g ++ [lsC (ai 5) (rA 14) (gA 1)]) := rfl
 have e2 : hpDen T ρ w0 (ZeE more args g).post = Zb (T.prd 50 w0 ((ai 0).den T ρ) (g.den T ρ)) emp := rfl
 have e3 : hpDen T ρ w0 [lsC (ai 5) (rA 14) (gA 1)] = Zb (T.prd 51 w0 ((Zj (Yy (ai 5)) (rA 14)).den T ρ) ((gA 1).den T ρ)) emp := rfl
 rw [e1, Zfl, e3, Za, hT.p51, Zrw rfl hT, ZoY hT, Zyo] at hpre
 rw [e2, Za, hT.p50]
 have k1 : ((Zj (Yy (ai 5)) (rA 14)).den T ρ).tR = [(ρ 5).tI] :: (ρ 14).tR := rfl
 rw [k1, Zbb] at hpre
 have r1 := hr (eLe (.int 0) (ai 5)) (by simp [ZeE])
 have r2 := hr (eLe (ai 5) (ZA (rA 11))) (by simp [ZeE])
 have r3 := hr (eqS (tk (rA 11) (ai 5)) (tk (rA 14) (ai 5))) (by simp [ZeE])
 have r4 := hr (eLe (.int 0) (ai 9)) (by simp [ZeE])
 have r5 := hr (eLe (ai 9) (Zb7 (iA 13))) (by simp [ZeE])
 have r6 := hr (.f2 153 (tkI (iA 13) (ai 9)) (usN 209 g z0 z0)) (by simp [ZeE])
 have r7 := hr (usB 214 (mA 12) g z0) (by simp [ZeE])
 have r8 := hr (usB 215 g z0 z0) (by simp [ZeE])
 have r9 := hr (usB 216 g (gA 1) z0) (by simp [ZeE])
 rw [Zg] at r1 r2 r4 r5
 simp only [eqS, tk, tkI, usN, usB, SX.den, hT.u209, hT.u214, hT.u215, hT.u216, Zv, ZQ, Zt, ZN, ZON, ZfH, ZB, ZeI, rA, iA, ai, mA, Zi, U.tIi, U.tNi, U.tRi, U.tMi, U.tPi, U.tQi, Zf, U.rows.injEq] at r3 r6 r7 r8 r9
 have hK : ((ai 0).den T ρ).tI = (ρ 0).tI := rfl
 rw [hK]
 rw [<- r9, <- r3] at hpre
 exact ⟨r8, (ρ 2).tI, (ρ 3).tI, (ρ 4).tI, (ρ 5).tI, (ρ 6).tI, (ρ 7).tI, (ρ 8).tI, (ρ 9).tI, (ρ 10).tI, (ρ 11).tR, (ρ 12).tM, (ρ 13).tN, ⟨r1, r2, r4, r5, r6, r7.1, r7.2⟩, hpre⟩
theorem Zfe (S : Sig GG) (hS : DvSig S) : Z7 S ZpZ := by
 refine Zw S fun T w0 ρ h hu hp hd hr hpre => ?_
 have hT := hS.of hu hp hd
 have e1 : hpDen T ρ w0 ZpZ.pre = Zb (T.prd 51 w0 ((Zj (Yy (ai 0)) (rA 1)).den T ρ) ((gA 2).den T ρ)) emp := rfl
 have e2 : ∀ ρ', hpDen T ρ' w0 ZpZ.post = Zb (T.prd 52 w0 ((Zj (ZT (ai 3) (ai 0)) (rA 1)).den T ρ') ((gA 2).den T ρ')) (Zb (ZM T .bytes ((nt (rA 1) (ai 3) 1).den T ρ') ((bA 4).den T ρ') ((nt (rA 1) (ai 3) 3).den T ρ')) emp) := fun _ => rfl
 rw [e1, Za, hT.p51] at hpre
 have r0 := hr (eLe (.int 0) (ai 3)) (by simp [ZpZ])
 have r1 := hr (eLt (ai 3) (ai 0)) (by simp [ZpZ])
 have r2 := hr (eLe (ai 0) (ZA (rA 1))) (by simp [ZpZ])
 simp only [eLe, eLt, SX.mk2, ZA, SX.den, ai, rA, Zi, Zt, U.tIi, U.tRi, p46, p47, Y8] at r0 r1 r2
 have k1 : ((Zj (Yy (ai 0)) (rA 1)).den T ρ).tR = [(ρ 0).tI] :: (ρ 1).tR := rfl
 rw [k1, Zbb] at hpre
 generalize hd' : Zk ((gA 2).den T ρ) = d at hpre
 have hl := Zhu hpre
 have hi : (ρ 3).tI.toNat < ((ρ 1).tR.take (ρ 0).tI.toNat).length := by rw [ZUl]; omega
 rw [Zsx hl hi] at hpre
 obtain ⟨a, b, dd, rfl, ha, x, ⟨q0, q1, q2, q3⟩, hb⟩ := hpre
 rw [Zag (by omega)] at q0 q1 q2 q3 hb
 refine ⟨ρ.upd 4 (.bytes x), Ext.upd _ _, ?_, ?_⟩
 ·rw [e2, Za, hT.p52]
  have k2 : ((Zj (ZT (ai 3) (ai 0)) (rA 1)).den T (ρ.upd 4 (.bytes x))).tR = [(ρ 3).tI, (ρ 0).tI] :: (ρ 1).tR := rfl
  have k3 : Zk ((gA 2).den T (ρ.upd 4 (.bytes x))) = d := by rw [<- hd']; rfl
  rw [k2, ZEN, k3]
  exact ⟨a, b, dd, rfl, ha, hb⟩
 ·intro q hq
  simp only [ZpZ, List.mem_cons, List.not_mem_nil, or_false] at hq
  have k3 : Zk (U.co T .g ((ρ.upd 4 (.bytes x)) 2)) = d := by rw [<- hd']; rfl
  rcases hq with rfl | rfl | rfl | rfl | rfl
  ·rw [Zg]; exact q1
  ·rw [Zg]; exact q2
  ·simp only [eqS, tkB, usY, nt, SX.den, ai, rA, gA, bA, hT.u212, Zu, Zi, Zt, U.tIi, U.tBi, U.tRi, ZfH, Zhi, YE, U.bytes.injEq]
   rw [k3]
   exact q3
  ·simp only [usI, nt, SX.den, ai, rA, gA, hT.u217, Zi, Zt, U.tIi, U.tRi, p45, YE]
   rw [k3]
   exact q0
  ·rw [Zg]
   have hc : (x.length : Int) <= _ := Zgy hb
   exact Int.le_trans q2 hc
theorem Zfd (S : Sig GG) (hS : DvSig S) : Z7 S Zjh := by
 refine Zw S fun T w0 ρ h hu hp hd hr hpre => ⟨ρ, Ext.refl _ _, ?_, by intro x hx; exact nomatch hx⟩
 have hT := hS.of hu hp hd
 have e1 : hpDen T ρ w0 Zjh.pre = Zb (T.prd 52 w0 ((Zj (ZT (ai 0) (ai 1)) (rA 2)).den T ρ) ((gA 3).den T ρ)) (Zb (ZM T .bytes ((nt (rA 2) (ai 0) 1).den T ρ) ((bA 4).den T ρ) ((nt (rA 2) (ai 0) 3).den T ρ)) emp) := rfl
 have e2 : hpDen T ρ w0 Zjh.post = Zb (T.prd 51 w0 ((Zj (Yy (ai 1)) (rA 2)).den T ρ) ((gA 3).den T ρ)) emp := rfl
 rw [e1, Za, hT.p52] at hpre
 rw [e2, Za, hT.p51]
 have r0 := hr (eLe (.int 0) (ai 0)) (by simp [Zjh])
 have r1 := hr (eLt (ai 0) (ai 1)) (by simp [Zjh])
 have r2 := hr (eLe (ai 1) (ZA (rA 2))) (by simp [Zjh])
 have r3 := hr (.f2 45 (ai 1) (usI 211 (gA 3) z0 z0)) (by simp [Zjh])
 have s1 := hr (eLe (.int 0) (nt (rA 2) (ai 0) 2)) (by simp [Zjh])
 have s2 := hr (eLe (nt (rA 2) (ai 0) 2) (ZP (bA 4))) (by simp [Zjh])
 have s3 := hr (eqS (tkB (bA 4) (nt (rA 2) (ai 0) 2)) (usY 212 (gA 3) (ai 0) z0)) (by simp [Zjh])
 have s4 := hr (.f2 45 (nt (rA 2) (ai 0) 0) (usI 217 (gA 3) (ai 0) z0)) (by simp [Zjh])
 simp only [eLe, eLt, eqS, SX.mk2, ZA, ZP, tkB, usI, usY, nt, SX.den, ai, rA, bA, hT.u211, hT.u212, hT.u217, Zi, Zu, Zt, U.tIi, U.tBi, U.tRi, p45, p46, p47, ZfH, Za1, Y8, Zhi, YE, U.bytes.injEq] at r0 r1 r2 r3 s1 s2 s3 s4
 have k1 : ((Zj (ZT (ai 0) (ai 1)) (rA 2)).den T ρ).tR = [(ρ 0).tI, (ρ 1).tI] :: (ρ 2).tR := rfl
 have k2 : ((Zj (Yy (ai 1)) (rA 2)).den T ρ).tR = [(ρ 1).tI] :: (ρ 2).tR := rfl
 rw [k1, ZEN] at hpre
 rw [k2, Zbb]
 generalize Zk ((gA 3).den T ρ) = d at hpre r3 s3 s4 ⊢
 have hl : ((ρ 2).tR.take (ρ 1).tI.toNat).length = d.w.length := by rw [ZUl]; omega
 have hi : (ρ 0).tI.toNat < ((ρ 2).tR.take (ρ 1).tI.toNat).length := by rw [ZUl]; omega
 rw [Zsx hl hi, Zag (by omega)]
 obtain ⟨a, b, dd, rfl, ha, hb⟩ := hpre
 exact ⟨a, b, dd, rfl, ha, (ρ 4).tB, ⟨s4, s1, s2, s3⟩, hb⟩
theorem ZHA (S : Sig GG) (hS : DvSig S) : Z7 S ZEP := by
 refine Zw S fun T w0 ρ h hu hp hd hr hpre => ⟨ρ, Ext.refl _ _, ?_, by intro x hx; exact nomatch hx⟩
 have hT := hS.of hu hp hd
 have e1 : hpDen T ρ w0 ZEP.pre = Zb (T.prd 51 w0 ((Zj (Yy (ai 0)) (rA 1)).den T ρ) ((gA 2).den T ρ)) (Zb (ZM T .bytes ((ai 4).den T ρ) ((bA 7).den T ρ) ((ai 6).den T ρ)) emp) := rfl
 have e2 : hpDen T ρ w0 ZEP.post = Zb (T.prd 51 w0 ((Zj (Yy (Zgf (ai 0))) (.f2 121 (tk (rA 1) (ai 0)) (.f2 124 (row4 (ai 3) (ai 4) (ai 5) (ai 6)) YD))).den T ρ) ((usG 224 (gA 2) (ai 3) (tkB (bA 7) (ai 5))).den T ρ)) emp := rfl
 rw [e1, Za, hT.p51] at hpre
 rw [e2, Za, hT.p51]
 have r0 := hr (eLe (.int 0) (ai 0)) (by simp [ZEP])
 have r1 := hr (eLe (ai 0) (ZA (rA 1))) (by simp [ZEP])
 have r2 := hr (eLe (.int 0) (ai 5)) (by simp [ZEP])
 have r3 := hr (eLe (ai 5) (ZP (bA 7))) (by simp [ZEP])
 have r4 := hr (.f2 45 (ai 0) (usI 211 (gA 2) z0 z0)) (by simp [ZEP])
 simp only [eLe, SX.mk2, ZA, ZP, usI, SX.den, ai, rA, bA, hT.u211, Zi, Zu, Zt, U.tIi, U.tBi, U.tRi, p45, p47, Za1, Y8] at r0 r1 r2 r3 r4
 have e40 : ((Zgf (ai 0)).den T ρ).tI = (ρ 0).tI + 1 := by unfold Zgf; rw [SX.mk2_den]; rfl
 have k1 : ((Zj (Yy (ai 0)) (rA 1)).den T ρ).tR = [(ρ 0).tI] :: (ρ 1).tR := rfl
 have k2 : ((Zj (Yy (Zgf (ai 0))) (.f2 121 (tk (rA 1) (ai 0)) (.f2 124 (row4 (ai 3) (ai 4) (ai 5) (ai 6)) YD))).den T ρ).tR = [((Zgf (ai 0)).den T ρ).tI] :: ((ρ 1).tR.take (ρ 0).tI.toNat ++ [[(ρ 3).tI, (ρ 4).tI, (ρ 5).tI, (ρ 6).tI]]) := rfl
 have k3 : Zk ((usG 224 (gA 2) (ai 3) (tkB (bA 7) (ai 5))).den T ρ) = { Zk ((gA 2).den T ρ) with wr := (Zk ((gA 2).den T ρ)).wr + 1, w := (Zk ((gA 2).den T ρ)).w ++ [((ρ 3).tI, (ρ 7).tB.take (ρ 5).tI.toNat)] } := by
  simp only [usG, SX.den, hT.u224, Zbf, Zr]; rfl
 rw [k1, Zbb] at hpre
 rw [k2, Zbb, k3, e40]
 have r4 : (ρ 0).tI = ((Zk ((gA 2).den T ρ)).w.length : Nat) := r4
 generalize Zk ((gA 2).den T ρ) = d at hpre r4 ⊢
 rw [ZUv (by rw [ZUo, ZUl]; show _ + 1 <= _; omega), Zju _ _ (by rw [ZUl]; omega), Zu8]
 obtain ⟨a, b, dd, rfl, ha, hb⟩ := hpre
 exact ⟨a, b, dd, rfl, ha, (ρ 7).tB, ⟨rfl, r2, r3, rfl⟩, hb⟩
theorem Zqw (S : Sig GG) (hS : DvSig S) (k : Nat) : Z7 S (ZIw k) := by
 refine ZDb S fun T w0 ρ h hu hp hd hr hpre => ?_
 have hT := hS.of hu hp hd
 refine ⟨ρ, hpDen T ρ w0 (ZIw k).pre, Ext.refl _ _, ?_, by intro x hx; exact nomatch hx⟩
 have e2 : hpDen T ρ w0 (ZIw k).post = Zb (T.prd 51 w0 ((Zj (Yy z0) YD).den T ρ) ((usG k (gA 2) z0 z0).den T ρ)) (Zb (rAD lsT (-1) [] 0) emp) := rfl
 have r4 := hr (.f2 45 (usI 211 (usG k (gA 2) z0 z0) z0 z0) z0) (by simp [ZIw])
 have r4 : ((Zk ((usG k (gA 2) z0 z0).den T ρ)).w.length : Int) = 0 := by
  have e : ((usI 211 (usG k (gA 2) z0 z0) z0 z0).den T ρ).tI = ((Zk ((usG k (gA 2) z0 z0).den T ρ)).w.length : Nat) := by
   simp only [usI, SX.den, hT.u211, Zi, U.tIi]
  rw [<- e]
  simpa [SX.den, p45, z0] using r4
 have hw : (Zk ((usG k (gA 2) z0 z0).den T ρ)).w = [] := ZUy (by omega)
 rw [e2, Za, lsT, Zci, Za, hT.p51]
 have k1 : ((Zj (Yy z0) YD).den T ρ).tR = [[0]] := rfl
 rw [k1, Zbb, hw]
 show Zb _ emp h
 rw [Za]; exact hpre
def Zau : SX := .int 4611686018427387904
def ZH6 : Ctr := ⟨[.int, .int, .int, .int, .bytes, .int], [.one (slR 0)], [ZtS 0 0], [eLe (.int 0) (ai 2), eLe (ai 2) (ZP (bA 4)), eLe (ai 2) (ai 3), eLe (ai 2) (.int 1099511627776), .f2 50 (eLe (.int 0) (ai 0)) (.f2 45 (ai 2) z0)], [.int, .bytes, .int],
 .one (sl1 (ai 6) (ai 2) (ai 8)), [ZtS 0 0, bAr (ai 6) (bA 7) (ai 8)], [eqS (tkB (bA 7) (ai 2)) (tkB (bA 4) (ai 2)), .f2 45 (ZP (bA 7)) (ai 2), eLe (ai 2) (ai 8), .f2 50 (eLe (.int 0) (ai 6)) (.f2 45 (ai 2) z0)]⟩
def Zsq : Ctr := ZH6
def ZO3 : Cx := { specs := [], anns := [(43, [(999999, .ghost Ztn [])])] }
def Zry : Ctr := ZH6
def ZSf : Cx := { specs := [], anns := [(79, [(999999, .ghost Ztn [])])] }
def Zpz : Ctr := ⟨[.int, .g], [.one (.ptr (ai 0) 0)], [plC (ai 0) (gA 1)], [], [], .one (.int .i64 (usI 210 (gA 1) z0 z0)), [plC (ai 0) (gA 1)], []⟩
def ZHu : Cx := { specs := [], anns := [(37, [(0, .ghost Zob [.tmp 0]), (999999, .ghost (ZeE [] [] (gA 1)) [.tmp 0])])] }
def Zj5 : Ctr := ⟨[.int, .g, .int], [.one (.ptr (ai 0) 0), .one (.int .i64 (ai 2))], [plC (ai 0) (gA 1)], [eLe (usI 205 (gA 1) z0 z0) Zau], [.int, .int, .int, .bytes, .int],
 .tup [(false, [sl1 (ai 3) (ai 4) (ai 5)]), (false, [.int .i64 (ai 7)])], [plC (ai 0) (usG 220 (gA 1) (ai 2) z0), bAr (ai 3) (bA 6) (ai 5)],
 [eqS (tkB (bA 6) (ai 4)) (usY 223 (gA 1) (ai 2) z0), .f2 45 (ai 4) (ZP (usY 223 (gA 1) (ai 2) z0)), eLe (ai 4) (ZP (bA 6)), eLe (ai 4) (ai 5), .f2 45 (ai 7) (usI 213 (gA 1) (ai 2) z0), .f2 50 (eLe (.int 0) (ai 3)) (.f2 45 (ai 4) z0)]⟩
def ZH7 : Cx := { specs := [], anns := [(15, [(1, .ghost Zob [.tmp 0]), (8, .ghost ZpZ [.tmp 8]), (10, .iff (.f2 141 (mA 13) (ai 2))), (10, .ghost Zjh []), (999999, .ghost (ZeE [.int] [.one (.int .i64 (ai 15))] (usG 220 (gA 1) (ai 15) z0)) [.tmp 0, .tmp 1]), (999999, .ghost Ztn [])])] }
def ZRx : VC := i (l z (a 2)) (i (l (a 2) (.f1 31 (b 4))) (i (l (a 2) (a 3)) (i (l (a 2) k0) (i (.f2 50 (l z (a 0)) (e (a 2) z)) (.and (i (t (a 0) z) (n (.f2 155 (.f2 114 (.f1 153 z) (a 2)) (.f2 114 (b 4) (a 2))) (n (e z (a 2)) (n (l (a 2) z) (n (.f2 50 (.bool .false) (e (a 2) z)) (n (e (a 2) z) .tt)))))) (i (l z (a 0)) (u 6 .int (i (l z (a 6)) (n (l (.f2 42 (a 2) (k 1)) k1) (u 7 .int (u 8 .int (i (l (a 2) (a 8)) (i (.f2 50 (l z (a 7)) (e (a 2) z)) (n (.f2 155 (.f2 114 (.f2 114 (b 4) (a 2)) (a 2)) (.f2 114 (b 4) (a 2))) (n (e (.f1 31 (.f2 114 (b 4) (a 2))) (a 2)) .tt)))))))))))))))
theorem ZTx : Yk Tryz.prog ZO3 12 43 Zsq = ZRx := by kernel_rfl
def ZTh : VC := i (l z (a 2)) (i (l (a 2) (.f1 31 (b 4))) (i (l (a 2) (a 3)) (i (l (a 2) k0) (i (.f2 50 (l z (a 0)) (e (a 2) z)) (.and (i (t (a 0) z) (n (.f2 155 (.f2 114 (.f1 153 z) (a 2)) (.f2 114 (b 4) (a 2))) (n (e z (a 2)) (n (l (a 2) z) (n (.f2 50 (.bool .false) (e (a 2) z)) (n (e (a 2) z) .tt)))))) (i (l z (a 0)) (u 6 .int (i (l z (a 6)) (n (l (.f2 42 (a 2) (k 1)) k1) (u 7 .int (u 8 .int (i (l (a 2) (a 8)) (i (.f2 50 (l z (a 7)) (e (a 2) z)) (n (.f2 155 (.f2 114 (.f2 114 (b 4) (a 2)) (a 2)) (.f2 114 (b 4) (a 2))) (n (e (.f1 31 (.f2 114 (b 4) (a 2))) (a 2)) .tt)))))))))))))))
theorem ZPH : Yk Tryz.prog ZSf 12 79 Zry = ZTh := by kernel_rfl
def ZIp : VC := u 2 .int (u 3 .int (u 4 .int (u 5 .int (u 6 .int (u 7 .int (u 8 .int (u 9 .int (u 10 .int (u 11 .rows (u 12 .amap (u 13 .ints (i (l z (a 5)) (i (l (a 5) (.f1 32 (r 11))) (i (e (a 5) (v 211 (g 1))) (i (l (a 5) (a 6)) (i (l z (a 9)) (i (l (a 9) (.f1 30 (s 13))) (i (.f2 153 (.f2 113 (s 13) (a 9)) (o 209 (g 1))) (i (c 214 (m 12) (g 1)) (i (p 215 (g 1)) (i (l (.f1 31 (j 208 (g 1))) (a 3)) (i (l z (a 2)) (i (p 237 (m 12)) (n (.f1 2 (e (v 200 (g 1)) z)) (n (.f1 23 (.f2 43 (.f1 31 (j 208 (g 1))) (v 200 (g 1)))) (n (.f2 155 (.f2 115 (r 11) (a 5)) (.f2 115 (r 11) (a 5))) (n (c 216 (g 1) (g 1)) (n (e (v 210 (g 1)) (.f2 43 (.f1 31 (j 208 (g 1))) (v 200 (g 1)))) .tt))))))))))))))))))))))))))))
theorem ZJv : Yk Tryz.prog ZHu 12 37 Zpz = ZIp := by kernel_rfl
def ZHG : VC := i (l (v 205 (g 1)) k2) (u 3 .int (u 4 .int (u 5 .int (u 6 .int (u 7 .int (u 8 .int (u 9 .int (u 10 .int (u 11 .int (u 12 .rows (u 13 .amap (u 14 .ints (i (l z (a 6)) (i (l (a 6) (.f1 32 (r 12))) (i (e (a 6) (v 211 (g 1))) (i (l (a 6) (a 7)) (i (l z (a 10)) (i (l (a 10) (.f1 30 (s 14))) (i (.f2 153 (.f2 113 (s 14) (a 10)) (o 209 (g 1))) (i (c 214 (m 13) (g 1)) (i (p 215 (g 1)) (i (l (.f1 31 (j 208 (g 1))) (a 4)) (i (l z (a 3)) (i (p 237 (m 13)) (.and (i (p 201 (g 1)) (n (.f2 155 (.f2 115 (r 12) (a 6)) (.f2 115 (r 12) (a 6))) (n (.f2 153 (.f2 113 (s 14) (a 10)) (o 209 (f 220 (g 1) (a 2)))) (n (c 214 (m 13) (f 220 (g 1) (a 2))) (n (p 215 (f 220 (g 1) (a 2))) (n (c 216 (f 220 (g 1) (a 2)) (g 1)) (n (.f2 155 (j 208 (f 220 (g 1) (a 2))) (j 208 (g 1))) (n (e (v 207 (f 220 (g 1) (a 2))) (v 207 (g 1))) (n (e (v 206 (f 220 (g 1) (a 2))) (v 206 (g 1))) (n (e (v 205 (f 220 (g 1) (a 2))) (v 205 (g 1))) (n (e (v 204 (f 220 (g 1) (a 2))) (v 204 (g 1))) (n (e (v 203 (f 220 (g 1) (a 2))) (v 203 (g 1))) (n (e (v 202 (f 220 (g 1) (a 2))) (v 202 (g 1))) (n (.f2 155 (p 201 (f 220 (g 1) (a 2))) (p 201 (g 1))) (n (e (.f1 31 (j 208 (f 220 (g 1) (a 2)))) (.f1 31 (j 208 (g 1)))) (n (e (v 200 (f 220 (g 1) (a 2))) (v 200 (g 1))) (n (.f2 155 (.f1 153 z) (wB 223 (g 1) (a 2))) (n (e z (.f1 31 (wB 223 (g 1) (a 2)))) (n (e (k 3) (d 213 (g 1) (a 2))) .tt))))))))))))))))))) (i (.f1 2 (p 201 (g 1))) (.and (i (l z (a 2)) (n (.f1 2 (e (v 200 (g 1)) z)) (n (.f1 23 (.f2 43 (.f1 31 (j 208 (g 1))) (v 200 (g 1)))) (.and (i (l (.f2 43 (.f1 31 (j 208 (g 1))) (v 200 (g 1))) (a 2)) (n (.f2 155 (.f2 115 (r 12) (a 6)) (.f2 115 (r 12) (a 6))) (n (.f2 153 (.f2 113 (s 14) (a 10)) (o 209 (f 220 (g 1) (a 2)))) (n (c 214 (m 13) (f 220 (g 1) (a 2))) (n (p 215 (f 220 (g 1) (a 2))) (n (c 216 (f 220 (g 1) (a 2)) (g 1)) (n (.f2 155 (j 208 (f 220 (g 1) (a 2))) (j 208 (g 1))) (n (e (v 207 (f 220 (g 1) (a 2))) (v 207 (g 1))) (n (e (v 206 (f 220 (g 1) (a 2))) (v 206 (g 1))) (n (e (v 205 (f 220 (g 1) (a 2))) (v 205 (g 1))) (n (e (v 204 (f 220 (g 1) (a 2))) (v 204 (g 1))) (n (e (v 203 (f 220 (g 1) (a 2))) (v 203 (g 1))) (n (e (v 202 (f 220 (g 1) (a 2))) (v 202 (g 1))) (n (.f2 155 (p 201 (f 220 (g 1) (a 2))) (p 201 (g 1))) (n (e (.f1 31 (j 208 (f 220 (g 1) (a 2)))) (.f1 31 (j 208 (g 1)))) (n (e (v 200 (f 220 (g 1) (a 2))) (v 200 (g 1))) (n (.f2 155 (.f1 153 z) (wB 223 (g 1) (a 2))) (n (e z (.f1 31 (wB 223 (g 1) (a 2)))) (n (e (k 30) (d 213 (g 1) (a 2))) .tt))))))))))))))))))) (i (t (a 2) (.f2 43 (.f1 31 (j 208 (g 1))) (v 200 (g 1)))) (n (.f1 23 (.f2 40 (v 205 (g 1)) (k 1))) (n (l z (v 200 (g 1))) (n (l (v 200 (g 1)) (v 200 (g 1))) (n (l (.f2 42 (v 200 (g 1)) (k 1)) k1) (u 15 .int (i (l z (a 15)) (.and (i (.f2 141 (m 13) (a 2)) (n (l z (.f3 140 z (m 13) (a 2))) (n (t (.f3 140 z (m 13) (a 2)) (a 6)) (u 16 .bytes (i (l z (.f3 112 (r 12) (.f3 140 z (m 13) (a 2)) (k 2))) (i (l (.f3 112 (r 12) (.f3 140 z (m 13) (a 2)) (k 2)) (.f1 31 (b 16))) (i (.f2 155 (.f2 114 (b 16) (.f3 112 (r 12) (.f3 140 z (m 13) (a 2)) (k 2))) (wB 212 (g 1) (.f3 140 z (m 13) (a 2)))) (i (e (.f3 112 (r 12) (.f3 140 z (m 13) (a 2)) z) (d 217 (g 1) (.f3 140 z (m 13) (a 2)))) (i (l (.f3 112 (r 12) (.f3 140 z (m 13) (a 2)) (k 2)) (.f3 112 (r 12) (.f3 140 z (m 13) (a 2)) (k 3))) (n (t (.f3 140 z (m 13) (a 2)) (.f1 32 (r 12))) (n (.f2 155 (.f2 115 (r 12) (a 6)) (.f2 115 (r 12) (a 6))) (n (.f2 153 (.f2 113 (s 14) (a 10)) (o 209 (f 220 (g 1) (a 2)))) (n (c 214 (m 13) (f 220 (g 1) (a 2))) (n (p 215 (f 220 (g 1) (a 2))) (n (c 216 (f 220 (g 1) (a 2)) (g 1)) (n (.f2 155 (j 208 (f 220 (g 1) (a 2))) (j 208 (g 1))) (n (e (v 207 (f 220 (g 1) (a 2))) (v 207 (g 1))) (n (e (v 206 (f 220 (g 1) (a 2))) (v 206 (g 1))) (n (e (v 205 (f 220 (g 1) (a 2))) (.f2 40 (v 205 (g 1)) (k 1))) (n (e (v 204 (f 220 (g 1) (a 2))) (v 204 (g 1))) (n (e (v 203 (f 220 (g 1) (a 2))) (v 203 (g 1))) (n (e (v 202 (f 220 (g 1) (a 2))) (v 202 (g 1))) (n (.f2 155 (p 201 (f 220 (g 1) (a 2))) (p 201 (g 1))) (n (e (.f1 31 (j 208 (f 220 (g 1) (a 2)))) (.f1 31 (j 208 (g 1)))) (n (e (v 200 (f 220 (g 1) (a 2))) (v 200 (g 1))) (n (.f2 155 (.f2 114 (.f2 120 (.f2 114 (.f2 126 (v 200 (g 1)) z) z) (.f2 120 (.f2 114 (.f2 114 (b 16) (.f3 112 (r 12) (.f3 140 z (m 13) (a 2)) (k 2))) (.f2 51 (.f3 112 (r 12) (.f3 140 z (m 13) (a 2)) (k 2)) (v 200 (g 1)))) (.f2 117 (.f2 126 (v 200 (g 1)) z) (.f2 51 (.f3 112 (r 12) (.f3 140 z (m 13) (a 2)) (k 2)) (v 200 (g 1)))))) (v 200 (g 1))) (wB 223 (g 1) (a 2))) (n (e (v 200 (g 1)) (.f1 31 (wB 223 (g 1) (a 2)))) (n (l (v 200 (g 1)) (.f2 40 (.f1 31 (.f2 114 (.f2 126 (v 200 (g 1)) z) z)) (.f2 40 (.f1 31 (.f2 114 (.f2 114 (b 16) (.f3 112 (r 12) (.f3 140 z (m 13) (a 2)) (k 2))) (.f2 51 (.f3 112 (r 12) (.f3 140 z (m 13) (a 2)) (k 2)) (v 200 (g 1))))) (.f1 31 (.f2 117 (.f2 126 (v 200 (g 1)) z) (.f2 51 (.f3 112 (r 12) (.f3 140 z (m 13) (a 2)) (k 2)) (v 200 (g 1)))))))) (n (e z (d 213 (g 1) (a 2))) (n (.f2 50 (l z (a 15)) (e (v 200 (g 1)) z)) .tt)))))))))))))))))))))))))))))) (i (.f1 2 (.f2 141 (m 13) (a 2))) (n (.f1 23 (.f2 42 (a 2) (v 200 (g 1)))) (n (.f1 23 (.f2 40 (a 2) (k 1))) (n (.f1 23 (.f2 42 (.f2 40 (a 2) (k 1)) (v 200 (g 1)))) (n (l z (a 4)) (n (l z (.f2 42 (a 2) (v 200 (g 1)))) (n (l (.f2 42 (a 2) (v 200 (g 1))) (.f2 42 (.f2 40 (a 2) (k 1)) (v 200 (g 1)))) (n (l z (.f2 42 (.f2 40 (a 2) (k 1)) (v 200 (g 1)))) (n (l (.f2 42 (.f2 40 (a 2) (k 1)) (v 200 (g 1))) (a 4)) (n (l z (.f2 41 (.f2 42 (.f2 40 (a 2) (k 1)) (v 200 (g 1))) (.f2 42 (a 2) (v 200 (g 1))))) (n (l (.f2 41 (.f2 42 (.f2 40 (a 2) (k 1)) (v 200 (g 1))) (.f2 42 (a 2) (v 200 (g 1)))) (.f2 41 (a 4) (.f2 42 (a 2) (v 200 (g 1))))) (n (l (.f2 40 (.f2 42 (a 2) (v 200 (g 1))) (.f2 41 (.f2 42 (.f2 40 (a 2) (k 1)) (v 200 (g 1))) (.f2 42 (a 2) (v 200 (g 1))))) (.f1 31 (j 208 (g 1)))) (n (.f2 155 (.f2 115 (r 12) (a 6)) (.f2 115 (r 12) (a 6))) (n (.f2 153 (.f2 113 (s 14) (a 10)) (o 209 (f 220 (g 1) (a 2)))) (n (c 214 (m 13) (f 220 (g 1) (a 2))) (n (p 215 (f 220 (g 1) (a 2))) (n (c 216 (f 220 (g 1) (a 2)) (g 1)) (n (.f2 155 (j 208 (f 220 (g 1) (a 2))) (j 208 (g 1)))
 (n (e (v 207 (f 220 (g 1) (a 2))) (v 207 (g 1))) (n (e (v 206 (f 220 (g 1) (a 2))) (v 206 (g 1))) (n (e (v 205 (f 220 (g 1) (a 2))) (.f2 40 (v 205 (g 1)) (k 1))) (n (e (v 204 (f 220 (g 1) (a 2))) (v 204 (g 1))) (n (e (v 203 (f 220 (g 1) (a 2))) (v 203 (g 1))) (n (e (v 202 (f 220 (g 1) (a 2))) (v 202 (g 1))) (n (.f2 155 (p 201 (f 220 (g 1) (a 2))) (p 201 (g 1))) (n (e (.f1 31 (j 208 (f 220 (g 1) (a 2)))) (.f1 31 (j 208 (g 1)))) (n (e (v 200 (f 220 (g 1) (a 2))) (v 200 (g 1))) (n (.f2 155 (.f2 114 (.f2 120 (.f2 114 (.f2 126 (v 200 (g 1)) z) z) (.f2 120 (.f2 114 (.f2 114 (.f2 117 (j 208 (g 1)) (.f2 42 (a 2) (v 200 (g 1)))) (.f2 41 (.f2 42 (.f2 40 (a 2) (k 1)) (v 200 (g 1))) (.f2 42 (a 2) (v 200 (g 1))))) (.f2 51 (.f2 41 (.f2 42 (.f2 40 (a 2) (k 1)) (v 200 (g 1))) (.f2 42 (a 2) (v 200 (g 1)))) (v 200 (g 1)))) (.f2 117 (.f2 126 (v 200 (g 1)) z) (.f2 51 (.f2 41 (.f2 42 (.f2 40 (a 2) (k 1)) (v 200 (g 1))) (.f2 42 (a 2) (v 200 (g 1)))) (v 200 (g 1)))))) (v 200 (g 1))) (wB 223 (g 1) (a 2))) (n (e (v 200 (g 1)) (.f1 31 (wB 223 (g 1) (a 2)))) (n (l (v 200 (g 1)) (.f2 40 (.f1 31 (.f2 114 (.f2 126 (v 200 (g 1)) z) z)) (.f2 40 (.f1 31 (.f2 114 (.f2 114 (.f2 117 (j 208 (g 1)) (.f2 42 (a 2) (v 200 (g 1)))) (.f2 41 (.f2 42 (.f2 40 (a 2) (k 1)) (v 200 (g 1))) (.f2 42 (a 2) (v 200 (g 1))))) (.f2 51 (.f2 41 (.f2 42 (.f2 40 (a 2) (k 1)) (v 200 (g 1))) (.f2 42 (a 2) (v 200 (g 1)))) (v 200 (g 1))))) (.f1 31 (.f2 117 (.f2 126 (v 200 (g 1)) z) (.f2 51 (.f2 41 (.f2 42 (.f2 40 (a 2) (k 1)) (v 200 (g 1))) (.f2 42 (a 2) (v 200 (g 1)))) (v 200 (g 1)))))))) (n (e z (d 213 (g 1) (a 2))) (n (.f2 50 (l z (a 15)) (e (v 200 (g 1)) z)) .tt)))))))))))))))))))))))))))))))))))))))))))) (i (t (a 2) z) (n (.f2 155 (.f2 115 (r 12) (a 6)) (.f2 115 (r 12) (a 6))) (n (.f2 153 (.f2 113 (s 14) (a 10)) (o 209 (f 220 (g 1) (a 2)))) (n (c 214 (m 13) (f 220 (g 1) (a 2))) (n (p 215 (f 220 (g 1) (a 2))) (n (c 216 (f 220 (g 1) (a 2)) (g 1)) (n (.f2 155 (j 208 (f 220 (g 1) (a 2))) (j 208 (g 1))) (n (e (v 207 (f 220 (g 1) (a 2))) (v 207 (g 1))) (n (e (v 206 (f 220 (g 1) (a 2))) (v 206 (g 1))) (n (e (v 205 (f 220 (g 1) (a 2))) (v 205 (g 1))) (n (e (v 204 (f 220 (g 1) (a 2))) (v 204 (g 1))) (n (e (v 203 (f 220 (g 1) (a 2))) (v 203 (g 1))) (n (e (v 202 (f 220 (g 1) (a 2))) (v 202 (g 1))) (n (.f2 155 (p 201 (f 220 (g 1) (a 2))) (p 201 (g 1))) (n (e (.f1 31 (j 208 (f 220 (g 1) (a 2)))) (.f1 31 (j 208 (g 1)))) (n (e (v 200 (f 220 (g 1) (a 2))) (v 200 (g 1))) (n (.f2 155 (.f1 153 z) (wB 223 (g 1) (a 2))) (n (e z (.f1 31 (wB 223 (g 1) (a 2)))) (n (e (k 30) (d 213 (g 1) (a 2))) .tt))))))))))))))))))))))))))))))))))))))))))))))
theorem ZKi : Yk Tryz.prog ZH7 12 15 Zj5 = ZHG := by kernel_rfl
theorem ZIu {G : Type} (S : Sig G) : Zs S Tryz.prog 43 Zsq := by
 refine Zd S (C := ZO3) (fuel := 12) (Zx trivial ⟨⟨⟨by decide, Zcx S⟩, trivial⟩, trivial⟩ trivial) fun ρ => ?_
 rw [ZTx]
 simp only [ZRx, VC.den, SX.den, ZN, Env.upd, ZS, ZB, ZI, ZJ, ZH, beq_iff_eq, Bool.not_eq_true', beq_eq_false_iff_ne, ne_eq, Bool.not_not, U.tMi, Int.toNat_zero, Nat.reduceEqDiff, reduceIte, Zf, ZK, ZG, U.int.injEq, sB]
 generalize (ρ 4).tB = X
 generalize (ρ 2).tI = l
 generalize (ρ 0).tI = b
 generalize (ρ 3).tI = c
 intro h1 h2 h3 h4 h5
 refine ⟨fun hb => ?_, fun hb _ _ => ⟨by omega, fun b' c' h6 h7 => ⟨by rw [List.take_take, Nat.min_self], by rw [ZUl]; omega, trivial⟩⟩⟩
 have hl : l = 0 := h5.resolve_left (by omega)
 subst hl
 exact ⟨rfl, rfl, ZUu 0, .inr rfl, rfl, trivial⟩
theorem ZHW {G : Type} (S : Sig G) : Zs S Tryz.prog 79 Zry := by
 refine Zd S (C := ZSf) (fuel := 12) (Zx trivial ⟨⟨⟨by decide, Zcx S⟩, trivial⟩, trivial⟩ trivial) fun ρ => ?_
 rw [ZPH]
 simp only [ZTh, VC.den, SX.den, ZN, Env.upd, ZS, ZB, ZI, ZJ, ZH, beq_iff_eq, Bool.not_eq_true', beq_eq_false_iff_ne, ne_eq, Bool.not_not, U.tMi, Int.toNat_zero, Nat.reduceEqDiff, reduceIte, Zf, ZK, ZG, U.int.injEq, sB]
 generalize (ρ 4).tB = X
 generalize (ρ 2).tI = l
 generalize (ρ 0).tI = b
 generalize (ρ 3).tI = c
 intro h1 h2 h3 h4 h5
 refine ⟨fun hb => ?_, fun hb _ _ => ⟨by omega, fun b' c' h6 h7 => ⟨by rw [List.take_take, Nat.min_self], by rw [ZUl]; omega, trivial⟩⟩⟩
 have hl : l = 0 := h5.resolve_left (by omega)
 subst hl
 exact ⟨rfl, rfl, ZUu 0, .inr rfl, rfl, trivial⟩
theorem Yv {d : Dv} (hg : GoodD d) : 0 < d.page /\ d.page <= 65536 /\ 4 <= d.pages /\ d.pages <= 65536 /\ (d.safe.length : Int) = d.pages * d.page /\ (d.safe.length : Int) <= 67108864 := by
 have h := hg.pages
 have h2 := ZcN hg.size
 exact ⟨by omega, by omega, h.1, h.2.1, h.2.2.1, by omega⟩
theorem ZIZ (S : Sig GG) (hS : DvSig S) : Zs S Tryz.prog 37 Zpz := by
 refine Zd S (C := ZHu) (fuel := 12) (Zx trivial ⟨⟨⟨by decide, ZcI S hS⟩, ⟨by decide, Y9 S hS _ _ _⟩, trivial⟩, trivial⟩ trivial) fun ρ => ?_
 rw [ZJv]
 simp only [ZIp, Zbf, Zr, VC.den, SX.den, ZN, Env.upd, ZS, ZB, ZI, ZJ, ZH, beq_iff_eq, Bool.not_eq_true', beq_eq_false_iff_ne, ne_eq, Bool.not_not, U.tMi, Int.toNat_zero, Nat.reduceEqDiff, reduceIte, Zf, ZK, ZG, U.int.injEq, sdv hS, sB]
 generalize Zk (U.co S .g (ρ 1)) = d
 intro i2 i3 i4 i5 i6 i7 i8 i9 i10 R11 M12 I13 h1 h2 h3 h4 h5 h6 h7 h8 hg h9 h10 h11
 have hb := Yv hg
 have hp : (d.safe.length : Int).tdiv d.page = d.pages := rfl
 rw [hp]
 exact ⟨by omega, ⟨by omega, by omega⟩, trivial, trivial, rfl, trivial⟩
theorem ZfS {d : Dv} {n : Int} (h : d.down = true) : d.ref n = 3 := by unfold Dv.ref; rw [h]; rfl
theorem Zcz {d : Dv} {n : Int} (h : d.down = false) (h2 : n < 0 \/ d.pages <= n) : d.ref n = 30 := by unfold Dv.ref; rw [h, if_pos h2]; rfl
theorem ZhD {d : Dv} {n : Int} (h : d.down = false) (h1 : 0 <= n) (h2 : n < d.pages) : d.ref n = 0 := by unfold Dv.ref; rw [h, if_neg (by omega)]; rfl
theorem Zlv {d : Dv} {n : Int} (h : d.ref n ≠ 0) : d.rdD n = d := by unfold Dv.rdD; rw [if_pos h]
theorem ZHK {d : Dv} {n : Int} (h : d.ref n = 0) : d.rdD n = { d with rd := d.rd + 1 } := by unfold Dv.rdD; rw [if_neg (by omega)]
theorem Zrb {d : Dv} {n : Int} (h : d.ref n ≠ 0) : d.rdB n = [] := by unfold Dv.rdB; rw [if_pos h]
theorem ZHE {d : Dv} {n : Int} (h : d.ref n = 0) : d.rdB n = d.read n := by unfold Dv.rdB; rw [if_neg (by omega)]
theorem Zn1 {d : Dv} (hg : GoodD d) : GoodD { d with rd := d.rd + 1 } := ⟨hg.size, hg.pgs, hg.w, hg.acts, by have := hg.cnt; exact ⟨by show 0 <= d.rd + 1; omega, this.2⟩⟩
theorem ZaB {d : Dv} (hg : GoodD d) {i : Int} (h0 : 0 <= i) (h1 : i < d.w.length) : ((d.dat i).length : Int) = d.page /\ 0 <= d.pg i /\ d.pg i < d.pages := by
 have hm : d.w.getD i.toNat (0, []) ∈ d.w := by
  rw [ZUj, ZUm (by omega)]; exact ZUG _
 have := hg.w _ hm
 exact ⟨this.2.2, this.1, this.2.1⟩
theorem Za0 {d : Dv} (hg : GoodD d) {n : Int} (h0 : 0 <= n) (h1 : n < d.pages) : ((d.place n).length : Int) = d.page := by
 have hb := Yv hg
 have hi := Yn h0 h1 (Int.le_of_lt hb.1)
 unfold Dv.place
 rw [ZUl, ZUx]; omega
theorem Zkb {d : Dv} (hg : GoodD d) {n : Int} (h0 : 0 <= n) (h1 : n < d.pages) : ((d.read n).length : Int) = d.page := by
 unfold Dv.read
 split
 ·exact (ZaB hg (by assumption) (Zgj d n).2).1
 ·exact Za0 hg h0 h1
theorem cpy {Y : List UInt8} {k P : Int} {z : UInt8} (hk : k = P) (hy : (Y.length : Int) = P) : ((List.replicate P.toNat z).take 0 ++ (Y.take k.toNat ++ (List.replicate P.toNat z).drop k.toNat)).take P.toNat = Y := by
 subst hk
 rw [List.take_zero, List.nil_append, ZUv (l := Y) (by omega), List.drop_of_length_le (by rw [ZUA]; omega), List.append_nil, ZUv (by omega)]
theorem Zuu {Y : List UInt8} {k P : Int} {z : UInt8} (hk : k = P) (hy : (Y.length : Int) = P) : P <= (((List.replicate P.toNat z).take 0).length : Int) + (((Y.take k.toNat).length : Nat) + (((List.replicate P.toNat z).drop k.toNat).length : Nat)) := by
 simp only [ZUl, ZUx, ZUA]; omega
theorem ZwL (S : Sig GG) (hS : DvSig S) : Zs S Tryz.prog 15 Zj5 := by
 refine Zd S (C := ZH7) (fuel := 12) (Zx trivial ⟨⟨⟨by decide, ZcI S hS⟩, ⟨by decide, Zfe S hS⟩, trivial, ⟨by decide, Zfd S hS⟩, ⟨by decide, Y9 S hS _ _ _⟩, ⟨by decide, Zcx S⟩, trivial⟩, trivial⟩ trivial) fun ρ => ?_
 rw [ZKi]
 simp only [ZHG, Zbf, Zr, VC.den, SX.den, ZN, Env.upd, ZS, ZB, ZI, ZJ, ZH, beq_iff_eq, Bool.not_eq_true', beq_eq_false_iff_ne, ne_eq, Bool.not_not, U.tMi, Int.toNat_zero, Nat.reduceEqDiff, reduceIte, Zf, ZK, ZG, U.int.injEq, sdv hS, sB]
 generalize Zk (U.co S .g (ρ 1)) = d
 generalize (ρ 2).tI = n
 intro h0 i3 i4 i5 i6 i7 i8 i9 i10 i11 R12 M13 I14 h1 h2 h3 h4 h5 h6 h7 h8 hg h9 h10 h11
 have hb := Yv hg
 have hp : (d.safe.length : Int).tdiv d.page = d.pages := rfl
 have hc := hg.cnt
 rw [hp]
 have hno : d.ref n ≠ 0 -> d.rdD n = d /\ d.rdB n = [] := fun h => ⟨Zlv h, Zrb h⟩
 cases hd : d.down
 ·refine ⟨fun h => by simp at h, fun _ => ⟨fun hn0 => ?_, fun hn0 => ?_⟩⟩
  ·refine ⟨by omega, ⟨by omega, by omega⟩, fun hout => ?_, fun hin => ?_⟩
   ·have hr := Zcz (n := n) hd (.inr hout)
    obtain ⟨e1, e2⟩ := hno (by rw [hr]; decide)
    rw [e1, e2, hr]
    refine ⟨trivial, h7, h8, hg, rfl, rfl, rfl, rfl, rfl, rfl, rfl, rfl, hd, rfl, rfl, rfl, by decide, rfl, trivial⟩
   ·have hr := ZhD hd hn0 hin
    have hrl := Zkb hg hn0 hin
    have hpp := Yn hn0 hin (Int.le_of_lt hb.1)
    have hm1 : (n + 1) * d.page = n * d.page + d.page := by rw [Int.add_mul, Int.one_mul]
    rw [ZHK hr, ZHE hr, hr]
    have hla := Zec h8.1 h8.2 n
    have hll := Zgj d n
    refine ⟨⟨by omega, by omega⟩, by omega, by omega, by omega, fun b hb0 => ⟨fun hm => ?_, fun hm => ?_⟩⟩
    ·have hl0 := hla.1.1 hm
     rw [hla.2 hm]
     have hdl := (ZaB hg hl0 hll.2).1
     have hrd : d.read n = d.dat (d.last n) := by unfold Dv.read; rw [if_pos hl0]
     refine ⟨by omega, by omega, fun B16 q0 q1 q2 q3 q4 => ?_⟩
     have hq : ((R12.getD (d.last n).toNat []).getD (Int.toNat 2) 0) = d.page := by
      rw [<- hdl, <- q2, ZUl]; omega
     rw [q2, hq, YF (ZUu _)]
     refine ⟨by omega, trivial, h7, h8, Zn1 hg, rfl, rfl, rfl, rfl, rfl, rfl, rfl, rfl, hd, rfl, rfl, ?_, ?_, ?_, rfl, .inl hb0, trivial⟩
     ·rw [hrd]; exact cpy rfl hdl
     ·rw [hrl]
     ·exact Zuu rfl hdl
    ·have hl0 : ¬ 0 <= d.last n := fun h => by rw [hla.1.2 h] at hm; cases hm
     have hrd : d.read n = d.place n := by unfold Dv.read; rw [if_neg hl0]
     have hpl := Za0 hg hn0 hin
     have hw : (n + 1) * d.page - n * d.page = d.page := by omega
     rw [hw, YF (ZUu _), hm1]
     have e : (d.safe.drop (n * d.page).toNat).take d.page.toNat = d.place n := rfl
     rw [e]
     refine ⟨⟨by omega, by omega⟩, ⟨by omega, by omega⟩, ⟨by omega, by omega⟩, by omega, by omega, by omega, by omega, by omega, by omega, by omega, by omega, trivial, h7, h8, Zn1 hg, rfl, rfl, rfl, rfl, rfl, rfl, rfl, rfl, hd, rfl, rfl, ?_, ?_, ?_, rfl, .inl hb0, trivial⟩
     ·rw [hrd]; exact cpy rfl hpl
     ·rw [hrl]
     ·exact Zuu rfl hpl
  ·have hr := Zcz (n := n) hd (.inl hn0)
   obtain ⟨e1, e2⟩ := hno (by rw [hr]; decide)
   rw [e1, e2, hr]
   refine ⟨trivial, h7, h8, hg, rfl, rfl, rfl, rfl, rfl, rfl, rfl, rfl, hd, rfl, rfl, rfl, by decide, rfl, trivial⟩
 ·have hr := ZfS (n := n) hd
  obtain ⟨e1, e2⟩ := hno (by rw [hr]; decide)
  rw [e1, e2, hr]
  refine ⟨fun _ => ⟨trivial, h7, h8, hg, rfl, rfl, rfl, rfl, rfl, rfl, rfl, rfl, hd, rfl, rfl, rfl, by decide, rfl, trivial⟩, fun h => by simp at h⟩
end
end Go.Proofs.YtlcfjjjdhdfbdaaGreat
