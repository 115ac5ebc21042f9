/- Part of a proof. -/
import Derived.Test.YtlmkcakhhbckhaaGreatDoorPt4
import Derived.LaidEql
import Derived.WalkKit
import Derived.Laws.Tables
import Derived.Laws.IdiomStrings
import Derived.Laws.StructEq
import Derived.Laws.CopyRow
import Derived.Laws.RangeString
import Derived.Maps.RangeRun
set_option linter.unusedSimpArgs false
set_option linter.unusedVariables false
set_option maxRecDepth 20000
namespace Go.Cx
noncomputable section
abbrev Cn := List CV -> H -> Nat -> Res
def ZJ {α : Type} : List (Nat × α) -> Nat -> Option α
 | [], _ => none
 | (i, a) :: l, n => bif Nat.beq i n then some a else ZJ l n
def ZqF (k : KS) : Out -> List Out -> Res
 | o, [] => k o.v o.hp o.n
 | o, p :: l => Res.cat (k o.v o.hp o.n) (ZqF k p l)
def after (mg : Bool) (n : Nat) (r : Res) (k : KS) : Res :=
 match r with
 | none => none
 | some l => (match l with
  | [] => none
  | o :: os => (match os with
   | [] => k o.v o.hp o.n
   | p :: os => bif mg then (match meets o (p :: os) with | m => bif Nat.beq (Yg m.n) (Yg n) then k m.v m.hp m.n else none) else ZqF k o (p :: os)))
section
variable (P : Program) (ctrs : List (Nat × Option Cn)) (bd : Nat -> Cn) (rd : Nat -> Cn)
/-! ### Calls -/
def Zjd (f : Nat) (args : List CV) (hp : H) (n : Nat) (k : KS) : Res :=
 match ZJ ctrs f with
 | some c => (match c with | some c => after true n (c args hp n) k | none => after false n (bd f args hp n) k)
 | none => after true n (bd f args hp n) k
def ZqI (g : CV) (args : List CV) (hp : H) (n : Nat) (k : KS) : Res :=
 match g with
 | .fn f first caps => Zjd ctrs bd f ((first ++ args) ++ caps) hp n k
 | .yld l => after false n (rd l args hp n) k
 | .mth name (.ifc t v) => (match ZaD P t name with
  | some f => Zjd ctrs bd f (v :: args) hp n k
  | none => none)
 | _ => none
def Zp5 (g : CV) (args : List CV) (hp : H) (n : Nat) (k : KS) : Res :=
 match g with
 | .fn f first caps => (match ZJ ctrs f with
  | some c => (match c with | some _ => none | none => after false n (bd f ((first ++ args) ++ caps) hp n) k)
  | none => after true n (bd f ((first ++ args) ++ caps) hp n) k)
 | _ => none
def Zj3 (c : Call) (fr : F) (hp : H) (n : Nat) (k : KS) : Res :=
 match c.callee with
 | .value f => ZqI P ctrs bd rd (lk fr f) (lks fr c.args.toList) hp n k
 | .builtin b => Zf6 P fr hp n b c.args.toList c.argTypes.toList k
 | .invoke r name => (match lk fr r with
  | .ifc t v => (match ZaD P t name with
   | some f => Zjd ctrs bd f (v :: lks fr c.args.toList) hp n k
   | none => none)
  | _ => none)
def lev (o : Op) (fr : F) (hp : H) (n : Nat) (k : KS) : Res :=
 match o with
 | .alloc t => ZiC P hp n t k
 | .box t x => lBox fr hp n t x k
 | .store t a v => Zdn P fr hp n t a v k
 | .makeSlice t l c => ZlU P fr hp n t l c k
 | .makeMap t r => Zls P fr hp n t r k
 | .buildSlice t len parts => ZhF P fr hp n t len parts k
 | .mapUpdate t m x v => Zgd P fr hp n t m x v k
 | .insert t m x v => Zgd P fr hp n t m x v k
 | .mapEntry t m x => Zc0 P fr hp n t m x k
 | .entryStore t m s v => Zbo fr hp n m s v k
 | .range t x => ZlY P fr hp n t x k
 | .next x str => Zq0 fr hp n x str k
 | .entry x => Zld fr hp n x k
 | .convert s d x => Zjt P fr hp n s d x k
 | .call c => Zj3 P ctrs bd rd c fr hp n k
 | o => qev P fr hp o (fun v => k v hp n)
/-! ### Guards, regions in the order of their text -/
inductive Gd where | go | skip | bad
def ZtH (ops : List Oper) (j : Nat) : Option Nat := match Zdu ops j with | some o => o.dst | none => none
def Zu (ops : List Oper) (fr : F) (g : Option (Nat × Bool)) : Gd :=
 match g with
 | none => .go
 | some (j, want) => (match ZtH ops j with
  | some d => (match fg fr d with
   | .bool b => bif bbq b want then .go else .skip
   | .tup [] => .skip
   | _ => .bad)
  | none => .bad)
def ZfJ (fr : F) (d : Option Nat) (v : CV) : F := match d with | some d => ZjF fr d v | none => fr
def ZfQ (fr : F) (d : CV) : F := match ZcA fr ZM with | .tup l => Zm7 fr ZM (.tup (d :: l)) | _ => Zm7 fr ZM (.tup [d])
def Zgc (c : Call) (fr : F) : Option CV :=
 match ZcA fr ZM with
 | .nili => none
 | _ => (match c.callee with
  | .value f => (match lk fr f with | .fn g a b => some (.tup (.fn g a b :: lks fr c.args.toList)) | _ => none)
  | _ => none)
def Zil (o : Oper) (fr : F) (hp : H) (n : Nat) (k : F -> H -> Nat -> Res) : Res :=
 match o.op with
 | .defer c => (match Zgc c fr with | some d => k (ZfJ (ZfQ fr d) o.dst (.tup [])) hp n | none => none)
 | op => lev P ctrs bd rd op fr hp n (fun v hp n => k (ZfJ fr o.dst v) hp n)
def ZsG (ops : List Oper) : List Oper -> F -> H -> Nat -> (F -> H -> Nat -> Res) -> Res
 | [], fr, hp, n, k => k fr hp n
 | o :: rest, fr, hp, n, k => (match Zu ops fr o.guard with
  | .go => Zil P ctrs bd rd o fr hp n (fun fr hp n => ZsG ops rest fr hp n k)
  | .skip => ZsG ops rest (ZfJ fr o.dst (.tup [])) hp n k
  | .bad => none)
/-! ### Regions that draw their order -/
def Z1 (P : Program) (o : Op) : Bool :=
 match o with
 | .move _ | .assign _ | .pick .. | .nilCheck _ | .binOp .. | .unOp .. | .fieldAddr .. | .field .. | .indexAddr .. | .index .. | .slice .. | .lookup .. | .load .. | .extract .. | .makeInterface .. | .makeFunc .. | .build .. | .typeAssert .. => true
 | .convert _ d _ => (match tyD P d with | some (.slice _) => false | _ => true)
 | .call c => (match c.callee with | .builtin .len => true | .builtin .cap => true | .builtin .max => true | .builtin .min => true | _ => false)
 | _ => false
def Zbx (o : Op) : Bool := match o with | .move _ => true | .assign _ => true | .slice .. => true | _ => false
structure Rec where
 i : Nat
 o : Oper
 fr : F
 v : CV
def Zdc (o : Oper) (i : Nat) : Bool := o.after.any fun e => Region.binds .any e && e.on == i
def ZfT (hp : H) (r : Rec) : Bool :=
 bif CV.det r.v then (match qev P r.fr hp r.o.op (fun v => bif CV.bq r.v v then some [] else none) with | some [] => true | _ => false) else false
def ZdK (fr : F) (ops : List Oper) (o : Oper) : Bool :=
 match Zu ops fr o.guard with | .skip => true | _ => Z1 P o.op
def ZH (fr : F) (ops : List Oper) : List Nat -> Option (Nat × Oper)
 | [] => none
 | i :: l => (match Zdu ops i with
  | some o => bif ZdK P fr ops o then some (i, o) else ZH fr ops l
  | none => none)
def Zj4 (f : Nat -> Res) : List Nat -> Res
 | [] => some []
 | [i] => f i
 | i :: l => Res.cat (f i) (Zj4 f l)
def ZW : Op -> Bool
 | .alloc _ => true | .box _ _ => true | .makeMap _ _ => true | .makeSlice _ _ _ => true | .buildSlice _ _ _ => true | .convert _ _ _ => true | _ => false
def Zaw : List Oper -> Nat
 | [] => 0
 | o :: l => bif ZW o.op then Zaw l + 1 else Zaw l
def ZaL : List Oper -> Nat -> Nat
 | [], _ => 0
 | _ :: _, 0 => 0
 | o :: l, j + 1 => bif ZW o.op then ZaL l j + 1 else ZaL l j
def Zn5 : Op -> Bool | .defer _ => true | _ => false
def ZdS : List Oper -> Bool
 | [] => true
 | o :: l => bif Zn5 o.op then false else ZdS l
def Zmd : Op -> Bool | .call _ => true | _ => false
def Yl : Nat := 256
def Zbh (ops : List Oper) : List Nat -> List (Nat × Nat) -> Nat -> List (Nat × Nat) × Nat
 | [], rs, n => (rs, n)
 | j :: l, rs, n => (match Zdu ops j with
  | some o => bif Zmd o.op then (match ZJ rs j with
    | some _ => Zbh ops l rs n
    | none => Zbh ops l ((j, idN n) :: rs) (n + Yl))
   else Zbh ops l rs n
  | none => Zbh ops l rs n)
def YB (ops : List Oper) : Nat -> List Nat -> Bool
 | k, [] => Nat.ble 2 k
 | k, j :: l => (match Zdu ops j with | some o => bif Zmd o.op then YB ops (k + 1) l else YB ops k l | none => YB ops k l)
def Zvu (ops : List Oper) (n0 j : Nat) (rs : List (Nat × Nat)) (op : Op) (fr : F) (hp : H) (n : Nat) (k : KS) : Res :=
 bif ZW op then lev P ctrs bd rd op fr hp (mkN (n0 + ZaL ops j + 1) (n0 + ZaL ops j)) (fun v hp _ => k v hp n) else
  (match ZJ rs j with
  | some i => lev P ctrs bd rd op fr hp (mkN (i + Yl) i) (fun v hp _ => k v hp n)
  | none => lev P ctrs bd rd op fr hp n k)
def YL (ops : Array Oper) (n0 : Nat) : Nat -> Array Bool -> List (Nat × Nat) -> List Rec -> F -> H -> Nat -> (F -> H -> Nat -> Res) -> Res
 | 0, _, _, _, _, _, _, _ => none
 | fuel + 1, listed, rs, recs, fr, hp, n, k =>
  match Region.ready .any ops listed with
  | [] => k fr hp n
  | i :: rest =>
   match ZH P fr ops.toList (i :: rest) with
   | some (i, o) =>
    bif Region.free .any ops listed i then
     (match Zu ops.toList fr o.guard with
     | .go => qev P fr hp o.op (fun v => YL ops n0 fuel (listed.setIfInBounds i true) rs (bif Zbx o.op then recs else ⟨i, o, fr, v⟩ :: recs) (ZfJ fr o.dst v) hp n k)
     | .skip => YL ops n0 fuel (listed.setIfInBounds i true) rs recs (ZfJ fr o.dst (.tup [])) hp n k
     | .bad => none)
    else none
   | none => (match (bif YB ops.toList 0 (i :: rest) then Zbh ops.toList (i :: rest) rs n else (rs, n)) with
    | (rs, m) => bif (bif Nat.ble (idN m) (Yg m) then Nat.beq (Yg m) (Yg n) else false) then Zj4 (fun j => match Zdu ops.toList j with
     | some o => (match Zu ops.toList fr o.guard with
      | .go => Zvu P ctrs bd rd ops.toList n0 j rs o.op fr hp m fun v hp n =>
        (match recs.filter fun r => !(Zdc o r.i) with
        | recs => bif recs.all (ZfT P hp) then YL ops n0 fuel (listed.setIfInBounds j true) rs recs (ZfJ fr o.dst v) hp n k else none)
      | _ => none)
     | none => none) (i :: rest) else none)
/-! ### Code -/
def ZmZ : List Nat -> List CV -> F -> Option F
 | [], [], fr => some fr
 | p :: ps, v :: vs, fr => ZmZ ps vs (ZjF fr p v)
 | _, _, _ => none
def Zij (ro : Option Nat) (fn : Nat) (ps : List Nat) (assign body : Code) (fr : F) (hp : H) (n : Nat) : Option (Nat × F × H × Nat) :=
 match ro with
 | none => bif Nat.blt (idN n + 1) (Yg n) then some (idN n + 1, ZfQ fr (.ptr (idN n) 0), YH (YH hp (idN n) .dfr) (idN n + 1) (.loop fn fr ps assign body (idN n) 0 none), n + 2) else none
 | some l => (match ZC hp l with
  | .loop _ _ _ _ _ db _ _ => bif Nat.blt (idN n) (Yg n) then some (idN n, fr, YH hp (idN n) (.loop fn fr ps assign body db 0 none), n + 1) else none
  | _ => none)
def Zwc (l : Nat) (hp : H) : Option (Option Code × H) :=
 match ZC hp l with
 | .loop fn fr ps assign body db st pend => bif Nat.beq st 1 then none else some (pend, YH hp l (.loop fn fr ps assign body db 3 pend))
 | _ => none
def jump (c : Option Code) (fr : F) (hp : H) (n : Nat) (kn : F -> H -> Nat -> Res) (ke : Nat -> F -> H -> Nat -> Res) (kr : F -> H -> Nat -> Res) : Res :=
 match c with
 | none => kn fr hp n
 | some .ret => kr fr hp n
 | some (.exit id) => ke id fr hp n
 | _ => none
def cx (fn : Nat) (ro : Option Nat) : Nat -> Code -> F -> H -> Nat -> (F -> H -> Nat -> Res) -> (Nat -> F -> H -> Nat -> Res) -> (F -> H -> Nat -> Res) -> Res
 | 0, _, _, _, _, _, _, _ => none
 | fuel + 1, c, fr, hp, n, kn, ke, kr =>
  match c with
  | .skip => kn fr hp n
  | .label _ => kn fr hp n
  | .region _ ops draw => bif draw then (bif (bif P.follows .mixedOrders then (bif Region.noSelect ops then ZdS ops.toList else false) else false) then bif Nat.ble (idN n + Zaw ops.toList) (Yg n) then YL P ctrs bd rd ops (idN n) (ops.size + 1) (Array.replicate ops.size false) [] [] fr hp (n + Zaw ops.toList) kn else none else none)
    else ZsG P ctrs bd rd ops.toList ops.toList fr hp n kn
  | .seq a b => cx fn ro fuel a fr hp n (fun fr hp n => cx fn ro fuel b fr hp n kn ke kr) ke kr
  | .cond x a b => (match lk fr x with
   | .bool true => cx fn ro fuel a fr hp n kn ke kr
   | .bool false => cx fn ro fuel b fr hp n kn ke kr
   | _ => none)
  | .block id b => cx fn ro fuel b fr hp n kn (fun i fr hp n => bif Nat.beq i id then kn fr hp n else ke i fr hp n) kr
  | .exit id => ke id fr hp n
  | .ret => kr fr hp n
  | .loop b => cx fn ro fuel b fr hp n (fun fr hp n => cx fn ro fuel (.loop b) fr hp n kn ke kr) ke kr
  | .rangeFunc g ps assign body => (match Zij ro fn ps.toList assign body fr hp n with
   | some (l, fr, hp, n) => Zp5 ctrs bd (lk fr g) [.yld l] hp n (fun _ hp n =>
    match Zwc l hp with
    | some (j, hp) => jump j fr hp n kn ke kr
    | none => none)
   | none => none)
  | _ => none
/-! ### Bodies -/
def ZiY (fr : F) (hp : H) : List ResultVar -> Option (List CV)
 | [] => some []
 | .tmp t :: l => (match fg fr t with | .junk => none | v => (match ZiY fr hp l with | some r => some (v :: r) | none => none))
 | .cell a t :: l => (match fg fr a with
  | .ptr b o => (match tyA P t with
   | some (true, n) => (match rdN hp b o n with | some cs => (match ZiY fr hp l with | some r => some (.agg cs :: r) | none => none) | none => none)
   | some (false, _) => (match rd1 hp b o with | some c => (match ZiY fr hp l with | some r => some (c :: r) | none => none) | none => none)
   | none => none)
  | _ => none)
def Zqt : List CV -> Nat -> F -> F
 | [], _, fr => fr
 | v :: l, i, fr => Zqt l (i + 1) (ZjF fr i v)
variable (dctrs : List (Nat × Cn)) (db : Nat -> Cn) in
def ZfM : List CV -> H -> Nat -> (H -> Nat -> Res) -> Res
 | [], hp, n, k => k hp n
 | .ptr r 0 :: l, hp, n, k => (match ZC hp r with | .dfr => ZfM l (YH hp r .no) n k | _ => none)
 | .tup (.fn f first caps :: args) :: l, hp, n, k => (match ZJ dctrs f with
  | some c => after true n (c ((first ++ args) ++ caps) hp n) (fun _ hp n => ZfM l hp n k)
  | none => after true n (db f ((first ++ args) ++ caps) hp n) (fun _ hp n => ZfM l hp n k))
 | _, _, _, _ => none
variable (dctrs : List (Nat × Cn)) (db : Nat -> Cn) in
def fin (fn : Func) (fr : F) (hp : H) (n : Nat) : Res :=
 ZfM dctrs db (match ZcA fr ZM with | .tup l => l | _ => []) hp n (fun hp n =>
  match ZiY P fr hp fn.results.toList with
  | some [v] => some [⟨v, hp, n⟩]
  | some vs => some [⟨.tup vs, hp, n⟩]
  | none => none)
def Zvv (fn : Func) (fr : F) (hp : H) (n : Nat) : Res :=
 match ZcA fr ZM with
 | .tup _ => none
 | _ => (match ZiY P fr hp fn.results.toList with
  | some [v] => some [⟨v, hp, n⟩]
  | some vs => some [⟨.tup vs, hp, n⟩]
  | none => none)
def round (l : Nat) (args : List CV) (hp : H) (n : Nat) : Res :=
 match ZC hp l with
 | .loop fn fr ps assign body db st pend => bif Nat.beq st 0 then (match ZmZ ps args (Zm7 fr ZM .nili) with
  | some fr => cx P ctrs bd rd fn (some l) 1000000 assign fr hp n (fun fr1 hp n => match ZC hp l with
   | .loop fn0 fr0 ps0 a0 b0 db0 st0 pend0 => bif Nat.beq st0 0 then cx P ctrs bd rd fn (some l) 1000000 body fr1 (YH hp l (.loop fn0 fr0 ps0 a0 b0 db0 1 pend0)) n
     (fun _ hp n => endR l none hp n) (fun i _ hp n => endR l (some (.exit i)) hp n) (fun _ hp n => endR l (some .ret) hp n) else none
   | _ => none) (fun _ _ _ _ => none) (fun _ _ _ => none)
  | none => none) else none
 | _ => none
where
 endR (l : Nat) (j : Option Code) (hp : H) (n : Nat) : Res :=
  match ZC hp l with
  | .loop fn fr ps a b db _ _ => some [⟨.bool j.isNone, YH hp l (.loop fn fr ps a b db (if j.isNone then 0 else 2) j), n⟩]
  | _ => none
end
def go (P : Program) (ctrs : List (Nat × Option Cn)) (dctrs : List (Nat × Cn)) : Nat -> Nat -> Nat -> Cn
 | 0, _, _, _, _, _ => none
 | fuel + 1, 1, l, args, hp, n => round P ctrs (go P ctrs dctrs fuel 0) (go P ctrs dctrs fuel 1) l args hp n
 | fuel + 1, m, f, args, hp, n =>
  match ZvE P.funcs.toList f with
  | none => none
  | some fn => (match fn.body with
   | none => none
   | some c => bif (bif Nat.ble fn.ntmps 511 then (bif Nat.ble args.length 511 then !(fn.name == "runtime.NumGoroutine") else false) else false) then
     cx P ctrs (go P ctrs dctrs fuel 0) (go P ctrs dctrs fuel 1) f none 1000000 c (Zqt args 0 (F0 (args.length + (fn.ntmps - args.length)))) hp n
      (bif Nat.beq m 0 then fin P dctrs (go P ctrs dctrs fuel 2) fn else Zvv P fn) (fun _ _ _ _ => none) (bif Nat.beq m 0 then fin P dctrs (go P ctrs dctrs fuel 2) fn else Zvv P fn)
    else none)
def N0 : Nat := mkN 32767 0
def yes (r : Res) : Bool := match r with | some [o] => (match o.v with | .bool b => b | _ => false) | _ => false
end
end Go.Cx
namespace Go.Cx
open Go.RowKit (Below)
abbrev Sg := Nat -> Option (Nat × Nat)
def Le (σ τ : Sg) : Prop := ∀ i x, σ i = some x -> τ i = some x
theorem Le.refl (σ : Sg) : Le σ σ := fun _ _ h => h
theorem Le.trans {σ τ υ : Sg} (h : Le σ τ) (k : Le τ υ) : Le σ υ := fun i x hx => k i x (h i x hx)
def bys : Nat -> Nat -> List UInt8
 | 0, _ => []
 | l + 1, n => UInt8.ofNat (n % 256) :: bys l (n / 256)
mutual
def VR (σ : Sg) : CV -> Value -> Prop
 | .int k n, v => v = .int (kc k) n
 | .bool b, v => v = .bool b
 | .str l n, v => v = .string ⟨(bys l n).toArray⟩
 | .ptr b o, v => ∃ p t, σ b = some (p, t) /\ v = .pointer (some ⟨p, o, none⟩)
 | .nilp, v => v = .pointer none
 | .slice b o s l k ex, v => ∃ p t o' c, σ b = some (p, t) /\ v = .slice (some ⟨p, o', none⟩) l c /\ l <= k /\ k <= c /\ (ex = true -> c = k) /\ ((0 < k \/ ex = true) -> o' = o) /\ o' + c * s <= t /\ (ex = false -> 0 < k -> o' + c * s = t)
 | .nils, v => v = .slice none 0 0
 | .map b, v => ∃ p t, σ b = some (p, t) /\ v = .map (some p)
 | .nilm, v => v = .map none
 | .fn f fs cs, v => ∃ us vs, VRs σ fs us /\ VRs σ cs vs /\ v = .func (.func f) us.toArray vs.toArray
 | .mth name c, v => ∃ x, VR σ c x /\ v = .func (.method name) #[x] #[]
 | .yld l, v => ∃ p t, σ l = some (p, t) /\ v = .func (.yield p) #[] #[]
 | .nilf, v => v = .nilFunc
 | .ifc t c, v => ∃ x, VR σ c x /\ v = .iface t x
 | .nili, v => v = .nilIface
 | .agg cs, v => ∃ vs, VRs σ cs vs /\ v = .agg vs.toArray
 | .tup cs, v => ∃ vs, VRs σ cs vs /\ v = .tuple vs.toArray
 | .junk, _ => True
def VRs (σ : Sg) : List CV -> List Value -> Prop
 | [], vs => vs = []
 | c :: cs, vs => ∃ v ws, vs = v :: ws /\ VR σ c v /\ VRs σ cs ws
end
mutual
theorem VR.mono {σ τ : Sg} (h : Le σ τ) : ∀ {c : CV} {v : Value}, VR σ c v -> VR τ c v
 | .int _ _, _, hv => by simpa only [VR] using hv
 | .bool _, _, hv => by simpa only [VR] using hv
 | .str _ _, _, hv => by simpa only [VR] using hv
 | .ptr _ _, _, hv => by simp only [VR] at hv ⊢; obtain ⟨p, t, h1, h2⟩ := hv; exact ⟨p, t, h _ _ h1, h2⟩
 | .nilp, _, hv => by simpa only [VR] using hv
 | .slice .., _, hv => by simp only [VR] at hv ⊢; obtain ⟨p, t, o', c, h1, h2⟩ := hv; exact ⟨p, t, o', c, h _ _ h1, h2⟩
 | .nils, _, hv => by simpa only [VR] using hv
 | .map _, _, hv => by simp only [VR] at hv ⊢; obtain ⟨p, t, h1, h2⟩ := hv; exact ⟨p, t, h _ _ h1, h2⟩
 | .nilm, _, hv => by simpa only [VR] using hv
 | .fn _ fs cs, _, hv => by simp only [VR] at hv ⊢; obtain ⟨us, vs, h0, h1, h2⟩ := hv; exact ⟨us, vs, VRs.mono h h0, VRs.mono h h1, h2⟩
 | .mth _ c, _, hv => by simp only [VR] at hv ⊢; obtain ⟨x, h1, h2⟩ := hv; exact ⟨x, VR.mono h h1, h2⟩
 | .yld _, _, hv => by simp only [VR] at hv ⊢; obtain ⟨p, t, h1, h2⟩ := hv; exact ⟨p, t, h _ _ h1, h2⟩
 | .nilf, _, hv => by simpa only [VR] using hv
 | .ifc _ c, _, hv => by simp only [VR] at hv ⊢; obtain ⟨x, h1, h2⟩ := hv; exact ⟨x, VR.mono h h1, h2⟩
 | .nili, _, hv => by simpa only [VR] using hv
 | .agg cs, _, hv => by simp only [VR] at hv ⊢; obtain ⟨vs, h1, h2⟩ := hv; exact ⟨vs, VRs.mono h h1, h2⟩
 | .tup cs, _, hv => by simp only [VR] at hv ⊢; obtain ⟨vs, h1, h2⟩ := hv; exact ⟨vs, VRs.mono h h1, h2⟩
 | .junk, _, _ => by simp only [VR]
theorem VRs.mono {σ τ : Sg} (h : Le σ τ) : ∀ {c : List CV} {v : List Value}, VRs σ c v -> VRs τ c v
 | [], _, hv => by simpa only [VRs] using hv
 | c :: cs, _, hv => by simp only [VRs] at hv ⊢; obtain ⟨v, ws, h1, h2, h3⟩ := hv; exact ⟨v, ws, h1, VR.mono h h2, VRs.mono h h3⟩
end
theorem VRs.len {σ : Sg} : ∀ {c : List CV} {v : List Value}, VRs σ c v -> c.length = v.length
 | [], _, h => by simp only [VRs] at h; subst h; rfl
 | c :: cs, _, h => by simp only [VRs] at h; obtain ⟨v, ws, rfl, _, h3⟩ := h; simp [VRs.len h3]
theorem VRs.app {σ : Sg} : ∀ {c d : List CV} {v w : List Value}, VRs σ c v -> VRs σ d w -> VRs σ (c ++ d) (v ++ w)
 | [], _, _, _, h, k => by simp only [VRs] at h; subst h; exact k
 | c :: cs, _, _, _, h, k => by
  simp only [VRs] at h; obtain ⟨v, ws, rfl, h2, h3⟩ := h
  simp only [List.cons_append, VRs]; exact ⟨v, _, rfl, h2, VRs.app h3 k⟩
theorem VRs.get {σ : Sg} : ∀ {c : List CV} {v : List Value} {i : Nat} {x : CV}, VRs σ c v -> Zl6 c i = some x -> ∃ y, v[i]? = some y /\ VR σ x y
 | [], _, _, _, _, hx => by cases hx
 | c :: cs, _, i, x, h, hx => by
  simp only [VRs] at h; obtain ⟨v, ws, rfl, h2, h3⟩ := h
  cases i with
  | zero => simp only [Zl6] at hx; cases hx; exact ⟨v, rfl, h2⟩
  | succ i => simp only [Zl6] at hx; simpa using VRs.get h3 hx
theorem VRs.drop {σ : Sg} : ∀ {n : Nat} {c : List CV} {v : List Value}, VRs σ c v -> VRs σ (Zdi n c) (v.drop n)
 | 0, _, _, h => by simpa [Zdi] using h
 | n + 1, [], _, h => by simp only [VRs] at h; subst h; simp [Zdi, VRs]
 | n + 1, c :: cs, _, h => by
  simp only [VRs] at h; obtain ⟨v, ws, rfl, h2, h3⟩ := h
  simpa [Zdi] using VRs.drop h3
theorem VRs.take {σ : Sg} : ∀ {n : Nat} {c r : List CV} {v : List Value}, VRs σ c v -> Zcj n c = some r -> VRs σ r (v.take n) /\ n <= v.length /\ r.length = n
 | 0, _, r, _, h, hr => by simp only [Zcj] at hr; cases hr; simp [VRs]
 | n + 1, [], _, _, h, hr => by simp only [Zcj] at hr; cases hr
 | n + 1, c :: cs, r, _, h, hr => by
  simp only [VRs] at h; obtain ⟨v, ws, rfl, h2, h3⟩ := h
  simp only [Zcj] at hr
  split at hr
  ·rename_i q hq
   cases hr
   obtain ⟨a, b, d⟩ := VRs.take h3 hq
   refine ⟨?_, by simpa using b, by simp [d]⟩
   simp only [List.take_succ_cons, VRs]; exact ⟨v, _, rfl, h2, a⟩
  ·cases hr
theorem VRs.over {σ : Sg} {d : List CV} {w : List Value} (hd : VRs σ d w) : ∀ {o : Nat} {c r : List CV} {v : List Value}, VRs σ c v -> Zmz d o c = some r →
  VRs σ r (v.take o ++ w ++ v.drop (o + w.length)) /\ o <= v.length
 | 0, c, r, v, h, hr => by
  simp only [Zmz] at hr; cases hr
  refine ⟨?_, Nat.zero_le _⟩
  have := VRs.app hd (VRs.drop (n := d.length) h)
  simpa [hd.len] using this
 | o + 1, [], r, v, h, hr => by simp only [Zmz] at hr; cases hr
 | o + 1, c :: cs, r, v, h, hr => by
  simp only [VRs] at h; obtain ⟨v, ws, rfl, h2, h3⟩ := h
  simp only [Zmz] at hr
  split at hr
  ·rename_i q hq
   cases hr
   obtain ⟨a, b⟩ := VRs.over hd h3 hq
   refine ⟨?_, by simpa using b⟩
   have e : (v :: ws).drop (o + 1 + w.length) = ws.drop (o + w.length) := by rw [show o + 1 + w.length = (o + w.length) + 1 by omega]; rfl
   rw [e]
   simp only [List.take_succ_cons, List.cons_append, VRs]; exact ⟨v, _, rfl, h2, a⟩
  ·cases hr
theorem VRs.put0 {σ : Sg} : ∀ {d c r : List CV} {w v : List Value}, VRs σ d w -> VRs σ c v -> Zek d c = some r -> VRs σ r (w ++ v.drop w.length) /\ w.length <= v.length
 | [], c, r, w, v, hd, h, hr => by
  simp only [VRs] at hd; subst hd
  simp only [Zek] at hr; cases hr
  exact ⟨by simpa using h, Nat.zero_le _⟩
 | _ :: _, [], r, w, v, hd, h, hr => by simp only [Zek] at hr; cases hr
 | x :: d, y :: c, r, w, v, hd, h, hr => by
  simp only [VRs] at hd h
  obtain ⟨a, w', rfl, h1, h2⟩ := hd
  obtain ⟨b, v', rfl, h3, h4⟩ := h
  simp only [Zek] at hr
  split at hr
  ·rename_i q hq
   cases hr
   obtain ⟨e1, e2⟩ := VRs.put0 h2 h4 hq
   refine ⟨?_, by simpa using e2⟩
   simp only [List.cons_append, ZxZ, List.drop_succ_cons, VRs]
   exact ⟨a, _, rfl, h1, e1⟩
  ·cases hr
theorem VRs.put {σ : Sg} {d : List CV} {w : List Value} (hd : VRs σ d w) : ∀ {o : Nat} {c r : List CV} {v : List Value}, VRs σ c v -> ZhC d o c = some r →
  VRs σ r (v.take o ++ w ++ v.drop (o + w.length)) /\ o + w.length <= v.length
 | 0, c, r, v, h, hr => by
  simp only [ZhC] at hr
  obtain ⟨a, b⟩ := VRs.put0 hd h hr
  exact ⟨by simpa using a, by omega⟩
 | o + 1, [], r, v, h, hr => by simp only [ZhC] at hr; cases hr
 | o + 1, c :: cs, r, v, h, hr => by
  simp only [VRs] at h; obtain ⟨v, ws, rfl, h2, h3⟩ := h
  simp only [ZhC] at hr
  split at hr
  ·rename_i q hq
   cases hr
   obtain ⟨a, b⟩ := VRs.put hd h3 hq
   refine ⟨?_, by simp only [ZxZ]; omega⟩
   have e : (v :: ws).drop (o + 1 + w.length) = ws.drop (o + w.length) := by rw [show o + 1 + w.length = (o + w.length) + 1 by omega]; rfl
   rw [e]
   simp only [List.take_succ_cons, List.cons_append, VRs]; exact ⟨v, _, rfl, h2, a⟩
  ·cases hr
theorem VRs.rep {σ : Sg} {c : List CV} {v : List Value} (h : VRs σ c v) : ∀ (n : Nat), VRs σ (ZrE c n) (List.replicate n v).flatten
 | 0 => by simp [ZrE, VRs]
 | n + 1 => by simp only [ZrE, List.replicate_succ, List.flatten_cons]; exact h.app (h.rep n)
/-! ### Bytes -/
theorem Zl : ∀ (l n : Nat), (bys l n).length = l
 | 0, _ => rfl
 | l + 1, n => by simp [bys, Zl l]
theorem ZgZ (l : Nat) : pw (l + 1) = 256 * pw l := by unfold pw; rw [show 8 * (l + 1) = 8 * l + 8 by omega, Nat.pow_add, Nat.mul_comm]
theorem ZsB (l : Nat) : 0 < pw l := Nat.two_pow_pos _
theorem ZnX : pw 0 = 1 := rfl
theorem Zsn (a b : Nat) : pw (a + b) = pw a * pw b := by unfold pw; rw [<- Nat.pow_add]; congr 1; omega
theorem Zbj : ∀ (l n i : Nat), i < l -> (bys l n)[i]? = some (UInt8.ofNat (ZfN n i))
 | 0, _, _, h => by omega
 | l + 1, n, 0, _ => by simp [bys, ZfN, pw]
 | l + 1, n, i + 1, h => by
  simp only [bys, List.getElem?_cons_succ]
  rw [Zbj l (n / 256) i (by omega)]
  simp only [ZfN]; rw [Nat.div_div_eq_div_mul, ZgZ]
theorem Zbr : ∀ (l n : Nat), bys l (n % pw l) = bys l n
 | 0, _ => rfl
 | l + 1, n => by
  simp only [bys]
  congr 1
  ·congr 1; rw [ZgZ, Nat.mod_mul_right_mod]
  ·rw [ZgZ]
   have : n % (256 * pw l) / 256 = n / 256 % pw l := by rw [Nat.mod_mul_right_div_self]
   rw [this, Zbr l]
theorem ZgQ (n i : Nat) : ZfN n i < 256 := Nat.mod_lt _ (by decide)
theorem Zli (n lo i : Nat) : ZfN (n / pw lo) i = ZfN n (lo + i) := by
 simp only [ZfN]; rw [Nat.div_div_eq_div_mul, Zsn]
theorem ZhD (l n lo : Nat) : (bys l n).drop lo = bys (l - lo) (n / pw lo) := by
 apply List.ext_getElem?
 intro i
 rw [Zx4]
 by_cases h : lo + i < l
 ·rw [Zbj _ _ _ h, Zbj _ _ _ (by omega), Zli]
 ·rw [List.getElem?_eq_none (by rw [Zl]; omega), List.getElem?_eq_none (by rw [Zl]; omega)]
theorem Zc9 (l n k : Nat) (h : k <= l) : (bys l n).take k = bys k n := by
 apply List.ext_getElem?
 intro i
 by_cases hi : i < k
 ·rw [List.getElem?_take_of_lt hi, Zbj _ _ _ (by omega), Zbj _ _ _ hi]
 ·rw [List.getElem?_eq_none (by simp [Zl]; omega), List.getElem?_eq_none (by rw [Zl]; omega)]
theorem ZgT (l n lo len : Nat) (h : lo + len <= l) : ((bys l n).drop lo).take len = bys len (ZhI n lo len) := by
 rw [ZhD, Zc9 _ _ _ (by omega)]; unfold ZhI; rw [Zbr]
theorem ZdR (l1 n1 l2 n2 : Nat) : bys l1 n1 ++ bys l2 n2 = bys (l1 + l2) (ZhJ l1 n1 n2) := by
 have e : bys (l1 + l2) (ZhJ l1 n1 n2) = (bys (l1 + l2) (ZhJ l1 n1 n2)).take l1 ++ (bys (l1 + l2) (ZhJ l1 n1 n2)).drop l1 := (List.take_append_drop _ _).symm
 rw [e, Zc9 _ _ _ (by omega), ZhD]
 have h1 : ZhJ l1 n1 n2 % pw l1 = n1 % pw l1 := by
  unfold ZhJ; rw [Nat.mul_comm, Nat.add_mul_mod_self_left, Nat.mod_mod]
 have h2 : ZhJ l1 n1 n2 / pw l1 = n2 := by
  unfold ZhJ; rw [Nat.mul_comm, Nat.add_mul_div_left _ _ (ZsB l1), Nat.div_eq_of_lt (Nat.mod_lt _ (ZsB l1)), Nat.zero_add]
 rw [h2, show l1 + l2 - l1 = l2 by omega]
 congr 1
 rw [<- Zbr l1 (ZhJ l1 n1 n2), h1, Zbr]
theorem Zqq (l n lo len m : Nat) (h : lo + len <= l) : bys l (ZsY n lo len m l) = (bys l n).take lo ++ bys len m ++ (bys l n).drop (lo + len) := by
 have e : ZsY n lo len m l = ZhJ lo n (ZhJ len m ((n / pw (lo + len)) % pw (l - (lo + len)))) := by
  unfold ZsY ZhJ
  rw [Zsn, Nat.add_mul, Nat.add_assoc]
  congr 2
  rw [Nat.mul_assoc, Nat.mul_comm (pw lo) (pw len)]
 rw [e]
 have e2 : l = lo + (len + (l - (lo + len))) := by omega
 conv => lhs; rw [e2]
 have e3 : lo + (len + (l - (lo + len))) - (lo + len) = l - (lo + len) := by omega
 rw [e3, <- ZdR, <- ZdR, Zbr, Zc9 _ _ _ (by omega), ZhD, Zx3]
theorem Zgv (l n m : Nat) : bys l n = bys l m ↔ n % pw l = m % pw l := by
 constructor
 ·intro h
  induction l generalizing n m with
  | zero => rw [ZnX]; omega
  | succ l ih =>
   simp only [bys, List.cons.injEq] at h
   have h1 := congrArg UInt8.toNat h.1
   simp only [UInt8.toNat_ofNat'] at h1
   have h2 := ih _ _ h.2
   rw [ZgZ]
   rw [Nat.mod_mul, Nat.mod_mul, h2]
   omega
 ·intro h; rw [<- Zbr l n, h, Zbr]
theorem ZeK : ∀ (l : List UInt8), bys l.length (Zcz l) = l
 | [] => rfl
 | x :: l => by
  simp only [ZxZ, bys, Zcz]
  have hx : x.toNat < 256 := x.toNat_lt
  congr 1
  ·rw [show (x.toNat + 256 * Zcz l) % 256 = x.toNat by omega]; simp
  ·rw [show (x.toNat + 256 * Zcz l) / 256 = Zcz l by omega]; exact ZeK l
end Go.Cx
namespace Go.Cx
open Go.RowKit (Below)
/-! ### Octets -/
theorem Zwk {α : Type} (c0 c1 c2 c3 c4 c5 c6 c7 : α) (d : Nat) : sel c0 c1 c2 c3 c4 c5 c6 c7 d = match d with | 0 => c0 | 1 => c1 | 2 => c2 | 3 => c3 | 4 => c4 | 5 => c5 | 6 => c6 | _ => c7 := by
 unfold sel
 match d with
 | 0 => rfl | 1 => rfl | 2 => rfl | 3 => rfl | 4 => rfl | 5 => rfl | 6 => rfl | 7 => rfl | _ + 8 => rfl
theorem ZjC {α : Type} (f : α -> α) (o : O α) (d e : Nat) (hd : d < 8) (he : e < 8) : og (os f o d) e = if e = d then f (og o e) else og o e := by
 obtain ⟨c0, c1, c2, c3, c4, c5, c6, c7⟩ := o
 have hd' : d = 0 \/ d = 1 \/ d = 2 \/ d = 3 \/ d = 4 \/ d = 5 \/ d = 6 \/ d = 7 := by omega
 have he' : e = 0 \/ e = 1 \/ e = 2 \/ e = 3 \/ e = 4 \/ e = 5 \/ e = 6 \/ e = 7 := by omega
 rcases hd' with rfl | rfl | rfl | rfl | rfl | rfl | rfl | rfl <;> rcases he' with rfl | rfl | rfl | rfl | rfl | rfl | rfl | rfl <;> rfl
theorem Zjs {α : Type} (a : α) (d : Nat) : og (oe a) d = a := by
 show sel a a a a a a a a d = a
 rw [Zwk]; split <;> rfl
theorem YR (f : F) (i j : Nat) (v : CV) (hi : i < 512) (hj : j < 512) : ZcA (Zm7 f i v) j = if j = i then v else ZcA f j := by
 obtain ⟨n, o⟩ := f
 unfold ZcA Zm7
 simp only
 rw [ZjC _ _ _ _ (by omega) (by omega)]
 by_cases h1 : j / 64 = i / 64
 ·rw [if_pos h1, ZjC _ _ _ _ (by omega) (by omega)]
  by_cases h2 : j / 8 % 8 = i / 8 % 8
  ·rw [if_pos h2, ZjC _ _ _ _ (by omega) (by omega)]
   by_cases h3 : j % 8 = i % 8
   ·rw [if_pos h3, if_pos (by omega)]
   ·rw [if_neg h3, if_neg (by omega)]
  ·rw [if_neg h2, if_neg (by omega)]
 ·rw [if_neg h1, if_neg (by omega)]
theorem Zix (f : F) (i : Nat) (v : CV) : (Zm7 f i v).n = f.n := by obtain ⟨n, o⟩ := f; rfl
theorem Zpz (f : F) (i : Nat) (v : CV) : ZjF f i v = bif Nat.blt i f.n then Zm7 f i v else f := by
 obtain ⟨n, o⟩ := f; unfold ZjF Zm7; simp only
theorem ZtA (f : F) (i : Nat) : fg f i = bif Nat.blt i f.n then ZcA f i else .junk := by
 obtain ⟨n, o⟩ := f; unfold fg ZcA; simp only
theorem ZkH (n i : Nat) : ZcA (F0 n) i = .junk := by unfold ZcA F0; simp only; rw [Zjs, Zjs, Zjs]
theorem ZV (h : H) (i j : Nat) (c : Ck) (hi : i < 32768) (hj : j < 32768) : ZC (YH h i c) j = if j = i then c else ZC h j := by
 unfold ZC YH
 rw [ZjC _ _ _ _ (by omega) (by omega)]
 by_cases h1 : j / 4096 = i / 4096
 ·rw [if_pos h1, ZjC _ _ _ _ (by omega) (by omega)]
  by_cases h2 : j / 512 % 8 = i / 512 % 8
  ·rw [if_pos h2, ZjC _ _ _ _ (by omega) (by omega)]
   by_cases h3 : j / 64 % 8 = i / 64 % 8
   ·rw [if_pos h3, ZjC _ _ _ _ (by omega) (by omega)]
    by_cases h4 : j / 8 % 8 = i / 8 % 8
    ·rw [if_pos h4, ZjC _ _ _ _ (by omega) (by omega)]
     by_cases h5 : j % 8 = i % 8
     ·rw [if_pos h5, if_pos (by omega)]
     ·rw [if_neg h5, if_neg (by omega)]
    ·rw [if_neg h4, if_neg (by omega)]
   ·rw [if_neg h3, if_neg (by omega)]
  ·rw [if_neg h2, if_neg (by omega)]
 ·rw [if_neg h1, if_neg (by omega)]
theorem ZtL (i : Nat) : ZC H0 i = .no := by unfold ZC H0; rw [Zjs, Zjs, Zjs, Zjs, Zjs]
/-! ### Frames -/
def DfR (σ : Sg) : List CV -> List Deferred -> Prop
 | [], l => l = []
 | .ptr r 0 :: cs, l => ∃ p t ds, σ r = some (p, t) /\ l = { target := .collected p, args := #[] } :: ds /\ DfR σ cs ds
 | .tup (.fn f first caps :: args) :: cs, l => ∃ us vs ws ds, VRs σ first us /\ VRs σ caps vs /\ VRs σ args ws /\ l = { target := .fn (.func f) vs.toArray, args := us.toArray ++ ws.toArray } :: ds /\ DfR σ cs ds
 | _ :: _, _ => False
noncomputable def dfs (fr : F) : List CV := match ZcA fr ZM with | .tup l => l | _ => []
def NJ (fr : F) : Prop := ∀ i, fr.n <= i -> i < 511 -> ZcA fr i = .junk
structure FrR (σ : Sg) (fr : F) (a : Act) : Prop where
 sz : fr.n = a.tmps.size
 small : a.tmps.size <= 511
 val : ∀ i v, a.tmps[i]? = some v -> VR σ (ZcA fr i) v
 df : DfR σ (dfs fr) a.defers
 nj : NJ fr
theorem DfR.mono {σ τ : Sg} (h : Le σ τ) : ∀ {l : List CV} {ds : List Deferred}, DfR σ l ds -> DfR τ l ds
 | [], _, hd => hd
 | c :: l, ds, hd => by
  unfold DfR at hd ⊢
  split at hd
  ·exact hd
  ·obtain ⟨p, t, ds', h1, h2, h3⟩ := hd; exact ⟨p, t, ds', h _ _ h1, h2, DfR.mono h h3⟩
  ·obtain ⟨us, vs, ws, ds', h1, h2, h3, h4, h5⟩ := hd; exact ⟨us, vs, ws, ds', h1.mono h, h2.mono h, h3.mono h, h4, DfR.mono h h5⟩
  ·exact hd.elim
theorem FrR.mono {σ τ : Sg} (h : Le σ τ) {fr : F} {a : Act} (k : FrR σ fr a) : FrR τ fr a := ⟨k.sz, k.small, fun i v hv => (k.val i v hv).mono h, k.df.mono h, k.nj⟩
/-! ### Blocks -/
def Zcm (b : UInt8) : Value := .int .u8 (b.toNat : Nat)
def Row (w : World) (p t : Nat) (vs : List Value) (fz : Bool) : Prop :=
 ∃ arr ty lo hi, w.heap[p]? = some (.cells arr ty (lo, hi)) /\ arr.size = t /\ (∃ spare, arr.toList = vs ++ spare) /\ ((lo = 0 /\ hi = 0) \/ (fz = true /\ t <= lo))
def Zm4 (w : World) (p ty : Nat) : Prop := ∃ arr z, w.heap[p]? = some (.cells arr ty z)
def Zy (σ : Sg) : List Ent -> List MapEntry -> Prop
 | [], ms => ms = []
 | e :: es, ms => ∃ m ns, ms = m :: ns /\ VR σ e.key m.key /\ VR σ e.val m.val /\ m.born = e.born /\ Zy σ es ns
theorem Zy.mono {σ τ : Sg} (h : Le σ τ) : ∀ {l : List Ent} {m : List MapEntry}, Zy σ l m -> Zy τ l m
 | [], _, k => k
 | e :: l, _, k => by unfold Zy at k ⊢; obtain ⟨m, ns, h1, h2, h3, h4, h5⟩ := k; exact ⟨m, ns, h1, h2.mono h, h3.mono h, h4, Zy.mono h h5⟩
def ZpD : Nat -> LoopState | 0 => .ready | 1 => .busy | 2 => .done | _ => .exhausted
def YM (σ : Sg) (w : World) (p t : Nat) : Ck -> Prop
 | .no => True
 | .cells cs => ∃ vs, VRs σ cs vs /\ Row w p t vs false
 | .bytes l n => Row w p t ((bys l n).map Zcm) true /\ Zm4 w p u8T
 | .map es c => ∃ ms, Zy σ es ms /\ w.heap[p]? = some (.map ms.toArray c)
 | .iter m s seen st => ∃ q u, σ m = some (q, u) /\ w.heap[p]? = some (.mapIter (some q) s seen.toArray st)
 | .siter l n pos => w.heap[p]? = some (.stringIter ⟨(bys l n).toArray⟩ pos)
 | .iter0 => w.heap[p]? = some (.mapIter none 0 #[] 0)
 | .dfr => w.heap[p]? = some (.deferred (some []))
 | .loop fn fr ps assign body db st pend => ∃ q u tm g, σ db = some (q, u) /\ (fr.n = tm.size /\ tm.size <= 511 /\ NJ fr) /\ (∀ i v, tm[i]? = some v -> VR σ (ZcA fr i) v) ∧
   w.heap[p]? = some (.loop { state := ZpD st, pending := pend, fn := g, tmps := tm, params := ps.toArray, assign := assign, body := body, defers := q })
 | .tcells cs => ∃ vs, VRs σ cs vs /\ Row w p t vs false /\ Zm4 w p ZwJ /\ cs.length = t
theorem YM.mono {σ τ : Sg} (h : Le σ τ) {w : World} {p t : Nat} : ∀ {c : Ck}, YM σ w p t c -> YM τ w p t c
 | .no, k => k
 | .cells _, ⟨vs, h1, h2⟩ => ⟨vs, h1.mono h, h2⟩
 | .bytes _ _, k => k
 | .map _ _, ⟨ms, h1, h2⟩ => ⟨ms, h1.mono h, h2⟩
 | .iter _ _ _ _, ⟨q, u, h1, h2⟩ => ⟨q, u, h _ _ h1, h2⟩
 | .siter _ _ _, k => k
 | .iter0, k => k
 | .dfr, k => k
 | .loop _ _ _ _ _ _ _ _, ⟨q, u, tm, g, h1, h2, h3, h4⟩ => ⟨q, u, tm, g, h _ _ h1, h2, fun i v hv => (h3 i v hv).mono h, h4⟩
 | .tcells _, ⟨vs, h1, h2⟩ => ⟨vs, h1.mono h, h2⟩
theorem YM.congr {σ : Sg} {w w' : World} {p t : Nat} (h : w'.heap[p]? = w.heap[p]?) : ∀ {c : Ck}, YM σ w p t c -> YM σ w' p t c
 | .no, k => k
 | .cells _, ⟨vs, h1, h2⟩ => ⟨vs, h1, by unfold Row at *; rw [h]; exact h2⟩
 | .bytes _ _, k => by unfold YM Row Zm4 at *; rw [h]; exact k
 | .map _ _, ⟨ms, h1, h2⟩ => ⟨ms, h1, by rw [h]; exact h2⟩
 | .iter _ _ _ _, ⟨q, u, h1, h2⟩ => ⟨q, u, h1, by rw [h]; exact h2⟩
 | .siter _ _ _, k => by unfold YM at *; rw [h]; exact k
 | .iter0, k => by unfold YM at *; rw [h]; exact k
 | .dfr, k => by unfold YM at *; rw [h]; exact k
 | .loop _ _ _ _ _ _ _ _, ⟨q, u, tm, g, h1, h2, h3, h4⟩ => ⟨q, u, tm, g, h1, h2, h3, by rw [h]; exact h4⟩
 | .tcells _, ⟨vs, h1, h2, h3, h4⟩ => ⟨vs, h1, by unfold Row at *; rw [h]; exact h2, by unfold Zm4 at *; rw [h]; exact h3, h4⟩
/-! ### States -/
structure Rel (w0 : World) (σ : Sg) (hp : H) (n : Nat) (w : World) : Prop where
 hold : ∀ i, i < 32768 -> ZC hp i ≠ .no -> ∃ p t, σ i = some (p, t) /\ YM σ w p t (ZC hp i)
 apart : ∀ i j p t q u, i < 32768 -> j < 32768 -> ZC hp i ≠ .no -> ZC hp j ≠ .no -> i ≠ j -> σ i = some (p, t) -> σ j = some (q, u) -> p ≠ q
 old : ∀ i p t, σ i = some (p, t) -> i < 32768 /\ w0.heap.size <= p /\ p < w.heap.size
 fresh : ∀ i, idN n <= i -> i < Yg n -> σ i = none
 lim : Yg n <= 32768
 below : Below w0.heap.size w0 w
def Ex (n : Nat) (σ τ : Sg) : Prop := Le σ τ /\ ∀ i, ¬ (idN n <= i /\ i < Yg n) -> τ i = σ i
theorem Ex.refl (n : Nat) (σ : Sg) : Ex n σ σ := ⟨Le.refl σ, fun _ _ => rfl⟩
variable {w0 : World} {σ : Sg} {hp : H} {n : Nat} {w : World}
theorem Rel.at (h : Rel w0 σ hp n w) {i p t : Nat} (hs : σ i = some (p, t)) {c : Ck} (hc : ZC hp i = c) (hn : c ≠ .no) : YM σ w p t c := by
 have hi := (h.old i p t hs).1
 obtain ⟨q, u, h1, h2⟩ := h.hold i hi (by rw [hc]; exact hn)
 rw [hs] at h1; cases h1; rw [hc] at h2; exact h2
theorem Rel.world (h : Rel w0 σ hp n w) {w' : World} (hs : w.heap.size <= w'.heap.size) (hb : ∀ k, k < w.heap.size -> w'.heap[k]? = w.heap[k]?) (ho : w'.os = w.os) (ht : w'.tape = w.tape) (hu : w'.output = w.output) : Rel w0 σ hp n w' :=
 ⟨fun i hi hc => let ⟨p, t, h1, h2⟩ := h.hold i hi hc; ⟨p, t, h1, h2.congr (hb p (h.old i p t h1).2.2)⟩, h.apart,
  fun i p t hs' => let ⟨a, b, c⟩ := h.old i p t hs'; ⟨a, b, Nat.lt_of_lt_of_le c hs⟩, h.fresh, h.lim, h.below.trans ⟨ho, ht, hu, hs, fun k hk => hb k (Nat.lt_of_lt_of_le hk h.below.size)⟩⟩
theorem Rel.drew (h : Rel w0 σ hp n w) (m : Nat) : Rel w0 σ hp n { w with drawn := m } := h.world (Zxv _) (fun _ _ => rfl) rfl rfl rfl
theorem Rel.upd (h : Rel w0 σ hp n w) {i p t : Nat} (hs : σ i = some (p, t)) (hl : ZC hp i ≠ .no) {w' : World} (hz : w'.heap.size = w.heap.size) (hb : ∀ k, k ≠ p -> w'.heap[k]? = w.heap[k]?)
  (ho : w'.os = w.os) (ht : w'.tape = w.tape) (hu : w'.output = w.output) {c : Ck} (hc : YM σ w' p t c) : Rel w0 σ (YH hp i c) n w' := by
 have hi := (h.old i p t hs).1
 refine ⟨fun j hj hjc => ?_, fun j k q u r v hj hk hjc hkc hne h1 h2 => ?_, fun j q u hj => ?_, h.fresh, h.lim, ?_⟩
 ·rw [ZV _ _ _ _ hi hj] at hjc ⊢
  by_cases e : j = i
  ·subst e; rw [if_pos rfl]; exact ⟨p, t, hs, hc⟩
  ·rw [if_neg e] at hjc ⊢
   obtain ⟨q, u, h1, h2⟩ := h.hold j hj hjc
   exact ⟨q, u, h1, h2.congr (hb q (fun e' => h.apart j i q u p t hj hi hjc hl e h1 hs e'))⟩
 ·have key : ∀ j, j < 32768 -> ZC (YH hp i c) j ≠ .no -> ZC hp j ≠ .no := fun j hj hjc => by
   rw [ZV _ _ _ _ hi hj] at hjc
   by_cases e : j = i
   ·subst e; exact hl
   ·rw [if_neg e] at hjc; exact hjc
  exact h.apart j k q u r v hj hk (key j hj hjc) (key k hk hkc) hne h1 h2
 ·obtain ⟨a, b, c⟩ := h.old j q u hj; exact ⟨a, b, by rw [hz]; exact c⟩
 ·exact h.below.trans ⟨ho, ht, hu, by rw [hz]; exact Zxv _, fun k hk => hb k (fun e => by have := (h.old i p t hs).2.1; omega)⟩
theorem Rel.kill (h : Rel w0 σ hp n w) {i : Nat} (hi : i < 32768) : Rel w0 σ (YH hp i .no) n w := by
 refine ⟨fun j hj hjc => ?_, fun j k q u r v hj hk hjc hkc hne h1 h2 => ?_, h.old, h.fresh, h.lim, h.below⟩
 ·rw [ZV _ _ _ _ hi hj] at hjc ⊢
  by_cases e : j = i
  ·rw [if_pos e] at hjc; exact absurd rfl hjc
  ·rw [if_neg e] at hjc ⊢; exact h.hold j hj hjc
 ·have key : ∀ j, j < 32768 -> ZC (YH hp i .no) j ≠ .no -> ZC hp j ≠ .no := fun j hj hjc => by
   rw [ZV _ _ _ _ hi hj] at hjc
   by_cases e : j = i
   ·rw [if_pos e] at hjc; exact absurd rfl hjc
   ·rw [if_neg e] at hjc; exact hjc
  exact h.apart j k q u r v hj hk (key j hj hjc) (key k hk hkc) hne h1 h2
def Zkp (σ : Sg) (i p t : Nat) : Sg := fun j => if j = i then some (p, t) else σ j
theorem Le.upd {i p t : Nat} (h : σ i = none) : Le σ (Zkp σ i p t) := fun j x hj => by
 unfold Zkp; rw [if_neg (by rintro rfl; rw [h] at hj; cases hj)]; exact hj
theorem YT (i p t : Nat) : Zkp σ i p t i = some (p, t) := by simp [Zkp]
theorem ZhN (h : idN n < Yg n) (hl : Yg n <= 32768) : idN (n + 1) = idN n + 1 /\ Yg (n + 1) = Yg n := by
 unfold idN Yg at *; omega
theorem Rel.name (h : Rel w0 σ hp n w) {i p t m : Nat} (hi : i < 32768) (hf : σ i = none) (hp1 : w0.heap.size <= p) (hp2 : p < w.heap.size)
  (hno : ∀ j q u, j < 32768 -> ZC hp j ≠ .no -> σ j = some (q, u) -> q ≠ p) {c : Ck} (hc : YM (Zkp σ i p t) w p t c)
  (hm1 : Yg m = Yg n) (hm : ∀ j, idN m <= j -> j < Yg m -> j ≠ i /\ idN n <= j) : Rel w0 (Zkp σ i p t) (YH hp i c) m w := by
 refine ⟨fun j hj hjc => ?_, fun j k q u r v hj hk hjc hkc hne h1 h2 => ?_, fun j q u hj => ?_, fun j hj hj2 => ?_, by rw [hm1]; exact h.lim, h.below⟩
 ·rw [ZV _ _ _ _ hi hj] at hjc ⊢
  by_cases e : j = i
  ·subst e; rw [if_pos rfl]; exact ⟨p, t, YT _ _ _, hc⟩
  ·rw [if_neg e] at hjc ⊢
   obtain ⟨q, u, h1, h2⟩ := h.hold j hj hjc
   exact ⟨q, u, Le.upd hf _ _ h1, h2.mono (Le.upd hf)⟩
 ·rw [ZV _ _ _ _ hi hj] at hjc
  rw [ZV _ _ _ _ hi hk] at hkc
  unfold Zkp at h1 h2
  by_cases e1 : j = i
  ·subst e1
   have e2 : k ≠ j := fun e => hne e.symm
   rw [if_pos rfl] at h1; cases h1
   rw [if_neg e2] at h2 hkc
   exact (hno k r v hk hkc h2).symm
  ·rw [if_neg e1] at h1 hjc
   by_cases e2 : k = i
   ·subst e2; rw [if_pos rfl] at h2; cases h2; exact hno j q u hj hjc h1
   ·rw [if_neg e2] at h2 hkc; exact h.apart j k q u r v hj hk hjc hkc hne h1 h2
 ·unfold Zkp at hj
  split at hj
  ·rename_i e; subst e; cases hj; exact ⟨hi, hp1, hp2⟩
  ·exact h.old j q u hj
 ·obtain ⟨a, b⟩ := hm j hj hj2
  unfold Zkp; rw [if_neg a]; exact h.fresh j b (by rw [<- hm1]; exact hj2)
theorem Rel.push (h : Rel w0 σ hp n w) (o : Obj) : Rel w0 σ hp n { w with heap := w.heap.push o } :=
 h.world (by simp) (fun k hk => by show (w.heap.push o)[k]? = _; rw [Array.getElem?_push, if_neg (by omega)]) rfl rfl rfl
theorem Rel.new (h : Rel w0 σ hp n w) {i t m : Nat} (hi : i < 32768) (hf : σ i = none) (o : Obj) {c : Ck} (hc : ∀ τ, Le σ τ -> τ i = some (w.heap.size, t) -> YM τ { w with heap := w.heap.push o } w.heap.size t c)
  (hm1 : Yg m = Yg n) (hm : ∀ j, idN m <= j -> j < Yg m -> j ≠ i /\ idN n <= j) :
  Rel w0 (Zkp σ i w.heap.size t) (YH hp i c) m { w with heap := w.heap.push o } :=
 (h.push o).name hi hf h.below.size (by show _ < (w.heap.push o).size; simp) (fun j q u hj hjc hq => by have := (h.old j q u hq).2.2; omega) (hc _ (Le.upd hf) (YT _ _ _)) hm1 hm
theorem ZE (w : World) (o : Obj) : ({ w with heap := w.heap.push o } : World).heap[w.heap.size]? = some o := by
 show (w.heap.push o)[w.heap.size]? = _; simp
end Go.Cx
namespace Go.Cx
open Go.RowKit (Below)
/-! ### Outcomes -/
def Zr (r : Res) (φ : Out -> Prop) : Prop := ∃ l, r = some l /\ ∀ o ∈ l, φ o
theorem Zr.no {φ : Out -> Prop} (h : Zr none φ) : False := by obtain ⟨l, h, _⟩ := h; cases h
theorem Zr.cat {a b : Res} {φ : Out -> Prop} (h : Zr (Res.cat a b) φ) : Zr a φ /\ Zr b φ := by
 obtain ⟨l, h, hl⟩ := h
 unfold Res.cat at h
 split at h
 ·cases h
 ·split at h
  ·cases h
  ·cases h
   exact ⟨⟨_, rfl, fun o ho => hl o (List.mem_append_left _ ho)⟩, ⟨_, rfl, fun o ho => hl o (List.mem_append_right _ ho)⟩⟩
theorem Zaz {α : Type} {b : Bool} {x : Option α} {y : α} (h : (bif b then x else none) = some y) : b = true /\ x = some y :=
 match b, h with
 | true, h => ⟨rfl, h⟩
theorem Zr.bif {b : Bool} {x : Res} {φ : Out -> Prop} (h : Zr (bif b then x else none) φ) : b = true /\ Zr x φ :=
 match b, h with
 | true, h => ⟨rfl, h⟩
 | false, h => h.no.elim
/-! ### The program's tables -/
theorem ZaN {α : Type} : ∀ (l : List α) (i : Nat), Zdu l i = l[i]?
 | [], _ => by simp [Zdu]
 | a :: l, 0 => by simp [Zdu]
 | a :: l, i + 1 => by simp [Zdu, ZaN l i]
theorem Zk8 {α : Type} : ∀ (n : Nat) (l : List α), ZmG n l = l.drop n
 | 0, _ => by simp [ZmG]
 | n + 1, [] => by simp [ZmG]
 | n + 1, a :: l => by simp [ZmG, Zk8 n l]
theorem Zsu {α : Type} (l : List α) : ∀ j, blk l j = l.drop (64 * j)
 | 0 => by simp [blk]
 | j + 1 => by simp only [blk]; rw [Zk8, Zsu l j, List.drop_drop]; congr 1
theorem Zhk {α : Type} (l : List α) (i : Nat) : ZvE l i = l[i]? := by
 unfold ZvE; rw [ZaN, Zsu, Zx4]; congr 1; omega
section
variable {P : Program}
theorem Yy {t : Nat} {i : TypeInfo} (h : tyI P t = some i) : P.info? t = some i := by
 unfold tyI at h
 rw [Zhk, Zxu] at h
 have hlt := (Array.getElem?_eq_some_iff.1 h).1
 unfold Tables.info?
 rw [if_pos hlt]; exact h
theorem Zd {t : Nat} {d : TypeDesc} (h : tyD P t = some d) : P.underlying t = some d := by
 unfold tyD at h
 split at h
 ·rename_i i hi
  have := Yy hi
  split at h
  ·rename_i nm u hd
   split at h
   ·rename_i j hj
    cases h
    unfold Program.underlying
    obtain ⟨ds, a1, a2, a3, a4, a5, a6, a7, a8, a9⟩ := i
    simp only at hd; subst hd
    rw [this]; simp [Yy hj]
   ·cases h
  ·rename_i hn
   cases h
   unfold Program.underlying
   rw [this]
   split
   ·rename_i heq; cases heq; exact absurd rfl (hn _ _)
   ·rename_i heq; cases heq; rfl
   ·rename_i heq; cases heq
 ·cases h
theorem Zc1 {t n : Nat} (h : Zfl P t = some n) : ∃ i, P.info? t = some i /\ i.size = n := by
 unfold Zfl at h
 split at h
 ·rename_i i hi; cases h; exact ⟨i, Yy hi, rfl⟩
 ·cases h
theorem Yn {t n : Nat} (h : Zfl P t = some n) (w : World) : (sizeOf t).run P w = .ok n w := by
 obtain ⟨i, hi, rfl⟩ := Zc1 h
 simp [sizeOf, typeInfo, hi]
theorem Zdm {t : Nat} {d : TypeDesc} (h : P.underlying t = some d) (w : World) : (isAgg t).run P w = .ok (ZqT d) w := by
 simp only [isAgg, go_sem, run_underlying h]
 cases d <;> simp [ZqT, run_underlying h]
theorem Zcg {t n : Nat} {b : Bool} (h : tyA P t = some (b, n)) : ∃ d, P.underlying t = some d /\ ZqT d = b /\ Zfl P t = some n := by
 unfold tyA at h
 split at h
 ·rename_i d hd
  split at h
  ·rename_i m hm; cases h; exact ⟨d, Zd hd, rfl, hm⟩
  ·cases h
 ·cases h
theorem ZbZ {t : Nat} (h : ZdI P t = true) : P.underlying t = some (.int .u8) := by
 unfold ZdI at h
 cases hq : Nat.beq t u8T
 ·rw [hq] at h; cases h
 rw [hq, cond_true] at h
 split at h
 ·rename_i hd; exact Zd hd
 ·cases h
theorem ZcM {t : Nat} (h : ZdI P t = true) : t = u8T := by
 unfold ZdI at h
 cases hq : Nat.beq t u8T
 ·rw [hq] at h; cases h
 exact ZxG hq
theorem Zz {s : Sem Value} {v : Value} {w w' : World} (h : s.run P w = .ok v w') : (do pure (Next.value (<- s)) : Sem Next).run P w = .ok (.value v) w' := by
 have : (do pure (Next.value (<- s)) : Sem Next) = s.bind (fun v => Sem.pure (Next.value v)) := rfl
 rw [this, Sem.run_bind', h]; rfl
theorem Zba (a : Addr) (vs : List Value) (w : World) (h : ∀ j v, vs[j]? = some v -> w.cell? (a.add j) = some v) : (loadCells a vs.length).run P w = .ok vs.toArray w := by
 have key : ∀ (n i : Nat) (acc : Array Value), i + n = vs.length -> (loadCellsFrom a i n acc).run P w = .ok (acc ++ (vs.drop i).toArray) w := by
  intro n
  induction n with
  | zero => intro i acc h'; simp [loadCellsFrom, List.drop_eq_nil_of_le (show vs.length <= i by omega)]
  | succ n ih =>
   intro i acc h'
   have hlt : i < vs.length := by omega
   have hc := h i vs[i] (ZxI hlt)
   have e : (loadCellsFrom a i (n + 1) acc) = (load (a.add i)).bind (fun v => loadCellsFrom a (i + 1) n (acc.push v)) := rfl
   rw [e, Sem.run_bind']
   have e2 : (load (a.add i)).run P w = .ok vs[i] w := by simp [load, Sem.run, hc]
   rw [e2]
   simp only [Result.andThen]
   rw [ih (i + 1) _ (by omega)]
   congr 1
   rw [List.drop_eq_getElem_cons hlt]
   simp
 have := key vs.length 0 #[] (by omega)
 simpa [loadCells] using this
theorem add_eq (b o n : Nat) : Addr.add ⟨b, o, none⟩ n = ⟨b, o + n, none⟩ := by unfold Addr.add; split <;> simp_all
theorem ZfA {t : Nat} {d : TypeDesc} (hd : P.underlying t = some d) (ha : ZqT d = false) {b o : Nat} {v : Value} {w : World} (h : w.cell? ⟨b, o, none⟩ = some v) : (loadVar t ⟨b, o, none⟩).run P w = .ok v w := by
 have e : loadVar t ⟨b, o, none⟩ = (isAgg t).bind (fun x => if x then ((sizeOf t).bind fun k => (loadCells ⟨b, o, none⟩ k).bind fun vs => Sem.pure (Value.agg vs)) else load ⟨b, o, none⟩) := by
  unfold loadVar; rfl
 rw [e, Sem.run_bind', Zdm hd, ha]
 simp [Result.andThen, load, Sem.run, h]
theorem Zfw {t n : Nat} {d : TypeDesc} (hd : P.underlying t = some d) (ha : ZqT d = true) (hn : Zfl P t = some n) {b o : Nat} {vs : List Value} {w : World} (hl : vs.length = n)
  (h : ∀ j v, vs[j]? = some v -> w.cell? ⟨b, o + j, none⟩ = some v) : (loadVar t ⟨b, o, none⟩).run P w = .ok (.agg vs.toArray) w := by
 have e : loadVar t ⟨b, o, none⟩ = (isAgg t).bind (fun x => if x then ((sizeOf t).bind fun k => (loadCells ⟨b, o, none⟩ k).bind fun vs => Sem.pure (Value.agg vs)) else load ⟨b, o, none⟩) := by
  unfold loadVar; rfl
 rw [e, Sem.run_bind', Zdm hd, ha]
 simp only [Result.andThen, if_true]
 rw [Sem.run_bind', Yn hn]
 simp only [Result.andThen]
 rw [Sem.run_bind', <- hl, Zba _ vs w (fun j v hj => by rw [add_eq]; exact h j v hj)]
 rfl
end
/-! ### Reading -/
theorem Row.cell {w : World} {p t : Nat} {vs : List Value} {fz : Bool} (h : Row w p t vs fz) {i : Nat} {v : Value} (hv : vs[i]? = some v) : w.cell? ⟨p, i, none⟩ = some v /\ w.frozen? ⟨p, i, none⟩ = false /\ i < t := by
 obtain ⟨arr, ty, lo, hi, h1, h2, ⟨sp, h3⟩, h4⟩ := h
 have hi' : i < vs.length := (List.getElem?_eq_some_iff.1 hv).1
 have ha : arr[i]? = some v := by rw [<- Zxu, h3, ZxX hi']; exact hv
 have hlt : i < arr.size := (Array.getElem?_eq_some_iff.1 ha).1
 refine ⟨by simp [World.cell?, h1, ha], ?_, by omega⟩
 simp only [World.frozen?, h1]
 rcases h4 with ⟨rfl, rfl⟩ | ⟨_, h4⟩ <;> simp <;> omega
theorem Zi2 (σ : Sg) : ∀ (l n : Nat), VRs σ (Zfd n l) ((bys l n).map Zcm)
 | 0, _ => by simp [Zfd, bys, VRs]
 | l + 1, n => by
  simp only [Zfd, bys, ZxO, VRs]
  refine ⟨_, _, rfl, ?_, Zi2 σ l (n / 256)⟩
  simp only [VR, Zcm, kc]
  congr 1
  rw [UInt8.toNat_ofNat']; have : n % 256 < 256 := Nat.mod_lt _ (by decide)
  simp
section
variable {w0 : World} {σ : Sg} {hp : H} {n : Nat} {w : World}
theorem Zjc (hR : Rel w0 σ hp n w) {b o p t : Nat} {c : CV} (h : rd1 hp b o = some c) (hs : σ b = some (p, t)) : ∃ v, w.cell? ⟨p, o, none⟩ = some v /\ VR σ c v := by
 unfold rd1 at h
 split at h
 ·rename_i cs hc
  obtain ⟨vs, h1, h2⟩ := hR.at hs hc (by simp)
  obtain ⟨y, hy, hr⟩ := h1.get h
  exact ⟨y, (h2.cell hy).1, hr⟩
 ·rename_i l m hc
  obtain ⟨h1, h⟩ := Zaz h
  have h1 : o < l := by simpa [Nat.blt_eq] using h1
  cases h
  have h2 := (hR.at hs hc (by simp)).1
  have hb : ((bys l m).map Zcm)[o]? = some (Zcm (UInt8.ofNat (ZfN m o))) := by rw [ZxB, Zbj _ _ _ h1]; rfl
  refine ⟨_, (Row.cell h2 hb).1, ?_⟩
  simp only [VR, Zcm, kc]
  congr 1
  rw [UInt8.toNat_ofNat']; have := ZgQ m o
  simp; first | done | omega
 ·rename_i cs hc
  obtain ⟨vs, h1, h2, _⟩ := hR.at hs hc (by simp)
  obtain ⟨y, hy, hr⟩ := h1.get h
  exact ⟨y, (h2.cell hy).1, hr⟩
 ·cases h
theorem ZiW (hR : Rel w0 σ hp n w) {b o p t m : Nat} {cs : List CV} (h : rdN hp b o m = some cs) (hs : σ b = some (p, t)) :
  ∃ vs, vs.length = m /\ VRs σ cs vs /\ ∀ j v, vs[j]? = some v -> w.cell? ⟨p, o + j, none⟩ = some v := by
 unfold rdN at h
 split at h
 ·rename_i old hc
  obtain ⟨vs, h1, h2⟩ := hR.at hs hc (by simp)
  obtain ⟨h3, h4, _⟩ := (h1.drop (n := o)).take h
  refine ⟨_, by rw [ZxH]; omega, h3, fun j v hj => ?_⟩
  have hlt := (List.getElem?_eq_some_iff.1 hj).1
  rw [List.getElem?_take_of_lt (by simp at hlt; omega), Zx4] at hj
  exact (h2.cell hj).1
 ·rename_i l x hc
  obtain ⟨h1, h⟩ := Zaz h
  have h1 : o + m <= l := by simpa [Nat.ble_eq] using h1
  cases h
  have h2 := (hR.at hs hc (by simp)).1
  refine ⟨_, by rw [ZxP, Zl], Zi2 σ m (x / pw o), fun j v hj => ?_⟩
  have hlt := (List.getElem?_eq_some_iff.1 hj).1
  rw [ZxP, Zl] at hlt
  refine (Row.cell h2 ?_).1
  rw [ZxB, Zbj _ _ _ hlt] at hj
  rw [ZxB, Zbj _ _ _ (by omega), <- Zli]; exact hj
 ·rename_i old hc
  obtain ⟨vs, h1, h2, _⟩ := hR.at hs hc (by simp)
  obtain ⟨h3, h4, _⟩ := (h1.drop (n := o)).take h
  refine ⟨_, by rw [ZxH]; omega, h3, fun j v hj => ?_⟩
  have hlt := (List.getElem?_eq_some_iff.1 hj).1
  rw [List.getElem?_take_of_lt (by simp at hlt; omega), Zx4] at hj
  exact (h2.cell hj).1
 ·cases h
end
end Go.Cx
namespace Go.Cx
open Go.RowKit (Below)
section
variable {P : Program} {w0 : World} {σ : Sg} {hp : H} {n : Nat} {w : World} {fr : F} {ev : Operand -> Value} {k : CV -> Res} {φ : Out -> Prop}
def QR (P : Program) (σ : Sg) (w : World) (s : Sem Value) (k : CV -> Res) (φ : Out -> Prop) : Prop := ∃ c v, s.run P w = .ok v w /\ VR σ c v /\ Zr (k c) φ
theorem ZwG (hR : Rel w0 σ hp n w) (hL : ∀ x, VR σ (lk fr x) (ev x)) {t : Nat} {a : Operand} (h : Zr (Zj5 P fr hp t a k) φ) : QR P σ w (Instr.loadAt t (ev a)) k φ := by
 unfold Zj5 at h
 have ha := hL a
 split at h
 ·rename_i b o he
  rw [he] at ha
  simp only [VR] at ha
  obtain ⟨p, u, hs, hv⟩ := ha
  have e : Instr.loadAt t (ev a) = loadVar t ⟨p, o, none⟩ := by rw [hv]; rfl
  split at h
  ·rename_i m hA
   obtain ⟨d, h1, h2, h3⟩ := Zcg hA
   split at h
   ·rename_i cs hc
    obtain ⟨vs, g1, g2, g3⟩ := ZiW hR hc hs
    exact ⟨_, _, by rw [e]; exact Zfw h1 h2 h3 g1 g3, by simp only [VR]; exact ⟨vs, g2, rfl⟩, h⟩
   ·exact h.no.elim
  ·rename_i m hA
   obtain ⟨d, h1, h2, h3⟩ := Zcg hA
   split at h
   ·rename_i c hc
    obtain ⟨v, g1, g2⟩ := Zjc hR hc hs
    exact ⟨_, _, by rw [e]; exact ZfA h1 h2 g1, g2, h⟩
   ·exact h.no.elim
  ·exact h.no.elim
 ·exact h.no.elim
theorem Zxr (hL : ∀ x, VR σ (lk fr x) (ev x)) {c a b : Operand} (h : Zr (Zni fr c a b k) φ) : ∃ cv v, (do pure (Next.value (if <- asBool (ev c) then ev a else ev b)) : Sem Next).run P w = .ok (.value v) w /\ VR σ cv v /\ Zr (k cv) φ := by
 unfold Zni at h
 have hc := hL c
 split at h
 ·rename_i he; rw [he] at hc; simp only [VR] at hc
  exact ⟨_, _, by rw [hc]; rfl, hL a, h⟩
 ·rename_i he; rw [he] at hc; simp only [VR] at hc
  exact ⟨_, _, by rw [hc]; rfl, hL b, h⟩
 ·exact h.no.elim
/-! ### Numbers -/
theorem ZbG {a b : IntKind} (h : kn a = kn b) : a = b := by cases a <;> cases b <;> first | rfl | (simp [kn] at h)
theorem ZhM (k : IntKind) : kc (kn k) = k := by cases k <;> rfl
theorem kc_lt (k : Nat) : ∃ j, j <= 7 /\ kc k = kc j /\ hiN k = hiN j /\ loN k = loN j := by
 by_cases h : k <= 7
 ·exact ⟨k, h, rfl, rfl, rfl⟩
 ·refine ⟨7, Zxv _, ?_, ?_, ?_⟩ <;> (obtain ⟨m, rfl⟩ : ∃ m, k = m + 8 := ⟨k - 8, by omega⟩) <;> rfl
theorem Zbt (k : Nat) (x : Int) : Zel k x = (kc k).wrap x := by
 unfold Zel
 cases hf : fits k x
 ·rfl
 simp only [cond_true]
 obtain ⟨j, hj, e1, e2, e3⟩ := kc_lt k
 have hf' : fits j x = true := by unfold fits at *; rw [<- e2, <- e3]; exact hf
 rw [e1]
 have hj' : j = 0 \/ j = 1 \/ j = 2 \/ j = 3 \/ j = 4 \/ j = 5 \/ j = 6 \/ j = 7 := by omega
 have hb : -(loN j : Int) <= x /\ x <= (hiN j : Int) := by
  unfold fits at hf'
  cases x with
  | ofNat m => have := ZxS hf'; simp; omega
  | negSucc m => have : m < loN j := (by simpa [Nat.blt_eq] using hf'); omega
 rcases hj' with rfl | rfl | rfl | rfl | rfl | rfl | rfl | rfl <;> simp only [loN, hiN, kc] at hb ⊢ <;> simp [IntKind.wrap, IntKind.bits, IntKind.signed] <;> omega
theorem ZaT {a b : Int} : ibq a b = (a == b) := by
 cases a with
 | ofNat a => cases b with
  | ofNat b =>
   simp only [ibq]
   by_cases h : a = b
   ·subst h; simp
   ·rw [show Nat.beq a b = false by cases hb : Nat.beq a b; rfl; exact absurd (ZxG hb) h]; symm; simp; omega
  | negSucc b => rfl
 | negSucc a => cases b with
  | ofNat b => rfl
  | negSucc b =>
   simp only [ibq]
   by_cases h : a = b
   ·subst h; simp
   ·rw [show Nat.beq a b = false by cases hb : Nat.beq a b; rfl; exact absurd (ZxG hb) h]; simp [h]
theorem Zfn (op : BinOp) (t : TypeId) (k : IntKind) (a b : Int) (h1 : op ≠ .shl) (h2 : op ≠ .shr) : binOp op t (.int k a) (.int k b) =
  (match op with
  | .add | .sub | .mul => Op.intArith op k a b
  | .quo | .rem => Op.intDiv op k a b
  | .and | .or | .xor | .andNot => Op.intBits op k a b
  | _ => Op.intCmp op a b) := by
 cases op <;> first | exact absurd rfl h1 | exact absurd rfl h2 | simp [binOp]
def Zd8 : Value -> Bool | .nilIface | .agg _ => false | _ => true
theorem Zbs (op : BinOp) (t : TypeId) (x y : Operand) (a b : Value) (h : Zd8 a = true) : eqGuard op t x y a b = pure () := by
 cases op <;> try rfl
 all_goals (cases a <;> first | rfl | (simp [Zd8] at h))
theorem Z8 {op : BinOp} {t : TypeId} {x y : Operand} {a b v : Value} {w w' : World} (h : Zd8 a = true) (hr : (binOp op t a b).run P w = .ok v w') :
  (do eqGuard op t x y a b; binOp op t a b : Sem Value).run P w = .ok v w' := by
 rw [Zbs op t x y a b h]; exact hr
theorem q_int (t : TypeId) {op : BinOp} {kd : Nat} {a b : Int} (h1 : op ≠ .shl) (h2 : op ≠ .shr) (h : Zr (Zmq op kd a b k) φ) : QR P σ w (binOp op t (.int (kc kd) a) (.int (kc kd) b)) k φ := by
 have mk : ∀ (v : Int), Zr (k (.int kd v)) φ -> (binOp op t (.int (kc kd) a) (.int (kc kd) b)).run P w = .ok (.int (kc kd) v) w -> QR P σ w (binOp op t (.int (kc kd) a) (.int (kc kd) b)) k φ :=
  fun v hk hr => ⟨_, _, hr, by simp only [VR], hk⟩
 have mkb : ∀ (v : Bool), Zr (k (.bool v)) φ -> (binOp op t (.int (kc kd) a) (.int (kc kd) b)).run P w = .ok (.bool v) w -> QR P σ w (binOp op t (.int (kc kd) a) (.int (kc kd) b)) k φ :=
  fun v hk hr => ⟨_, _, hr, by simp only [VR], hk⟩
 rw [Zfn op t _ a b h1 h2] at mk mkb ⊢
 cases op <;> simp only [Zmq] at h <;> first | exact h.no.elim | skip
 case add => rw [Zbt] at h; exact mk _ h rfl
 case sub => rw [Zbt] at h; exact mk _ h rfl
 case mul => rw [Zbt] at h; exact mk _ h rfl
 case quo =>
  cases hb : ibq b 0
  ·rw [hb] at h; simp only [cond_false] at h
   rw [ZaT] at hb; have : b ≠ 0 := by simpa using hb
   rw [Zbt] at h; exact mk _ h (by simp [Op.intDiv, this])
  ·rw [hb] at h; exact h.no.elim
 case rem =>
  cases hb : ibq b 0
  ·rw [hb] at h; simp only [cond_false] at h
   rw [ZaT] at hb; have : b ≠ 0 := by simpa using hb
   exact mk _ h (by simp [Op.intDiv, this])
  ·rw [hb] at h; exact h.no.elim
 case and => exact mk _ h rfl
 case or => exact mk _ h rfl
 case xor => exact mk _ h rfl
 case andNot => exact mk _ h rfl
 case eql => rw [ZaT] at h; exact mkb _ h rfl
 case neq => rw [ZaT] at h; exact mkb _ h rfl
 case lss => exact mkb _ h rfl
 case leq => exact mkb _ h rfl
 case gtr => exact mkb _ h rfl
 case geq => exact mkb _ h rfl
theorem q_sh (t : TypeId) {op : BinOp} {kd kd' : Nat} {a b : Int} (ho : op = .shl \/ op = .shr) (h : Zr (shOp op kd a b k) φ) : QR P σ w (binOp op t (.int (kc kd) a) (.int (kc kd') b)) k φ := by
 unfold shOp at h
 split at h
 ·exact h.no.elim
 ·rename_i m
  have hneg : ¬ ((Int.ofNat m) < 0) := by simp
  rcases ho with rfl | rfl
  ·simp only at h; rw [Zbt] at h
   exact ⟨_, _, by simp only [binOp, Op.shift]; rw [if_neg hneg]; rfl, by simp only [VR]; rfl, h⟩
  ·simp only at h
   exact ⟨_, _, by simp only [binOp, Op.shift]; rw [if_neg hneg]; rfl, by simp only [VR]; rfl, h⟩
/-! ### Texts -/
theorem ZX (a : List UInt8) : (⟨a.toArray⟩ : ByteArray).toList = a := by rw [ByteArray.toList_eq]
theorem Zfk (l n l' n' : Nat) : (bif Nat.beq l l' then Nat.beq (n % pw l) (n' % pw l) else false) = (bys l n == bys l' n') := by
 cases hl : Nat.beq l l'
 ·have : l ≠ l' := fun e => by rw [e, Nat.beq_refl] at hl; cases hl
  simp only [cond_false]
  have hne : bys l n ≠ bys l' n' := fun e => this (by have := congrArg List.length e; rwa [Zl, Zl] at this)
  simp [hne]
 ·have := ZxG hl; subst this
  simp only [cond_true]
  by_cases h : n % pw l = n' % pw l
  ·rw [h, (Zgv l n n').2 h]; simp
  ·have hb : Nat.beq (n % pw l) (n' % pw l) = false := by cases hb : Nat.beq (n % pw l) (n' % pw l); rfl; exact absurd (ZxG hb) h
   have hne : bys l n ≠ bys l n' := fun e => h ((Zgv l n n').1 e)
   rw [hb]; simp [hne]
theorem Zc7 : ∀ (l l' n n' : Nat), YP l l' n n' = Op.bytesLess (bys l n) (bys l' n')
 | 0, 0, _, _ => by simp [YP, bys, Op.bytesLess]
 | _ + 1, 0, _, _ => by simp [YP, bys, Op.bytesLess]
 | 0, _ + 1, _, _ => by simp [YP, bys, Op.bytesLess]
 | l + 1, l' + 1, n, n' => by
  simp only [YP, bys, Op.bytesLess]
  have h1 : n % 256 < 256 := Nat.mod_lt _ (by decide)
  have h2 : n' % 256 < 256 := Nat.mod_lt _ (by decide)
  have e1 : (UInt8.ofNat (n % 256)).toNat = n % 256 := by simp
  have e2 : (UInt8.ofNat (n' % 256)).toNat = n' % 256 := by simp
  have elt : (decide (UInt8.ofNat (n % 256) < UInt8.ofNat (n' % 256))) = Nat.blt (n % 256) (n' % 256) := by
   rw [Bool.eq_iff_iff, decide_eq_true_iff, Nat.blt_eq, UInt8.lt_iff_toNat_lt, e1, e2]
  have eeq : (UInt8.ofNat (n % 256) == UInt8.ofNat (n' % 256)) = Nat.beq (n % 256) (n' % 256) := by
   rw [Bool.eq_iff_iff, beq_iff_eq, Nat.beq_eq, <- UInt8.toNat_inj, e1, e2]
  rw [elt, eeq, <- Zc7 l l' (n / 256) (n' / 256)]
  cases Nat.blt (n % 256) (n' % 256) <;> cases Nat.beq (n % 256) (n' % 256) <;> rfl
theorem Zhc : ∀ (x y : List UInt8), (Op.bytesLess x y || (x == y)) = !Op.bytesLess y x
 | [], [] => rfl
 | [], _ :: _ => by simp [Op.bytesLess]
 | _ :: _, [] => by simp [Op.bytesLess]
 | a :: x, b :: y => by
  have ih := Zhc x y
  simp only [Op.bytesLess]
  rcases Nat.lt_trichotomy a.toNat b.toNat with h | h | h
  ·have h1 : a < b := UInt8.lt_iff_toNat_lt.2 h
   have h2 : ¬ b < a := fun h' => by have := UInt8.lt_iff_toNat_lt.1 h'; omega
   have h3 : (b == a) = false := by simp; intro e; subst e; omega
   simp [h1, h2, h3]
  ·have e : a = b := UInt8.toNat_inj.1 h
   subst e
   have h2 : ¬ a < a := fun h' => by have := UInt8.lt_iff_toNat_lt.1 h'; omega
   simp only [h2, decide_false, beq_self_eq_true, Bool.true_and, Bool.false_or]
   rw [<- ih]; simp
  ·have h1 : b < a := UInt8.lt_iff_toNat_lt.2 h
   have h2 : ¬ a < b := fun h' => by have := UInt8.lt_iff_toNat_lt.1 h'; omega
   have h3 : a ≠ b := fun e => by subst e; omega
   simp [h1, h2, h3]
theorem q_str (t : TypeId) {op : BinOp} {l m l' m' : Nat} (h : Zr (Zvh op l m l' m' k) φ) : QR P σ w (binOp op t (.string ⟨(bys l m).toArray⟩) (.string ⟨(bys l' m').toArray⟩)) k φ := by
 have mkb : ∀ (v : Bool), Zr (k (.bool v)) φ -> (binOp op t (.string ⟨(bys l m).toArray⟩) (.string ⟨(bys l' m').toArray⟩)).run P w = .ok (.bool v) w -> QR P σ w (binOp op t (.string ⟨(bys l m).toArray⟩) (.string ⟨(bys l' m').toArray⟩)) k φ :=
  fun v hk hr => ⟨_, _, hr, by simp only [VR], hk⟩
 unfold Zvh at h
 cases op <;> simp only at h <;> first | exact h.no.elim | skip
 case add =>
  obtain ⟨hz, h⟩ := h.bif
  refine ⟨_, .string ⟨(bys (l + l') (ZhJ l m m')).toArray⟩, ?_, by simp only [VR], h⟩
  simp only [binOp, Op.stringOp, ByteArray.size, List.size_toArray, Zl]
  rw [if_neg (by have := ZxS hz; simp [IntKind.max, IntKind.signed, IntKind.bits]; omega)]
  have : (⟨(bys l m).toArray⟩ : ByteArray) ++ ⟨(bys l' m').toArray⟩ = ⟨(bys (l + l') (ZhJ l m m')).toArray⟩ := by
   apply ByteArray.ext
   rw [ByteArray.data_append, <- ZdR]; simp
  rw [this]; rfl
 case eql => rw [Zfk] at h; exact mkb _ h (by simp only [binOp, Op.stringOp, ZX]; rfl)
 case neq => rw [Zfk] at h; exact mkb _ h (by simp only [binOp, Op.stringOp, ZX]; rfl)
 case lss => rw [Zc7] at h; exact mkb _ h (by simp only [binOp, Op.stringOp, ZX]; rfl)
 case geq => rw [Zc7] at h; exact mkb _ h (by simp only [binOp, Op.stringOp, ZX]; rfl)
 case gtr => rw [Zc7] at h; refine mkb _ h ?_; simp only [binOp, Op.stringOp, ZX]; rw [Zhc, ZxD]; rfl
 case leq => rw [Zc7] at h; refine mkb _ h ?_; simp only [binOp, Op.stringOp, ZX]; rw [Zhc]; rfl
end
end Go.Cx
namespace Go.Cx
open Go.RowKit (Below)
section
variable {P : Program}
theorem Za9 {s : TypeId} {fs : Array Field} {f : Nat} {fd : Field} {n : Nat} (hs : P.underlying s = some (.struct fs)) (hf : fs[f]? = some fd) (hn : Zfl P fd.type = some (n + 1)) (b o : Nat) (w : World) :
  (Instr.fieldAt s (.pointer (some ⟨b, o, none⟩)) f).run P w = .ok (.pointer (some ⟨b, o + fd.offset, none⟩)) w := by
 obtain ⟨i, hi, hsz⟩ := Zc1 hn
 simp [Instr.fieldAt, run_underlying hs, hf, Instr.sureAddr, fieldPlace, sizeOf, typeInfo, hi, hsz, add_eq]
theorem Zh {k : IntKind} {n : Int} {y : Nat} {code : BoundsCode} (h0 : 0 <= n) (h1 : n <= y) (w : World) : (Instr.sliceBound (.int k n) y code).run P w = .ok n.toNat w := by
 simp [Instr.sliceBound, asIntOf, h0, h1]
theorem Yz {lo hi mx : Option Value} {l h m : Nat} {len cap : Nat} {b : Bool} {k1 k2 k3 : IntKind} {x1 x2 x3 : Int}
  (hm : (mx = none /\ m = cap) \/ (mx = some (.int k3 x3) /\ 0 <= x3 /\ x3 <= cap /\ m = x3.toNat))
  (hh : (hi = none /\ mx = none /\ h = len) \/ (hi = some (.int k2 x2) /\ 0 <= x2 /\ x2 <= m /\ h = x2.toNat))
  (hl : (lo = none /\ l = 0) \/ (lo = some (.int k1 x1) /\ 0 <= x1 /\ x1 <= h /\ l = x1.toNat)) (w : World) :
  (Instr.sliceBounds b len cap lo hi mx).run P w = .ok (l, h, m) w := by
 unfold Instr.sliceBounds
 rcases hm with ⟨rfl, rfl⟩ | ⟨rfl, m1, m2, rfl⟩
 ·rcases hh with ⟨rfl, _, rfl⟩ | ⟨rfl, h1, h2, rfl⟩
  ·rcases hl with ⟨rfl, rfl⟩ | ⟨rfl, l1, l2, rfl⟩
   ·rfl
   ·simp [Zh l1 l2]
  ·rcases hl with ⟨rfl, rfl⟩ | ⟨rfl, l1, l2, rfl⟩
   ·simp [Zh h1 h2]
   ·simp [Zh h1 h2, Zh l1 l2]
 ·rcases hh with ⟨rfl, hc, rfl⟩ | ⟨rfl, h1, h2, rfl⟩
  ·cases hc
  ·rcases hl with ⟨rfl, rfl⟩ | ⟨rfl, l1, l2, rfl⟩
   ·simp [Zh m1 m2, Zh h1 h2]
   ·simp [Zh m1 m2, Zh h1 h2, Zh l1 l2]
theorem Zq {t : TypeId} {i : TypeInfo} {z : Value} (hi : P.info? t = some i) (hz : i.zero = some z) (w : World) : (zeroValue t).run P w = .ok z w := by
 simp [zeroValue, typeInfo, hi, hz]
variable {w0 : World} {σ : Sg} {hp : H} {n : Nat} {w : World} {fr : F} {ev : Operand -> Value} {k : CV -> Res} {φ : Out -> Prop}
theorem ZgA {t off : Nat} {cs : List CV} {vs : List Value} (hv : VRs σ cs vs) (h : Zr (Go.Cx.part P t cs off k) φ) : QR P σ w (Go.part t vs.toArray off) k φ := by
 unfold Go.Cx.part at h
 have e : Go.part t vs.toArray off = (isAgg t).bind (fun x => if x then ((sizeOf t).bind fun k => Sem.pure (Value.agg (vs.toArray.extract off (off + k)))) else match vs.toArray[off]? with | some v => Sem.pure v | none => stuck "part: no such cell") := by
  unfold Go.part; rfl
 split at h
 ·rename_i m hA
  obtain ⟨d, h1, h2, h3⟩ := Zcg hA
  split at h
  ·rename_i r hr
   obtain ⟨g1, g2, g3⟩ := (hv.drop (n := off)).take hr
   refine ⟨_, .agg ((vs.drop off).take m).toArray, ?_, by simp only [VR]; exact ⟨_, g1, rfl⟩, h⟩
   rw [e, Sem.run_bind', Zdm h1, h2]
   simp only [Result.andThen, if_true]
   rw [Sem.run_bind', Yn h3]
   simp [Result.andThen, Sem.run, List.extract_eq_take_drop]
  ·exact h.no.elim
 ·rename_i m hA
  obtain ⟨d, h1, h2, h3⟩ := Zcg hA
  split at h
  ·rename_i c hc
   obtain ⟨y, g1, g2⟩ := hv.get hc
   refine ⟨_, y, ?_, g2, h⟩
   rw [e, Sem.run_bind', Zdm h1, h2]
   simp [Result.andThen, Sem.run, g1]
  ·exact h.no.elim
 ·exact h.no.elim
theorem ZqH (hL : ∀ x, VR σ (lk fr x) (ev x)) {s f : Nat} {x : Operand} (h : Zr (ZfE P fr s x f k) φ) : QR P σ w (Instr.fieldAt s (ev x) f) k φ := by
 unfold ZfE at h
 have hx := hL x
 split at h
 ·rename_i b o he
  rw [he] at hx; simp only [VR] at hx
  obtain ⟨p, t, hs, hv⟩ := hx
  split at h
  ·rename_i fs hd
   split at h
   ·rename_i fd hf
    rw [ZaN, Zxu] at hf
    split at h
    ·rename_i m hm
     exact ⟨_, _, by rw [hv]; exact Za9 (Zd hd) hf hm p o w, by simp only [VR]; exact ⟨p, t, hs, rfl⟩, h⟩
    ·exact h.no.elim
   ·exact h.no.elim
  ·exact h.no.elim
 ·exact h.no.elim
theorem Ztd (hL : ∀ x, VR σ (lk fr x) (ev x)) {t f : Nat} {x : Operand} (h : Zr (Zl4 P fr t x f k) φ) : QR P σ w (Instr.field t (ev x) f) k φ := by
 unfold Zl4 at h
 have hx := hL x
 split at h
 ·rename_i cs he
  rw [he] at hx; simp only [VR] at hx
  obtain ⟨vs, hvs, hv⟩ := hx
  split at h
  ·rename_i fs hd
   split at h
   ·rename_i fd hf
    rw [ZaN, Zxu] at hf
    obtain ⟨c, v, h1, h2, h3⟩ := ZgA (P := P) (w := w) hvs h
    exact ⟨c, v, by rw [hv]; simp [Instr.field, run_underlying (Zd hd), hf, asAgg, h1], h2, h3⟩
   ·exact h.no.elim
  ·exact h.no.elim
 ·exact h.no.elim
theorem Zif (hL : ∀ x, VR σ (lk fr x) (ev x)) {x : Operand} {kd : Nat} {i : Int} (h : lk fr x = .int kd i) : ev x = .int (kc kd) i := by
 have := hL x; rw [h] at this; simpa only [VR] using this
theorem Zq3 (hL : ∀ x, VR σ (lk fr x) (ev x)) {t : Nat} {x ix : Operand} (h : Zr (ZcL P fr t x ix k) φ) : QR P σ w (Instr.indexAt t (ev x) (ev ix)) k φ := by
 unfold ZcL at h
 split at h
 ·rename_i kd i hi
  have hiv := Zif hL hi
  have hx := hL x
  split at h
  ·rename_i b o s l kk ex he
   rw [he] at hx; simp only [VR] at hx
   obtain ⟨p, u, o', c, hs, hv, hlk, hkc, hex, ho, hle, heq⟩ := hx
   split at h
   ·rename_i e hd
    obtain ⟨hil, h⟩ := h.bif
    have hil : i < l := by simpa [Nat.blt_eq] using hil
    split at h
    ·rename_i m hm
     obtain ⟨hsm, h⟩ := h.bif
     have hsm := ZxG hsm
     have ho' : o' = o := ho (.inl (by omega))
     subst ho'
     refine ⟨_, .pointer (some ⟨p, o' + i * s, none⟩), ?_, by simp only [VR]; exact ⟨p, u, hs, rfl⟩, h⟩
     rw [hv, hiv]
     simp [Instr.indexAt, asIntOf, run_underlying (Zd hd), Yn hm, add_eq, hil, hsm]
    ·exact h.no.elim
   ·exact h.no.elim
  ·rename_i b o he
   rw [he] at hx; simp only [VR] at hx
   obtain ⟨p, u, hs, hv⟩ := hx
   split at h
   ·rename_i m e hd
    obtain ⟨hil, h⟩ := h.bif
    have hil : i < m := by simpa [Nat.blt_eq] using hil
    split at h
    ·rename_i z hz
     refine ⟨_, .pointer (some ⟨p, o + i * (z + 1), none⟩), ?_, by simp only [VR]; exact ⟨p, u, hs, rfl⟩, h⟩
     rw [hv, hiv]
     simp [Instr.indexAt, asIntOf, run_underlying (Zd hd), Yn hz, add_eq, Instr.sureAddr, hil]
    ·exact h.no.elim
   ·exact h.no.elim
  ·exact h.no.elim
 ·exact h.no.elim
theorem Zi6 (l n i : Nat) (h : i < l) : (⟨(bys l n).toArray⟩ : ByteArray)[i]? = some (UInt8.ofNat (ZfN n i)) := by
 have hlt' : i < (⟨(bys l n).toArray⟩ : ByteArray).size := by simpa [ByteArray.size, Zl] using h
 rw [getElem?_pos (⟨(bys l n).toArray⟩ : ByteArray) i hlt']
 have := Zbj l n i h
 rw [ZxI (by rw [Zl]; exact h)] at this
 exact this
theorem ZdV (x : Nat) (h : x < 256) : (UInt8.ofNat x).toNat = x := by simp; omega
theorem ZsX (hL : ∀ x, VR σ (lk fr x) (ev x)) {t : Nat} {x ix : Operand} (h : Zr (ZkV P fr t x ix k) φ) : QR P σ w (Instr.index t (ev x) (ev ix)) k φ := by
 unfold ZkV at h
 split at h
 ·rename_i kd i hi
  have hiv := Zif hL hi
  have hx := hL x
  split at h
  ·rename_i l m he
   rw [he] at hx; simp only [VR] at hx
   split at h
   ·rename_i hd
    obtain ⟨hil, h⟩ := h.bif
    have hil : i < l := by simpa [Nat.blt_eq] using hil
    refine ⟨_, .int .u8 (ZfN m i : Nat), ?_, by simp only [VR]; rfl, h⟩
    rw [hx, hiv]
    have hg := Zi6 l m i hil
    simp [Instr.index, asIntOf, run_underlying (Zd hd), hg, ZdV _ (ZgQ m i)]
   ·exact h.no.elim
  ·rename_i cs he
   rw [he] at hx; simp only [VR] at hx
   obtain ⟨vs, hvs, hv⟩ := hx
   split at h
   ·rename_i m e hd
    obtain ⟨hil, h⟩ := h.bif
    have hil : i < m := by simpa [Nat.blt_eq] using hil
    split at h
    ·rename_i s hs
     obtain ⟨c, v, h1, h2, h3⟩ := ZgA (P := P) (w := w) hvs h
     exact ⟨c, v, by rw [hv, hiv]; simp [Instr.index, asIntOf, run_underlying (Zd hd), hil, Yn hs, h1], h2, h3⟩
    ·exact h.no.elim
   ·exact h.no.elim
  ·exact h.no.elim
 ·exact h.no.elim
/-! ### Slices of slices -/
theorem ZbL (hL : ∀ x, VR σ (lk fr x) (ev x)) {o : Option Operand} {r : Option Nat} (h : Zsm fr o = some r) : (r = none /\ o.map ev = none) \/ ∃ kd m, r = some m /\ o.map ev = some (.int (kc kd) (m : Int)) := by
 unfold Zsm at h
 split at h
 ·cases h; exact .inl ⟨rfl, rfl⟩
 ·rename_i x
  split at h
  ·rename_i kd m he
   cases h
   exact .inr ⟨kd, m, rfl, by simp [Zif hL he]⟩
  ·cases h
theorem Zcy (l n a b : Nat) (h : b <= l) (h2 : a <= b) : (⟨(bys l n).toArray⟩ : ByteArray).extract a b = ⟨(bys (b - a) (ZhI n a (b - a))).toArray⟩ := by
 apply ByteArray.ext
 rw [ByteArray.data_extract, <- ZgT l n a (b - a) (by omega)]
 simp [List.extract_eq_take_drop]
theorem Zjr (hL : ∀ x, VR σ (lk fr x) (ev x)) {lo hi mx : Option Operand} {rl rh rm : Option Nat} (h1 : Zsm fr lo = some rl) (h2 : Zsm fr hi = some rh) (h3 : Zsm fr mx = some rm) (b : Bool) {len cap : Nat}
  (hm : orN cap rm <= cap) (hh : orN len rh <= orN cap rm) (hl : orN 0 rl <= orN len rh) (hmh : rm = none \/ rh ≠ none) (w : World) :
  (Instr.sliceBounds b len cap (lo.map ev) (hi.map ev) (mx.map ev)).run P w = .ok (orN 0 rl, orN len rh, orN cap rm) w := by
 have k3 := ZbL hL h3
 have k2 := ZbL hL h2
 have k1 := ZbL hL h1
 obtain ⟨kd3, x3, H3⟩ : ∃ (kd3 : IntKind) (x3 : Int), (mx.map ev = none /\ orN cap rm = cap) \/ (mx.map ev = some (.int kd3 x3) /\ 0 <= x3 /\ x3 <= cap /\ orN cap rm = x3.toNat) := by
  rcases k3 with ⟨rfl, e⟩ | ⟨kd, m, rfl, e⟩
  ·exact ⟨.i64, 0, .inl ⟨e, rfl⟩⟩
  ·exact ⟨_, _, .inr ⟨e, by omega, by simp only [orN] at hm; omega, by simp [orN]⟩⟩
 obtain ⟨kd2, x2, H2⟩ : ∃ (kd2 : IntKind) (x2 : Int), (hi.map ev = none /\ mx.map ev = none /\ orN len rh = len) \/ (hi.map ev = some (.int kd2 x2) /\ 0 <= x2 /\ x2 <= ((orN cap rm : Nat) : Int) /\ orN len rh = x2.toNat) := by
  rcases k2 with ⟨rfl, e⟩ | ⟨kd, m, rfl, e⟩
  ·refine ⟨.i64, 0, .inl ⟨e, ?_, rfl⟩⟩
   rcases hmh with rfl | hc
   ·rcases k3 with ⟨_, e3⟩ | ⟨_, _, hc, _⟩
    ·exact e3
    ·cases hc
   ·exact absurd rfl hc
  ·exact ⟨_, _, .inr ⟨e, by omega, by simp only [orN] at hh ⊢; omega, by simp [orN]⟩⟩
 obtain ⟨kd1, x1, H1⟩ : ∃ (kd1 : IntKind) (x1 : Int), (lo.map ev = none /\ orN 0 rl = 0) \/ (lo.map ev = some (.int kd1 x1) /\ 0 <= x1 /\ x1 <= ((orN len rh : Nat) : Int) /\ orN 0 rl = x1.toNat) := by
  rcases k1 with ⟨rfl, e⟩ | ⟨kd, m, rfl, e⟩
  ·exact ⟨.i64, 0, .inl ⟨e, rfl⟩⟩
  ·exact ⟨_, _, .inr ⟨e, by omega, by simp only [orN] at hl ⊢; omega, by simp [orN]⟩⟩
 exact Yz H3 H2 H1 w
theorem ZtZ (hR : Rel w0 σ hp n w) (hL : ∀ x, VR σ (lk fr x) (ev x)) {t : Nat} {x : Operand} {lo hi mx : Option Operand} (h : Zr (ZkS P fr hp t x lo hi mx k) φ) : QR P σ w (Instr.sliceAt t (ev x) (lo.map ev) (hi.map ev) (mx.map ev)) k φ := by
 unfold ZkS at h
 split at h
 ·exact h.no.elim
 rename_i rl e1
 split at h
 ·exact h.no.elim
 rename_i rh e2
 split at h
 ·exact h.no.elim
 rename_i rm e3
 have hx := hL x
 split at h
 ·-- text
  rename_i l m he
  rw [he] at hx; simp only [VR] at hx
  split at h
  ·rename_i hd
   split at h
   ·obtain ⟨g1, h⟩ := h.bif
    obtain ⟨g2, h⟩ := h.bif
    have g1 := ZxS g1
    have g2 := ZxS g2
    refine ⟨_, .string ⟨(bys (orN l rh - orN 0 rl) (ZhI m (orN 0 rl) (orN l rh - orN 0 rl))).toArray⟩, ?_, by simp only [VR], h⟩
    have hmx : mx.map ev = none := by
     rcases ZbL hL e3 with ⟨_, e⟩ | ⟨_, _, hc, _⟩
     ·exact e
     ·cases hc
    have hb := Zjr (P := P) hL e1 e2 e3 false (len := l) (cap := l) (by simp [orN]) (by simpa [orN] using g1) g2 (.inl rfl) w
    rw [hmx] at hb ⊢
    have hsz : (⟨(bys l m).toArray⟩ : ByteArray).size = l := by simp [ByteArray.size, Zl]
    rw [hx]
    have ea : (Instr.sliceAt t (.string ⟨(bys l m).toArray⟩) (lo.map ev) (hi.map ev) none).run P w = (Instr.slice t (.string ⟨(bys l m).toArray⟩) (lo.map ev) (hi.map ev) none).run P w := by
     unfold Instr.sliceAt; simp [run_underlying (Zd hd)]
    rw [ea]
    simp [Instr.slice, run_underlying (Zd hd), hsz, hb, Zcy l m _ _ g1 g2]
   ·exact h.no.elim
  ·exact h.no.elim
 ·-- nil
  rename_i he
  rw [he] at hx; simp only [VR] at hx
  split at h
  ·rename_i e hd
   split at h
   ·rename_i sz hsz
    split at h
    ·exact h.no.elim
    ·obtain ⟨g1, h⟩ := h.bif
     obtain ⟨g3, h⟩ := h.bif
     have g1 := ZxG g1
     have g3 := ZxG g3
     rw [hx]
     have ea : (Instr.sliceAt t (.slice none 0 0) (lo.map ev) (hi.map ev) (mx.map ev)).run P w = (Instr.slice t (.slice none 0 0) (lo.map ev) (hi.map ev) (mx.map ev)).run P w := by
      unfold Instr.sliceAt; simp [run_underlying (Zd hd)]
     have hb := Zjr (P := P) hL e1 e2 e3 true (len := 0) (cap := 0) (by simp [orN]) (by rw [g1]; simp [orN]) (by omega) (.inl rfl) w
     refine ⟨_, .slice none 0 0, ?_, by simp only [VR], h⟩
     rw [ea]
     rw [g1, g3] at hb
     simp only [orN] at hb
     simp [Instr.slice, run_underlying (Zd hd), hb, Yn hsz]
   ·exact h.no.elim
  ·exact h.no.elim
 ·-- a pointer to an array
  rename_i b o he
  rw [he] at hx; simp only [VR] at hx
  obtain ⟨p, u, hs, hv⟩ := hx
  split at h
  ·rename_i m e hd
   split at h
   ·rename_i sz hsz
    split at h
    ·exact h.no.elim
    ·obtain ⟨g1, h⟩ := h.bif
     obtain ⟨g2, h⟩ := h.bif
     have g1 := ZxS g1
     have g2 := ZxS g2
     split at h
     ·rename_i cs hc
      obtain ⟨g3, h⟩ := h.bif
      have g3 := ZxS g3
      obtain ⟨vs, hvs, hrow⟩ := hR.at hs hc (by simp)
      have hfit : cs.length <= u := by
       obtain ⟨arr, ty, lo', hi', _, q2, ⟨sp, q3⟩, _⟩ := hrow
       have := congrArg List.length q3
       have h1 := hvs.len
       simp at this; omega
      have hmx : mx.map ev = none := by
       rcases ZbL hL e3 with ⟨_, e⟩ | ⟨_, _, hc, _⟩
       ·exact e
       ·cases hc
      have hb := Zjr (P := P) hL e1 e2 e3 false (len := m) (cap := m) (by simp [orN]) (by simpa [orN] using g1) g2 (.inl rfl) w
      simp only [show orN m none = m from rfl] at hb
      have run : (Instr.sliceAt t (ev x) (lo.map ev) (hi.map ev) (mx.map ev)).run P w = .ok (.slice (some ⟨p, if m = orN 0 rl then o else o + orN 0 rl * sz, none⟩) (orN m rh - orN 0 rl) (m - orN 0 rl)) w := by
       rw [hv]
       unfold Instr.sliceAt
       simp [run_underlying (Zd hd), Instr.sureAddr, hb, Yn hsz, add_eq]
       split <;> rfl
      refine ⟨_, _, run, ?_, h⟩
      simp only [VR]
      refine ⟨p, u, _, _, hs, rfl, by omega, Zxv _, fun _ => rfl, fun _ => ?_, ?_, fun e => (by cases e)⟩
      ·by_cases hc : m = orN 0 rl
       ·rw [if_pos hc, show Nat.beq (orN 0 rl) m = true by rw [Nat.beq_eq]; omega]; rfl
       ·rw [if_neg hc, show Nat.beq (orN 0 rl) m = false by cases hq : Nat.beq (orN 0 rl) m; rfl; exact absurd (ZxG hq).symm hc]; rfl
      ·by_cases hc : m = orN 0 rl
       ·rw [if_pos hc, hc]; simp; omega
       ·rw [if_neg hc, Nat.sub_mul]
        have : orN 0 rl * sz <= m * sz := Zxw _ (by omega)
        omega
     ·exact h.no.elim
   ·exact h.no.elim
  ·exact h.no.elim
 ·-- slice
  rename_i b o s l c ex he
  rw [he] at hx; simp only [VR] at hx
  obtain ⟨p, u, o', cc, hs, hv, hlk, hkc, hex, ho, hle, heq⟩ := hx
  split at h
  ·rename_i e hd
   split at h
   ·rename_i sz hsz
    obtain ⟨gs, h⟩ := h.bif
    have gs := ZxG gs
    subst gs
    have ea : (Instr.sliceAt t (.slice (some ⟨p, o', none⟩) l cc) (lo.map ev) (hi.map ev) (mx.map ev)).run P w = (Instr.slice t (.slice (some ⟨p, o', none⟩) l cc) (lo.map ev) (hi.map ev) (mx.map ev)).run P w := by
     unfold Instr.sliceAt; simp [run_underlying (Zd hd)]
    have run : ∀ L Hh M, (Instr.sliceBounds true l cc (lo.map ev) (hi.map ev) (mx.map ev)).run P w = .ok (L, Hh, M) w →
      (Instr.sliceAt t (ev x) (lo.map ev) (hi.map ev) (mx.map ev)).run P w = .ok (.slice (some ⟨p, if M = L then o' else o' + L * sz, none⟩) (Hh - L) (M - L)) w := by
     intro L Hh M hb
     rw [hv, ea]
     simp [Instr.slice, run_underlying (Zd hd), hb, Yn hsz, add_eq]
     split <;> rfl
    split at h
    ·obtain ⟨g1, h⟩ := h.bif
     obtain ⟨g2, h⟩ := h.bif
     have g1 := ZxS g1
     have g2 := ZxS g2
     have hb := Zjr (P := P) hL e1 e2 e3 true (len := l) (cap := cc) (by simp [orN]) (by simp only [orN] at g1 ⊢; omega) g2 (.inl rfl) w
     simp only [show orN cc none = cc from rfl] at hb
     refine ⟨_, _, run _ _ _ hb, ?_, h⟩
     simp only [VR]
     refine ⟨p, u, _, _, hs, rfl, by omega, by omega, fun e => by have := hex e; omega, fun hk => ?_, ?_, fun hex0 hk0 => ?_⟩
     ·by_cases hc : cc = orN 0 rl
      ·have hc2 : c = cc /\ ex = true := by
        rcases hk with hk | hk
        ·omega
        ·exact ⟨(hex hk).symm, hk⟩
       rw [if_pos hc]
       have : Nat.beq (orN 0 rl) c = true := by rw [Nat.beq_eq]; omega
       rw [this]; exact ho (.inr hc2.2)
      ·rw [if_neg hc]
       have : Nat.beq (orN 0 rl) c = false := by
        cases hq : Nat.beq (orN 0 rl) c
        ·rfl
        ·have := ZxG hq
         rcases hk with hk | hk
         ·omega
         ·have := hex hk; omega
       rw [this]; simp only [cond_false]
       rw [ho (by rcases hk with hk | hk; exact .inl (by omega); exact .inr hk)]
     ·by_cases hc : cc = orN 0 rl
      ·rw [if_pos hc, hc]; simp; have := Nat.zero_le (cc * sz); omega
      ·rw [if_neg hc, Nat.sub_mul]
       have : orN 0 rl * sz <= cc * sz := Zxw _ (by omega)
       omega
     ·have h1 := heq hex0 (by omega)
      rw [if_neg (show ¬ cc = orN 0 rl by omega), Nat.sub_mul]
      have : orN 0 rl * sz <= cc * sz := Zxw _ (by omega)
      omega
    ·rename_i m hrm
     split at h
     ·exact h.no.elim
     ·rename_i hh
      obtain ⟨g0, h⟩ := h.bif
      obtain ⟨g1, h⟩ := h.bif
      obtain ⟨g2, h⟩ := h.bif
      obtain ⟨g3, h⟩ := h.bif
      have g1 := ZxS g1
      have g2 := ZxS g2
      have g3 := ZxS g3
      have hoo : o' = o := ho (by
       cases hq : Nat.ble 1 c
       ·rw [hq] at g0; exact .inr g0
       ·exact .inl (ZxS hq))
      subst hoo
      have hb := Zjr (P := P) hL e1 e2 e3 true (len := l) (cap := cc) (by simp only [orN]; omega) (by simp only [orN]; omega) (by simp only [orN] at g3 ⊢; omega) (.inr (by simp)) w
      simp only [show orN cc (some m) = m from rfl, show orN l (some hh) = hh from rfl] at hb
      refine ⟨_, _, run _ _ _ hb, ?_, h⟩
      simp only [VR]
      refine ⟨p, u, _, _, hs, rfl, by omega, Zxv _, fun _ => rfl, fun _ => ?_, ?_, fun e => (by cases e)⟩
      ·by_cases hc : m = orN 0 rl
       ·rw [if_pos hc, show Nat.beq (orN 0 rl) m = true by rw [Nat.beq_eq]; omega]; rfl
       ·rw [if_neg hc, show Nat.beq (orN 0 rl) m = false by cases hq : Nat.beq (orN 0 rl) m; rfl; exact absurd (ZxG hq).symm hc]; rfl
      ·have q1 : m * sz <= cc * sz := Zxw _ (by omega)
       by_cases hc : m = orN 0 rl
       ·rw [if_pos hc, hc]; simp; omega
       ·rw [if_neg hc, Nat.sub_mul]
        have : orN 0 rl * sz <= m * sz := Zxw _ (by omega)
        omega
   ·exact h.no.elim
  ·exact h.no.elim
 ·exact h.no.elim
end
end Go.Cx
namespace Go.Cx
open Go.RowKit (Below)
section
variable {P : Program} {w0 : World} {σ : Sg} {hp : H} {n : Nat} {w : World} {fr : F} {ev : Operand -> Value} {k : CV -> Res} {φ : Out -> Prop}
/-! ### Constants -/
theorem ZlZ (v : Value) : VR σ (ZkM v) v := by
 unfold ZkM
 split <;> simp only [VR, ZhM]
 rename_i s
 congr 1
 apply ByteArray.ext
 show s.data = _
 rw [ZeK]
theorem ZgH : ∀ (l : List Value), VRs σ (Zgn l) l
 | [] => by simp only [Zgn, VRs]
 | v :: l => by simp only [Zgn, VRs]; exact ⟨v, l, rfl, ZlZ v, ZgH l⟩
theorem ZoW (v : Value) : VR σ (ZrG v) v := by
 unfold ZrG
 split
 ·rename_i cs; simp only [VR]; exact ⟨cs.toList, ZgH _, by simp⟩
 ·exact ZlZ v
theorem YK {t : Nat} {z : List CV} (h : Zi9 P t = some z) : ∃ i zv, P.info? t = some i /\ i.zero = some zv /\ VRs σ z zv.cells.toList := by
 unfold Zi9 at h
 split at h
 ·rename_i i hi
  split at h
  ·rename_i zv hz; cases h; exact ⟨i, zv, Yy hi, hz, ZgH _⟩
  ·cases h
 ·cases h
theorem Zg3 {c : CV} {v : Value} (hj : c ≠ .junk) (h : VR σ c v) : VRs σ (cellsOf c) v.cells.toList := by
 unfold cellsOf
 split
 ·rename_i cs; simp only [VR] at h; obtain ⟨vs, h1, rfl⟩ := h; simpa [Value.cells] using h1
 ·rename_i x hx
  have hc : v.cells = #[v] := by
   cases c <;> simp only [VR] at h
   all_goals first | exact absurd rfl hj | exact absurd rfl (hx _) | (subst h; rfl) | (obtain ⟨_, _, _, rfl⟩ := h; rfl) | (obtain ⟨_, _, rfl⟩ := h; rfl) | (obtain ⟨_, _, _, _, _, rfl, _⟩ := h; rfl) | (obtain ⟨_, _, _, _, rfl⟩ := h; rfl)
  rw [hc]; simp only [VRs]; exact ⟨v, [], rfl, h, rfl⟩
/-! ### Equality -/
theorem ZeQ (a b : Bool) : bbq a b = (a == b) := by cases a <;> cases b <;> rfl
theorem Row.obj {p t : Nat} {vs : List Value} (h : Row w p t vs false) : ∃ arr ty, w.heap[p]? = some (.cells arr ty (0, 0)) := by
 obtain ⟨arr, ty, lo, hi, h1, _, _, h4⟩ := h
 rcases h4 with ⟨rfl, rfl⟩ | ⟨hc, _⟩
 ·exact ⟨arr, ty, h1⟩
 ·cases hc
set_option maxHeartbeats 2000000 in
theorem Zb3 (hR : Rel w0 σ hp n w) {t : Nat} {d : TypeDesc} (hd : P.underlying t = some d) {a b : CV} {va vb : Value} (ha : VR σ a va) (hb : VR σ b vb) {r : Bool}
  (h : Zff hp P d a b = some r) (m : Nat) : (Op.equalIn (m + 1) t va vb).run P w = .ok r w := by
 unfold Zff at h
 split at h
 ·-- int
  rename_i kd
  split at h
  ·rename_i k x j y
   simp only [VR] at ha hb; subst ha; subst hb
   obtain ⟨h1, h2⟩ := Zaz h
   have := ZxG h1; subst this
   cases h2
   rw [run_equalIn_int w m t _ _ _ _ hd, ZaT]
  ·cases h
 ·split at h
  ·simp only [VR] at ha hb; subst ha; subst hb; cases h
   rw [run_equalIn_bool w m t _ _ hd, ZeQ]
  ·cases h
 ·split at h
  ·simp only [VR] at ha hb; subst ha; subst hb; cases h
   rw [run_equalIn_string w m t _ _ hd, Zfk, ZX, ZX]
  ·cases h
 ·-- pointers
  rename_i e
  split at h
  ·simp only [VR] at ha hb; subst ha; subst hb; cases h
   simp [Op.equalIn, run_underlying hd]
  ·simp only [VR] at ha hb; subst ha; obtain ⟨p, u, _, rfl⟩ := hb; cases h
   simp [Op.equalIn, run_underlying hd]
  ·simp only [VR] at ha hb; subst hb; obtain ⟨p, u, _, rfl⟩ := ha; cases h
   simp [Op.equalIn, run_underlying hd]
  ·rename_i b o b' o'
   split at h
   ·rename_i sz hsz
    simp only [VR] at ha hb; obtain ⟨p, u, hs1, rfl⟩ := ha; obtain ⟨q, v, hs2, rfl⟩ := hb
    have e0 : (Op.equalIn (m + 1) t (.pointer (some ⟨p, o, none⟩)) (.pointer (some ⟨q, o', none⟩))).run P w = (sameAddr ⟨p, o, none⟩ ⟨q, o', none⟩).run P w := by
     simp [Op.equalIn, run_underlying hd, Yn hsz]
    rw [e0]
    cases hbb : Nat.beq b b'
    ·rw [hbb] at h
     simp only [cond_false] at h
     have hne : b ≠ b' := fun e => by rw [e, Nat.beq_refl] at hbb; cases hbb
     split at h
     ·rename_i c1 hc1
      split at h
      ·rename_i c2 hc2
       cases h
       have g1 := hR.at hs1 hc1 (by simp)
       have g2 := hR.at hs2 hc2 (by simp)
       obtain ⟨v1, _, r1⟩ := g1
       obtain ⟨v2, _, r2⟩ := g2
       obtain ⟨a1, t1, o1⟩ := r1.obj
       obtain ⟨a2, t2, o2⟩ := r2.obj
       have hpq : p ≠ q := hR.apart b b' p u q v (hR.old _ _ _ hs1).1 (hR.old _ _ _ hs2).1 (by rw [hc1]; simp) (by rw [hc2]; simp) hne hs1 hs2
       exact run_sameAddr_other w (by intro e; cases e; exact hpq rfl) o1 o2
      ·cases h
     ·cases h
    ·rw [hbb] at h
     have := ZxG hbb; subst this
     rw [hs1] at hs2; cases hs2
     cases h
     by_cases he : o = o'
     ·subst he; rw [Nat.beq_refl, run_sameAddr_same]
     ·have hf : Nat.beq o o' = false := by cases hq : Nat.beq o o'; rfl; exact absurd (ZxG hq) he
      rw [hf]; simp [sameAddr, he]
   ·cases h
  ·cases h
 ·split at h
  ·simp only [VR] at ha hb; subst ha; subst hb; cases h
   simp [Op.equalIn, run_underlying hd]
  ·simp only [VR] at ha hb; subst ha; obtain ⟨p, u, o', c, _, rfl, _⟩ := hb; cases h
   simp [Op.equalIn, run_underlying hd]
  ·simp only [VR] at ha hb; subst hb; obtain ⟨p, u, o', c, _, rfl, _⟩ := ha; cases h
   simp [Op.equalIn, run_underlying hd]
  ·cases h
 ·split at h
  ·simp only [VR] at ha hb; subst ha; subst hb; cases h
   simp [Op.equalIn, run_underlying hd]
  ·simp only [VR] at ha hb; subst ha; obtain ⟨p, u, _, rfl⟩ := hb; cases h
   simp [Op.equalIn, run_underlying hd]
  ·simp only [VR] at ha hb; subst hb; obtain ⟨p, u, _, rfl⟩ := ha; cases h
   simp [Op.equalIn, run_underlying hd]
  ·cases h
 ·split at h
  ·simp only [VR] at ha hb; subst ha; subst hb; cases h
   simp [Op.equalIn, run_underlying hd]
  ·simp only [VR] at ha hb; subst ha; obtain ⟨_, _, _, _, rfl⟩ := hb; cases h
   simp [Op.equalIn, run_underlying hd]
  ·simp only [VR] at ha hb; subst ha; obtain ⟨_, _, rfl⟩ := hb; cases h
   simp [Op.equalIn, run_underlying hd]
  ·simp only [VR] at ha hb; subst ha; obtain ⟨_, _, _, rfl⟩ := hb; cases h
   simp [Op.equalIn, run_underlying hd]
  ·simp only [VR] at ha hb; subst hb; obtain ⟨_, _, _, _, rfl⟩ := ha; cases h
   simp [Op.equalIn, run_underlying hd]
  ·simp only [VR] at ha hb; subst hb; obtain ⟨_, _, rfl⟩ := ha; cases h
   simp [Op.equalIn, run_underlying hd]
  ·simp only [VR] at ha hb; subst hb; obtain ⟨_, _, _, rfl⟩ := ha; cases h
   simp [Op.equalIn, run_underlying hd]
  ·cases h
 ·split at h
  ·simp only [VR] at ha hb; subst ha; subst hb; cases h
   simp [Op.equalIn, run_underlying hd]
  ·simp only [VR] at ha hb; subst ha; obtain ⟨_, _, rfl⟩ := hb; cases h
   simp [Op.equalIn, run_underlying hd]
  ·simp only [VR] at ha hb; subst hb; obtain ⟨_, _, rfl⟩ := ha; cases h
   simp [Op.equalIn, run_underlying hd]
  ·rename_i t1 x t2 y
   simp only [VR] at ha hb; obtain ⟨_, _, rfl⟩ := ha; obtain ⟨_, _, rfl⟩ := hb
   cases hq : Nat.beq t1 t2
   ·rw [hq] at h; cases h
    have hne : t1 ≠ t2 := fun e => by rw [e, Nat.beq_refl] at hq; cases hq
    simp [Op.equalIn, run_underlying hd, hne]
   ·rw [hq] at h; cases h
  ·cases h
 ·cases h
theorem Zl5 {t : Nat} {d : TypeDesc} (hd : P.underlying t = some d) (ha : ZqT d = false) {vs : List Value} {o : Nat} {v : Value} (h : vs[o]? = some v) : (Go.part t vs.toArray o).run P w = .ok v w := by
 have e : Go.part t vs.toArray o = (isAgg t).bind (fun x => if x then ((sizeOf t).bind fun k => Sem.pure (Value.agg (vs.toArray.extract o (o + k)))) else match vs.toArray[o]? with | some v => Sem.pure v | none => stuck "part: no such cell") := by
  unfold Go.part; rfl
 rw [e, Sem.run_bind', Zdm hd, ha]
 simp [Result.andThen, Sem.run, h]
theorem Zej (hR : Rel w0 σ hp n w) {x y : List CV} {vx vy : List Value} (hx : VRs σ x vx) (hy : VRs σ y vy) (m : Nat) : ∀ (fs : List Field) {r : Bool}, ZlV hp P x y fs = some r -> (Op.eqFields (m + 1) vx.toArray vy.toArray fs).run P w = .ok r w
 | [], r, h => by cases h; rfl
 | f :: fs, r, h => by
  unfold ZlV at h
  cases hn : (f.name == "_")
  ·rw [hn] at h; simp only [cond_false] at h
   have hne : f.name ≠ "_" := by simpa using hn
   split at h
   ·rename_i d hd
    have hd := Zd hd
    cases hag : ZqT d
    ·rw [hag] at h; simp only [cond_false] at h
     split at h
     ·rename_i a b hca hcb
      obtain ⟨va, g1, g2⟩ := hx.get hca
      obtain ⟨vb, g3, g4⟩ := hy.get hcb
      have p1 := Zl5 (P := P) (w := w) hd hag g1
      have p2 := Zl5 (P := P) (w := w) hd hag g3
      split at h
      ·rename_i he
       have e1 := Zb3 hR hd g2 g4 he m
       simp [Op.eqFields, hne, p1, p2, e1, Zej hR hx hy m fs h]
      ·rename_i he
       cases h
       have e1 := Zb3 hR hd g2 g4 he m
       simp [Op.eqFields, hne, p1, p2, e1]
      ·cases h
     ·cases h
    ·rw [hag] at h; cases h
   ·cases h
  ·rw [hn] at h; cases h
theorem ZcB (hR : Rel w0 σ hp n w) {t : Nat} {a b : CV} {va vb : Value} (ha : VR σ a va) (hb : VR σ b vb) {r : Bool} (h : Zh8 P hp t a b = some r) :
  (Op.equal t va vb).run P w = .ok r w /\ (∀ xs ys, va = .agg xs -> vb = .agg ys -> P.eqGuardType P.depth t = false) := by
 unfold Zh8 at h
 split at h
 ·rename_i d hd
  have hd := Zd hd
  split at h
  ·rename_i fs _
   split at h
   ·rename_i x y
    obtain ⟨hg, h⟩ := Zaz h
    cases hs : P.stoodInHeld t
    ·rw [hs] at hg; simp only [cond_false, ZxE] at hg
     simp only [VR] at ha hb; obtain ⟨vx, g1, rfl⟩ := ha; obtain ⟨vy, g2, rfl⟩ := hb
     refine ⟨?_, fun _ _ _ _ => hg⟩
     have hf : P.underlying t = some (.struct (P.fieldsOf t)) := by
      have : P.fieldsOf t = fs := by simp [Program.fieldsOf, hd]
      rw [this]; exact hd
     have hff : P.fieldsOf t = fs := by simp [Program.fieldsOf, hd]
     show (Op.equalIn (9999 + 1) t _ _).run P w = _
     rw [run_equalIn_struct w 9999 t _ _ hf hs, hff]
     exact Zej hR g1 g2 9998 _ h
    ·rw [hs] at hg; cases hg
   ·cases h
  ·rename_i hns
   refine ⟨Zb3 hR hd ha hb h 9999, fun xs ys e1 e2 => ?_⟩
   subst e1
   exfalso
   cases a <;> simp only [VR] at ha
   all_goals first | (cases ha; done) | (obtain ⟨_, _, _, hc⟩ := ha; cases hc; done) | (obtain ⟨_, _, hc⟩ := ha; cases hc; done) | (obtain ⟨_, _, _, _, _, hc, _⟩ := ha; cases hc; done) | (obtain ⟨_, _, _, _, hc⟩ := ha; cases hc; done) | skip
   all_goals (unfold Zff at h; cases d <;> simp at h)
 ·cases h
theorem Zgx {t : Nat} {a b : CV} {r : Bool} (h : Zh8 P hp t a b = some r) : a ≠ .junk /\ b ≠ .junk := by
 unfold Zh8 at h
 split at h
 ·rename_i d hd
  split at h
  ·split at h
   ·exact ⟨by simp, by simp⟩
   ·cases h
  ·constructor
   ·rintro rfl; unfold Zff at h; cases d <;> simp at h
   ·rintro rfl; unfold Zff at h; cases d <;> cases a <;> simp at h
 ·cases h
theorem Zpi {a : CV} (hj : a ≠ .junk) (ha : VR σ a .nilIface) : a = .nili := by
 cases a <;> simp only [VR] at ha
 all_goals first | rfl | exact absurd rfl hj | (cases ha; done) | (obtain ⟨_, _, _, hc⟩ := ha; cases hc; done) | (obtain ⟨_, _, hc⟩ := ha; cases hc; done) | (obtain ⟨_, _, _, _, _, hc, _⟩ := ha; cases hc; done) | (obtain ⟨_, _, _, _, hc⟩ := ha; cases hc; done)
theorem Zog {op : BinOp} {t : Nat} {x y : Operand} (h : Ze1 x = true \/ Ze1 y = true) : (eqGuard op t x y .nilIface .nilIface).run P w = .ok () w := by
 cases op <;> try rfl
 all_goals (cases x <;> cases y <;> first | rfl | (exfalso; rcases h with h | h <;> cases h))
theorem ZkW (hR : Rel w0 σ hp n w) {op : BinOp} {t : Nat} {x y : Operand} {a b : CV} {va vb : Value} (ha : VR σ a va) (hb : VR σ b vb) {r : Bool} (h : Zh8 P hp t a b = some r) (ht : Zl1 x y a b = false) :
  (eqGuard op t x y va vb).run P w = .ok () w := by
 have hg := (ZcB hR ha hb h).2
 obtain ⟨j1, j2⟩ := Zgx h
 by_cases h1 : va = .nilIface /\ vb = .nilIface
 ·obtain ⟨rfl, rfl⟩ := h1
  have := Zpi j1 ha; subst this
  have := Zpi j2 hb; subst this
  refine Zog ?_
  unfold Zl1 at ht
  cases hx : Ze1 x
  ·rw [hx] at ht; simp only [cond_false] at ht; right; simpa using ht
  ·exact .inl rfl
 ·by_cases h2 : (∃ xs, va = .agg xs) /\ (∃ ys, vb = .agg ys)
  ·obtain ⟨⟨xs, rfl⟩, ⟨ys, rfl⟩⟩ := h2
   exact run_eqGuard_agg w _ t x y _ _ (hg _ _ rfl rfl)
  ·cases op <;> try rfl
   all_goals
    cases va <;> cases vb <;> first | rfl | exact absurd ⟨rfl, rfl⟩ h1 | exact absurd ⟨⟨_, rfl⟩, ⟨_, rfl⟩⟩ h2
theorem ZnI {t : Nat} {va vb : Value} (h : ∀ i j x y, va = .int i x -> vb = .int j y -> False) (h2 : ∀ x y, va = .string x -> vb = .string y -> False)
  (h3 : ∀ i j x y, va = .float i x -> vb = .float j y -> False) (h4 : ∀ i j x y z u, va = .complex i x z -> vb = .complex j y u -> False) :
  binOp .eql t va vb = (do pure (.bool (<- Op.equal t va vb))) /\ binOp .neq t va vb = (do pure (.bool (!(<- Op.equal t va vb)))) := by
 cases va <;> cases vb <;> first | exact ⟨rfl, rfl⟩ | exact (h _ _ _ _ rfl rfl).elim | exact (h2 _ _ rfl rfl).elim | exact (h3 _ _ _ _ rfl rfl).elim | exact (h4 _ _ _ _ _ _ rfl rfl).elim
end
end Go.Cx
namespace Go.Cx
open Go.RowKit (Below)
section
variable {P : Program} {w0 : World} {σ : Sg} {hp : H} {n : Nat} {w : World} {fr : F} {ev : Operand -> Value} {k : CV -> Res} {φ : Out -> Prop}
theorem Zi7 {a : CV} (hj : a ≠ .junk) {i : IntKind} {x : Int} (ha : VR σ a (.int i x)) : ∃ k, a = .int k x := by
 cases a <;> simp only [VR] at ha
 all_goals first | exact absurd rfl hj | (cases ha; exact ⟨_, rfl⟩) | (cases ha; done) | (obtain ⟨_, _, _, hc⟩ := ha; cases hc; done) | (obtain ⟨_, _, hc⟩ := ha; cases hc; done) | (obtain ⟨_, _, _, _, _, hc, _⟩ := ha; cases hc; done) | (obtain ⟨_, _, _, _, hc⟩ := ha; cases hc; done)
theorem ZhT {a : CV} (hj : a ≠ .junk) {x : ByteArray} (ha : VR σ a (.string x)) : ∃ l m, a = .str l m := by
 cases a <;> simp only [VR] at ha
 all_goals first | exact absurd rfl hj | exact ⟨_, _, rfl⟩ | (cases ha; done) | (obtain ⟨_, _, _, hc⟩ := ha; cases hc; done) | (obtain ⟨_, _, hc⟩ := ha; cases hc; done) | (obtain ⟨_, _, _, _, _, hc, _⟩ := ha; cases hc; done) | (obtain ⟨_, _, _, _, hc⟩ := ha; cases hc; done)
theorem ZjH {a : CV} (hj : a ≠ .junk) {f : FloatKind} {x : Nat} (ha : VR σ a (.float f x)) : False := by
 cases a <;> simp only [VR] at ha
 all_goals first | exact absurd rfl hj | (cases ha; done) | (obtain ⟨_, _, _, hc⟩ := ha; cases hc; done) | (obtain ⟨_, _, hc⟩ := ha; cases hc; done) | (obtain ⟨_, _, _, _, _, hc, _⟩ := ha; cases hc; done) | (obtain ⟨_, _, _, _, hc⟩ := ha; cases hc; done)
theorem ZgI {a : CV} (hj : a ≠ .junk) {f : FloatKind} {x y : Nat} (ha : VR σ a (.complex f x y)) : False := by
 cases a <;> simp only [VR] at ha
 all_goals first | exact absurd rfl hj | (cases ha; done) | (obtain ⟨_, _, _, hc⟩ := ha; cases hc; done) | (obtain ⟨_, _, hc⟩ := ha; cases hc; done) | (obtain ⟨_, _, _, _, _, hc, _⟩ := ha; cases hc; done) | (obtain ⟨_, _, _, _, hc⟩ := ha; cases hc; done)
theorem q_bin (hR : Rel w0 σ hp n w) (hL : ∀ x, VR σ (lk fr x) (ev x)) {op : BinOp} {t : Nat} {x y : Operand} (h : Zr (Zr7 P fr hp op t x y k) φ) :
  QR P σ w (do eqGuard op t x y (ev x) (ev y); binOp op t (ev x) (ev y)) k φ := by
 unfold Zr7 at h
 have hx := hL x
 have hy := hL y
 split at h
 ·rename_i kd a kd' b e1 e2
  rw [e1] at hx; rw [e2] at hy
  simp only [VR] at hx hy
  have key : QR P σ w (binOp op t (.int (kc kd) a) (.int (kc kd') b)) k φ := by
   split at h
   ·exact q_sh t (.inl rfl) h
   ·exact q_sh t (.inr rfl) h
   ·rename_i n1 n2
    obtain ⟨g, h2⟩ := h.bif
    have := ZxG g; subst this
    exact q_int t (fun e => n1 e) (fun e => n2 e) h2
  obtain ⟨c, v, g1, g2, g3⟩ := key
  rw [hx, hy]
  exact ⟨c, v, Z8 rfl g1, g2, g3⟩
 ·rename_i l m l' m' e1 e2
  rw [e1] at hx; rw [e2] at hy
  simp only [VR] at hx hy
  obtain ⟨c, v, g1, g2, g3⟩ := q_str (P := P) (σ := σ) (w := w) t h
  rw [hx, hy]
  exact ⟨c, v, Z8 rfl g1, g2, g3⟩
 ·rename_i n1 n2
  cases ht : Zl1 x y (lk fr x) (lk fr y)
  ·rw [ht] at h; simp only [cond_false] at h
   have pre : ∀ {r : Bool}, Zh8 P hp t (lk fr x) (lk fr y) = some r -> binOp .eql t (ev x) (ev y) = (do pure (.bool (<- Op.equal t (ev x) (ev y)))) /\ binOp .neq t (ev x) (ev y) = (do pure (.bool (!(<- Op.equal t (ev x) (ev y))))) := fun hr => by
    obtain ⟨j1, j2⟩ := Zgx hr
    refine ZnI (fun i j a b e1 e2 => ?_) (fun a b e1 e2 => ?_) (fun i j a b e1 e2 => ?_) (fun i j a b c d e1 e2 => ?_)
    ·rw [e1] at hx; rw [e2] at hy
     obtain ⟨k1, q1⟩ := Zi7 j1 hx; obtain ⟨k2, q2⟩ := Zi7 j2 hy
     exact n1 _ _ _ _ q1 q2
    ·rw [e1] at hx; rw [e2] at hy
     obtain ⟨k1, m1, q1⟩ := ZhT j1 hx; obtain ⟨k2, m2, q2⟩ := ZhT j2 hy
     exact n2 _ _ _ _ q1 q2
    ·rw [e1] at hx; exact ZjH j1 hx
    ·rw [e1] at hx; exact ZgI j1 hx
   split at h
   ·split at h
    ·rename_i r hr
     have e := (ZcB hR hx hy hr).1
     refine ⟨_, .bool r, ?_, by simp only [VR], h⟩
     have g := ZkW hR hx hy hr ht (op := .eql)
     have e2 : (do eqGuard .eql t x y (ev x) (ev y); binOp .eql t (ev x) (ev y) : Sem Value) = (eqGuard .eql t x y (ev x) (ev y)).bind fun _ => binOp .eql t (ev x) (ev y) := rfl
     rw [e2, Sem.run_bind', g]; simp only [Result.andThen]
     rw [(pre hr).1]
     rw [show (do pure (.bool (<- Op.equal t (ev x) (ev y))) : Sem Value) = (Op.equal t (ev x) (ev y)).bind (fun r => Sem.pure (.bool r)) from rfl, Sem.run_bind', e]
     rfl
    ·exact h.no.elim
   ·split at h
    ·rename_i r hr
     have e := (ZcB hR hx hy hr).1
     refine ⟨_, .bool (!r), ?_, by simp only [VR], h⟩
     have g := ZkW hR hx hy hr ht (op := .neq)
     have e2 : (do eqGuard .neq t x y (ev x) (ev y); binOp .neq t (ev x) (ev y) : Sem Value) = (eqGuard .neq t x y (ev x) (ev y)).bind fun _ => binOp .neq t (ev x) (ev y) := rfl
     rw [e2, Sem.run_bind', g]; simp only [Result.andThen]
     rw [(pre hr).2]
     rw [show (do pure (.bool (!(<- Op.equal t (ev x) (ev y)))) : Sem Value) = (Op.equal t (ev x) (ev y)).bind (fun r => Sem.pure (.bool (!r))) from rfl, Sem.run_bind', e]
     rfl
    ·exact h.no.elim
   ·exact h.no.elim
  ·rw [ht] at h; exact h.no.elim
theorem q_un (hL : ∀ x, VR σ (lk fr x) (ev x)) {op : UnOp} {x : Operand} (h : Zr (qUn fr op x k) φ) : QR P σ w (Op.unary op (ev x)) k φ := by
 unfold qUn at h
 have hx := hL x
 split at h
 ·rename_i b e; rw [e] at hx; simp only [VR] at hx
  exact ⟨_, .bool (!b), by rw [hx]; rfl, by simp only [VR], h⟩
 ·rename_i kd m e; rw [e] at hx; simp only [VR] at hx
  rw [Zbt] at h
  exact ⟨_, _, by rw [hx]; rfl, by simp only [VR], h⟩
 ·rename_i kd m e; rw [e] at hx; simp only [VR] at hx
  exact ⟨_, _, by rw [hx]; rfl, by simp only [VR], h⟩
 ·exact h.no.elim
theorem Zsh (hR : Rel w0 σ hp n w) (hL : ∀ x, VR σ (lk fr x) (ev x)) {src dst : Nat} {x : Operand} (h : Zr (Zmx P fr hp src dst x k) φ) : QR P σ w (convert src dst (ev x)) k φ := by
 unfold Zmx at h
 have hx := hL x
 split at h
 ·rename_i kd k' m hd e; rw [e] at hx; simp only [VR] at hx
  split at h
  ·rename_i ds hs
   rw [Zbt, ZhM] at h
   refine ⟨_, .int kd (kd.wrap m), ?_, by simp only [VR, ZhM], h⟩
   rw [hx]
   have h1 := Zd hd; have h2 := Zd hs
   cases ds <;> simp [convert, run_underlying h1, run_underlying h2, Conv.intToInt]
  ·exact h.no.elim
 ·rename_i l m hd e; rw [e] at hx; simp only [VR] at hx
  split at h
  ·rename_i ds hs
   refine ⟨_, .string ⟨(bys l m).toArray⟩, ?_, by simp only [VR], h⟩
   rw [hx]
   have h1 := Zd hd; have h2 := Zd hs
   cases ds <;> simp [convert, run_underlying h1, run_underlying h2]
  ·exact h.no.elim
 ·rename_i hd e; rw [e] at hx; simp only [VR] at hx
  split at h
  ·rename_i el hs
   obtain ⟨hu, h⟩ := h.bif
   refine ⟨_, .string ⟨(bys 0 0).toArray⟩, ?_, by simp only [VR], h⟩
   rw [hx, run_convert_bytes_string w src dst el none 0 0 (Zd hs) (ZbZ hu) (Zd hd)]; rfl
  ·exact h.no.elim
 ·rename_i b o s l kk ex hd e; rw [e] at hx; simp only [VR] at hx
  obtain ⟨p, u, o', c, hs, hv, hlk, hkc, hex, ho, hle, heq⟩ := hx
  split at h
  ·rename_i el hsl
   obtain ⟨hu, h'⟩ := h.bif
   clear h
   split at h'
   ·rename_i m y hb
    have hrow := (hR.at hs hb (by simp)).1
    cases hl0 : Nat.beq l 0
    ·rw [hl0] at h'; simp only [cond_false] at h'
     obtain ⟨hom, h⟩ := h'.bif
     clear h'
     have hom := ZxS hom
     have hl1 : l ≠ 0 := fun e => by rw [e] at hl0; cases hl0
     have hoo := ho (.inl (by omega)); subst hoo
     refine ⟨_, .string ⟨(bys l (ZhI y o' l)).toArray⟩, ?_, by simp only [VR], h⟩
     rw [hv]
     have := run_convert_bytes_back (P := P) w src dst el ⟨p, o', none⟩ c (bys l (ZhI y o' l)) (Zd hsl) (ZbZ hu) (Zd hd) (fun j hj => by
      rw [add_eq]
      rw [Zl] at hj
      refine (Row.cell hrow ?_).1
      rw [ZxB]
      have e1 := ZgT m y o' l hom
      have e2 : (bys m y)[o' + j]? = some (bys l (ZhI y o' l))[j] := by
       have : (bys l (ZhI y o' l))[j]? = some (bys l (ZhI y o' l))[j] := ZxI (by rw [Zl]; exact hj)
       rw [<- this, <- e1, List.getElem?_take_of_lt hj, Zx4]
      rw [e2]; rfl)
     rw [Zl] at this; exact this
    ·rw [hl0] at h'; simp only [cond_true] at h'
     have := ZxG hl0; subst this
     refine ⟨_, .string ⟨(bys 0 0).toArray⟩, ?_, by simp only [VR], h'⟩
     rw [hv]
     exact run_convert_bytes_back (P := P) w src dst el ⟨p, o', none⟩ c [] (Zd hsl) (ZbZ hu) (Zd hd) (fun j hj => by simp at hj)
   ·exact h'.no.elim
  ·exact h.no.elim
 ·exact h.no.elim
theorem Zp2 (hL : ∀ x, VR σ (lk fr x) (ev x)) {t : Operand} {ix : Nat} (h : Zr (Zdd fr t ix k) φ) : QR P σ w (Instr.extract (ev t) ix) k φ := by
 unfold Zdd at h
 have hx := hL t
 split at h
 ·rename_i vs e; rw [e] at hx; simp only [VR] at hx
  obtain ⟨ws, h1, hv⟩ := hx
  split at h
  ·rename_i c hc
   obtain ⟨y, g1, g2⟩ := h1.get hc
   exact ⟨_, y, by rw [hv]; simp [Instr.extract, g1], g2, h⟩
  ·exact h.no.elim
 ·exact h.no.elim
theorem ZuZ (hL : ∀ x, VR σ (lk fr x) (ev x)) {t : Nat} {x : Operand} (h : Zr (ZlW P fr t x k) φ) : QR P σ w (Instr.makeInterface t (ev x)) k φ := by
 unfold ZlW at h
 split at h
 ·exact h.no.elim
 ·rename_i d hni hd
  have h1 := Zd hd
  split at h
  ·exact h.no.elim
  ·refine ⟨_, .iface t (ev x), ?_, by simp only [VR]; exact ⟨_, hL x, rfl⟩, h⟩
   cases d <;> first | exact (hni _ rfl).elim | simp [Instr.makeInterface, run_underlying h1]
 ·exact h.no.elim
theorem Zm2 (hL : ∀ x, VR σ (lk fr x) (ev x)) : ∀ (l : List Operand), VRs σ (lks fr l) (l.map ev)
 | [] => by simp only [lks, VRs, List.map_nil]
 | x :: l => by simp only [lks, VRs, ZxO]; exact ⟨_, _, rfl, hL x, Zm2 hL l⟩
theorem amap (a : Array Operand) : a.map ev = (a.toList.map ev).toArray := by apply Array.ext'; simp
theorem Ztb (hL : ∀ x, VR σ (lk fr x) (ev x)) {fn : Fn} {first caps : Array Operand} (h : Zr (ZlF fr fn first caps k) φ) : QR P σ w (Instr.makeFunc fn (first.map ev) (caps.map ev)) k φ := by
 unfold ZlF at h
 split at h
 ·rename_i f
  exact ⟨_, _, rfl, by simp only [VR]; exact ⟨_, _, Zm2 hL _, Zm2 hL _, by rw [amap, amap]⟩, h⟩
 ·rename_i name
  split at h
  ·rename_i x e1 e2
   have hx := hL x
   split at h
   ·rename_i t v e
    rw [e] at hx
    have f1 : first = #[x] := by rw [<- Array.toArray_toList (xs := first), e1]
    have f2 : caps = #[] := by rw [<- Array.toArray_toList (xs := caps), e2]
    subst f1; subst f2
    exact ⟨_, _, rfl, by simp only [VR] at hx ⊢; exact ⟨_, hx, by simp⟩, h⟩
   ·exact h.no.elim
  ·exact h.no.elim
 ·exact h.no.elim
end
end Go.Cx
namespace Go.Cx
open Go.RowKit (Below)
section
variable {P : Program} {w0 : World} {σ : Sg} {hp : H} {n : Nat} {w : World} {fr : F} {ev : Operand -> Value} {k : CV -> Res} {φ : Out -> Prop}
theorem ZdO {t : Nat} {c : CV} (h : ZgD P t = some c) : ∃ i zv, P.info? t = some i /\ i.zero = some zv /\ VR σ c zv := by
 unfold ZgD at h
 split at h
 ·rename_i i hi
  split at h
  ·rename_i zv hz; cases h; exact ⟨i, zv, Yy hi, hz, ZoW _⟩
  ·cases h
 ·cases h
/-! ### Maps -/
theorem Zfg {d : TypeDesc} {x y : CV} {vx vy : Value} (hx : VR σ x vx) (hy : VR σ y vy) {b : Bool} (h : ZkI x y = some b)
  (hd : (∃ kd k a, d = .int kd /\ x = .int k a) \/ (d = .string /\ ∃ l m, x = .str l m) \/ (d = .bool /\ ∃ a, x = .bool a) \/ (∃ e, d = .pointer e) /\ ∃ a o, x = .ptr a o) : Instr.sameNow d vx vy = some b := by
 unfold ZkI at h
 split at h
 ·rename_i k a j c
  obtain ⟨h1, h2⟩ := Zaz h
  have := ZxG h1; subst this
  cases h2
  simp only [VR] at hx hy; subst hx; subst hy
  rcases hd with ⟨kd, _, _, rfl, _⟩ | ⟨_, _, _, hc⟩ | ⟨_, _, hc⟩ | ⟨_, _, _, hc⟩
  ·simp [Instr.sameNow, ZaT]
  ·cases hc
  ·cases hc
  ·cases hc
 ·simp only [VR] at hx hy; subst hx; subst hy; cases h
  rcases hd with ⟨kd, _, _, rfl, hc⟩ | ⟨_, _, _, hc⟩ | ⟨rfl, _, hc⟩ | ⟨_, _, _, hc⟩
  ·cases hc
  ·cases hc
  ·simp [Instr.sameNow, ZeQ]
  ·cases hc
 ·rename_i l m l' m'
  simp only [VR] at hx hy; subst hx; subst hy; cases h
  rcases hd with ⟨kd, _, _, rfl, hc⟩ | ⟨rfl, _, _, hc⟩ | ⟨rfl, _, hc⟩ | ⟨_, _, _, hc⟩
  ·cases hc
  ·simp only [Instr.sameNow]; rw [beq_toListBytes, ZX, ZX, Zfk]
  ·cases hc
  ·cases hc
 ·cases h
def KeyD (d : TypeDesc) (x : CV) : Prop := (∃ kd k a, d = .int kd /\ x = .int k a) \/ (d = .string /\ ∃ l m, x = .str l m) \/ (d = .bool /\ ∃ a, x = .bool a) \/ (∃ e, d = .pointer e) /\ ∃ a o, x = .ptr a o
theorem ZaF {t : Nat} {x : CV} (h : ZdN P t x = true) : ∃ d, P.underlying t = some d /\ KeyD d x := by
 unfold ZdN at h
 split at h
 ·rename_i hd; exact ⟨_, Zd hd, .inl ⟨_, _, _, rfl, rfl⟩⟩
 ·rename_i hd; exact ⟨_, Zd hd, .inr (.inl ⟨rfl, _, _, rfl⟩)⟩
 ·rename_i hd; exact ⟨_, Zd hd, .inr (.inr (.inl ⟨rfl, _, rfl⟩))⟩
 ·rename_i hd; exact ⟨_, Zd hd, .inr (.inr (.inr ⟨⟨_, rfl⟩, _, _, rfl⟩))⟩
 ·cases h
theorem Zau {b : Bool} {kt : TypeId} {d : TypeDesc} {x : CV} (hk : P.underlying kt = some d) (hd : KeyD d x) (v : Value) (w : World) : (Instr.checkKey b 10000 kt v).run P w = .ok () w := by
 rw [show (10000 : Nat) = 9999 + 1 from rfl, Instr.checkKey]
 rcases hd with ⟨_, _, _, rfl, _⟩ | ⟨rfl, _⟩ | ⟨rfl, _⟩ | ⟨⟨_, rfl⟩, _⟩ <;> simp [run_underlying hk]
def Same2 (σ : Sg) : Option (Nat × CV) -> Option (Nat × Value) -> Prop
 | none, none => True
 | some (j, v), some (j', v') => j = j' /\ VR σ v v'
 | _, _ => False
theorem ZT {d : TypeDesc} {x : CV} {vx : Value} (hx : VR σ x vx) (hd : KeyD d x) : ∀ {es : List Ent} {ms : List MapEntry} {i : Nat} {r : Option (Nat × CV)}, Zy σ es ms -> Zg9 x es i = some r →
  ∃ r', Instr.findNow d vx ms i = some r' /\ Same2 σ r r'
 | [], ms, i, r, he, h => by cases he; cases h; exact ⟨none, rfl, trivial⟩
 | e :: es, ms, i, r, he, h => by
  unfold Zy at he
  obtain ⟨m, ns, rfl, h1, h2, h3, h4⟩ := he
  unfold Zg9 at h
  split at h
  ·rename_i hk
   cases h
   exact ⟨some (i, m.val), by unfold Instr.findNow; rw [Zfg hx h1 hk hd], rfl, h2⟩
  ·rename_i hk
   obtain ⟨r', g1, g2⟩ := ZT hx hd h4 h
   exact ⟨r', by unfold Instr.findNow; rw [Zfg hx h1 hk hd]; exact g1, g2⟩
  ·cases h
theorem Zy.len : ∀ {es : List Ent} {ms : List MapEntry}, Zy σ es ms -> es.length = ms.length
 | [], _, h => by cases h; rfl
 | e :: es, _, h => by unfold Zy at h; obtain ⟨m, ns, rfl, _, _, _, h4⟩ := h; simp [Zy.len h4]
theorem Z9 {kt : TypeId} {d : TypeDesc} (hk : P.underlying kt = some d) {v : Value} {ms : List MapEntry} {r : Option (Nat × Value)} (h : Instr.findNow d v ms 0 = some r) (w : World) : (Instr.findKey kt v ms).run P w = .ok r w := by
 simp [Instr.findKey, run_underlying hk, h]
theorem ZiH (hR : Rel w0 σ hp n w) {x : CV} {vx : Value} (hx : VR σ x vx) {es : List Ent} (h : Zow hp x = some es) :
  ∃ ms : List MapEntry, Zy σ es ms /\ ((vx = .map none /\ ms = []) \/ ∃ b c, vx = .map (some b) /\ w.heap[b]? = some (.map ms.toArray c)) := by
 unfold Zow at h
 split at h
 ·simp only [VR] at hx; cases h
  exact ⟨[], rfl, .inl ⟨hx, rfl⟩⟩
 ·rename_i b; simp only [VR] at hx
  obtain ⟨p, u, hs, hv⟩ := hx
  split at h
  ·rename_i es c hb
   cases h
   obtain ⟨ms, g1, g2⟩ := hR.at hs hb (by simp)
   exact ⟨ms, g1, .inr ⟨p, c, hv, g2⟩⟩
  ·cases h
 ·cases h
theorem Zcb {t kt et : TypeId} (ht : P.underlying t = some (.map kt et)) {vx vi : Value} {ms : List MapEntry} (he : (vx = .map none /\ ms = []) \/ ∃ b c, vx = .map (some b) /\ w.heap[b]? = some (.map ms.toArray c))
  (hck : ∀ b, (Instr.checkKey b 10000 kt vi).run P w = .ok () w) {r : Option (Nat × Value)} (hf : (Instr.findKey kt vi ms).run P w = .ok r w) (ok : Bool) :
  (∀ j v, r = some (j, v) -> (Instr.lookup t vx vi ok).run P w = .ok (if ok then .tuple #[v, .bool true] else v) w) ∧
  (r = none -> ∀ z, (zeroValue et).run P w = .ok z w -> (Instr.lookup t vx vi ok).run P w = .ok (if ok then .tuple #[z, .bool false] else z) w) := by
 rcases he with ⟨rfl, rfl⟩ | ⟨b, c, rfl, hb⟩
 ·constructor
  ·rintro j v rfl; simp [Instr.lookup, run_underlying ht, hck, hf]
  ·rintro rfl z hz; simp [Instr.lookup, run_underlying ht, hck, hf, hz]
 ·have hg : (getObj b).run P w = .ok (.map ms.toArray c) w := by simp [getObj, Sem.run, hb]
  constructor
  ·rintro j v rfl; simp [Instr.lookup, run_underlying ht, hck, hf, hg]
  ·rintro rfl z hz; simp [Instr.lookup, run_underlying ht, hck, hf, hg, hz]
theorem Zod {ok : Bool} {c : CV} {v : Value} (b : Bool) (h : VR σ c v) : VR σ (bif ok then .tup [c, .bool b] else c) (if ok then .tuple #[v, .bool b] else v) := by
 cases ok
 ·simpa using h
 ·simp only [cond_true, if_true, VR, VRs]; exact ⟨_, ⟨_, _, rfl, h, _, _, rfl, rfl, rfl⟩, rfl⟩
theorem ZwB (hR : Rel w0 σ hp n w) (hL : ∀ x, VR σ (lk fr x) (ev x)) {t : Nat} {x ix : Operand} {ok : Bool} (h : Zr (Zrc P fr hp t x ix ok k) φ) : QR P σ w (Instr.lookup t (ev x) (ev ix) ok) k φ := by
 unfold Zrc at h
 split at h
 ·rename_i kt et ht
  obtain ⟨hkk, h2⟩ := h.bif
  clear h
  have ht := Zd ht
  obtain ⟨d, hk, hd⟩ := ZaF hkk
  split at h2
  ·rename_i es hes
   obtain ⟨ms, g1, g2⟩ := ZiH hR (hL x) hes
   split at h2
   ·rename_i j v hf
    obtain ⟨r', g3, g4⟩ := ZT (hL ix) hd g1 hf
    cases r' with
    | none => exact g4.elim
    | some p =>
     obtain ⟨j', mv⟩ := p
     exact ⟨_, _, (Zcb ht g2 (fun b => Zau hk hd _ w) (Z9 hk g3 w) ok).1 _ _ rfl, Zod true g4.2, h2⟩
   ·rename_i hf
    obtain ⟨r', g3, g4⟩ := ZT (hL ix) hd g1 hf
    cases r' with
    | some p => exact g4.elim
    | none =>
     split at h2
     ·rename_i v hz
      obtain ⟨i, zv, z1, z2, z3⟩ := ZdO hz
      exact ⟨_, _, (Zcb ht g2 (fun b => Zau hk hd _ w) (Z9 hk g3 w) ok).2 rfl _ (Zq z1 z2 w), Zod false z3, h2⟩
     ·exact h2.no.elim
   ·exact h2.no.elim
  ·exact h2.no.elim
 ·exact h.no.elim
/-! ### Builtins -/
theorem q_len (hR : Rel w0 σ hp n w) {x : CV} {vx : Value} (hx : VR σ x vx) {t ty : Nat} {ts : Array Nat} (h0 : ts[0]? = some t) (h : Zr (Zwo P hp x t k) φ) : QR P σ w (Builtin.len_ ts ty #[vx]) k φ := by
 unfold Zwo at h
 split at h
 ·rename_i l m hd; simp only [VR] at hx; subst hx
  have hz : (⟨(bys l m).toArray⟩ : ByteArray).size = l := by simp [ByteArray.size, Zl]
  exact ⟨_, .int .i64 l, by simp [Builtin.len_, h0, run_underlying (Zd hd), goInt, hz], by simp only [VR]; rfl, h⟩
 ·rename_i e hd; simp only [VR] at hx; subst hx
  exact ⟨_, .int .i64 0, by simp [Builtin.len_, h0, run_underlying (Zd hd), goInt], by simp only [VR]; rfl, h⟩
 ·rename_i e b o s l kk ex hd; simp only [VR] at hx; obtain ⟨_, _, _, _, _, rfl, _⟩ := hx
  exact ⟨_, .int .i64 l, by simp [Builtin.len_, h0, run_underlying (Zd hd), goInt], by simp only [VR]; rfl, h⟩
 ·rename_i kt e hd; simp only [VR] at hx; subst hx
  exact ⟨_, .int .i64 0, by simp [Builtin.len_, h0, run_underlying (Zd hd), goInt], by simp only [VR]; rfl, h⟩
 ·rename_i kt e b hd; simp only [VR] at hx; obtain ⟨p, u, hs, rfl⟩ := hx
  split at h
  ·rename_i es c hb
   obtain ⟨ms, g1, g2⟩ := hR.at hs hb (by simp)
   have hg : (getObj p).run P w = .ok (.map ms.toArray c) w := by simp [getObj, Sem.run, g2]
   exact ⟨_, .int .i64 es.length, by simp [Builtin.len_, h0, run_underlying (Zd hd), goInt, hg, g1.len], by simp only [VR]; rfl, h⟩
  ·exact h.no.elim
 ·rename_i m e hd
  exact ⟨_, .int .i64 m, by simp [Builtin.len_, h0, run_underlying (Zd hd), goInt], by simp only [VR]; rfl, h⟩
 ·exact h.no.elim
theorem q_cap {x : CV} {vx : Value} (hx : VR σ x vx) {t ty : Nat} {ts : Array Nat} (h0 : ts[0]? = some t) (h : Zr (qCap P x t k) φ) : QR P σ w (Builtin.cap_ ts ty #[vx]) k φ := by
 unfold qCap at h
 split at h
 ·rename_i e hd; simp only [VR] at hx; subst hx
  exact ⟨_, .int .i64 0, by simp [Builtin.cap_, h0, run_underlying (Zd hd), goInt], by simp only [VR]; rfl, h⟩
 ·rename_i e b o s l c hd; simp only [VR] at hx; obtain ⟨_, _, _, cc, _, rfl, _, _, hex, _⟩ := hx
  have := hex trivial; subst this
  exact ⟨_, .int .i64 cc, by simp [Builtin.cap_, h0, run_underlying (Zd hd), goInt], by simp only [VR]; rfl, h⟩
 ·exact h.no.elim
theorem q_max {x y : CV} {vx vy : Value} (hx : VR σ x vx) (hy : VR σ y vy) {ty : Nat} {ts : Array Nat} (h : Zr (ZdJ true x y k) φ) : QR P σ w (Builtin.max_ ts ty #[vx, vy]) k φ := by
 unfold ZdJ at h
 split at h
 ·rename_i kd a kd' b
  obtain ⟨_, h2⟩ := h.bif
  simp only [VR] at hx hy; subst hx; subst hy
  exact ⟨_, .int (kc kd) (if b > a then b else a), by simp [Builtin.max_, Builtin.max2], by simp only [VR, cond_true], h2⟩
 ·exact h.no.elim
theorem q_min {x y : CV} {vx vy : Value} (hx : VR σ x vx) (hy : VR σ y vy) {ty : Nat} {ts : Array Nat} (h : Zr (ZdJ false x y k) φ) : QR P σ w (Builtin.min_ ts ty #[vx, vy]) k φ := by
 unfold ZdJ at h
 split at h
 ·rename_i kd a kd' b
  obtain ⟨_, h2⟩ := h.bif
  simp only [VR] at hx hy; subst hx; subst hy
  exact ⟨_, .int (kc kd) (if b < a then b else a), by simp [Builtin.min_, Builtin.min2], by simp only [VR, cond_false], h2⟩
 ·exact h.no.elim
theorem ZbC {c : Call} {l : List Operand} (h : c.args.toList = l) : c.args.map ev = (l.map ev).toArray := by rw [amap, h]
theorem Zpd (hR : Rel w0 σ hp n w) (hL : ∀ x, VR σ (lk fr x) (ev x)) {c : Call} {b : Builtin} {ty : Nat} (h : Zr (Ziy P fr hp b c.args.toList c.argTypes.toList k) φ) {consts : Array Bool} :
  ∃ cv v, (builtin b c.argTypes ty consts (c.args.map ev)).run P w = .ok (.value v) w /\ VR σ cv v /\ Zr (k cv) φ := by
 unfold Ziy at h
 split at h
 ·rename_i x t ts ha ht
  have h0 : c.argTypes[0]? = some t := by rw [<- Zxu, ht]; rfl
  obtain ⟨cv, v, g1, g2, g3⟩ := q_len (ty := ty) hR (hL x) h0 h
  refine ⟨cv, v, ?_, g2, g3⟩
  rw [ZbC ha]
  exact Zz g1
 ·rename_i x t ts ha ht
  have h0 : c.argTypes[0]? = some t := by rw [<- Zxu, ht]; rfl
  obtain ⟨cv, v, g1, g2, g3⟩ := q_cap (P := P) (w := w) (ty := ty) (hL x) h0 h
  refine ⟨cv, v, ?_, g2, g3⟩
  rw [ZbC ha]
  exact Zz g1
 ·rename_i x y ha
  obtain ⟨cv, v, g1, g2, g3⟩ := q_max (P := P) (w := w) (ty := ty) (ts := c.argTypes) (hL x) (hL y) h
  refine ⟨cv, v, ?_, g2, g3⟩
  rw [ZbC ha]
  exact Zz g1
 ·rename_i x y ha
  obtain ⟨cv, v, g1, g2, g3⟩ := q_min (P := P) (w := w) (ty := ty) (ts := c.argTypes) (hL x) (hL y) h
  refine ⟨cv, v, ?_, g2, g3⟩
  rw [ZbC ha]
  exact Zz g1
 ·exact h.no.elim
/-! ### Structs -/
theorem Za3 (off : Nat) : ∀ (vs : List Value) (k : Nat) (cs : Array Value), off + k + vs.length <= cs.size →
  ((vs.zipIdx k).foldl (fun cs (p : Value × Nat) => cs.setIfInBounds (off + p.2) p.1) cs).toList = cs.toList.take (off + k) ++ vs ++ cs.toList.drop (off + k + vs.length)
 | [], k, cs, h => by simp
 | v :: vs, k, cs, h => by
  simp only [List.zipIdx_cons, List.foldl_cons]
  rw [Za3 off vs (k + 1) _ (by simp at h ⊢; omega)]
  simp only [Array.toList_setIfInBounds, ZxZ]
  simp only [ZxZ] at h
  have hlt : off + k < cs.toList.length := by simp; omega
  apply List.ext_getElem?
  intro i
  simp only [List.getElem?_append, ZxH, ZxK, List.length_set, List.getElem?_take, Zx4, ZxZ, Array.length_toList]
  have hsz : (off + (k + 1)) <= cs.size := by omega
  rw [Nat.min_eq_left hsz, Nat.min_eq_left (show off + k <= cs.size by omega)]
  by_cases h1 : i < off + k
  ·rw [if_pos (show i < off + (k + 1) + vs.length by omega), if_pos (show i < off + (k + 1) by omega), if_pos (show i < off + (k + 1) by omega), if_pos (show i < off + k + (vs.length + 1) by omega), if_pos h1, if_pos h1]
   rw [List.getElem?_set_ne (by omega)]
  ·by_cases h2 : i = off + k
   ·subst h2
    rw [if_pos (show off + k < off + (k + 1) + vs.length by omega), if_pos (show off + k < off + (k + 1) by omega), if_pos (show off + k < off + (k + 1) by omega), if_pos (show off + k < off + k + (vs.length + 1) by omega), if_neg h1]
    rw [List.getElem?_set_self (by simpa using hlt)]
    simp
   ·by_cases h3 : i < off + (k + 1) + vs.length
    ·rw [if_pos h3, if_neg (show ¬ i < off + (k + 1) by omega), if_pos (show i < off + k + (vs.length + 1) by omega), if_neg h1]
     rw [show i - (off + k) = (i - (off + (k + 1))) + 1 by omega, List.getElem?_cons_succ]
    ·rw [if_neg h3, if_neg (show ¬ i < off + k + (vs.length + 1) by omega)]
     rw [List.getElem?_set_ne (by omega)]
     congr 1; omega
theorem Zbg (hL : ∀ x, VR σ (lk fr x) (ev x)) {place : Nat -> Option (Nat × Nat)} : ∀ (parts : List (Nat × Operand)) (cs r : List CV) (vs : List Value), VRs σ cs vs -> ZjB place fr parts cs = some r →
  ∃ ws, Instr.fill place vs.toArray (parts.map fun (i, x) => (i, ev x)) = some ws.toArray /\ VRs σ r ws
 | [], cs, r, vs, hv, h => by cases h; exact ⟨vs, rfl, hv⟩
 | (i, x) :: rest, cs, r, vs, hv, h => by
  unfold ZjB at h
  split at h
  ·rename_i off size hpl
   obtain ⟨h1, h4⟩ := Zaz h
   have hj : lk fr x ≠ .junk := by intro e; rw [e] at h1; cases h1
   have h1 : (cellsOf (lk fr x)).length = size := by
    split at h1
    ·cases h1
    ·exact ZxG h1
   have hc := Zg3 hj (hL x)
   split at h4
   ·rename_i cs' hov
    obtain ⟨g1, g2⟩ := VRs.put hc hv hov
    obtain ⟨ws, f1, f2⟩ := Zbg hL rest cs' r _ g1 h4
    refine ⟨ws, ?_, f2⟩
    have hsz : (ev x).cells.size = size := by rw [<- Array.length_toList, <- hc.len, h1]
    simp only [ZxO, Instr.fill, hpl]
    rw [if_neg (by rw [hsz]; simp only [Array.length_toList, hsz] at g2; simp; omega)]
    rw [<- f1]
    congr 1
    apply Array.ext'
    rw [<- Array.foldl_toList, Array.toList_zipIdx]
    have := Za3 off (ev x).cells.toList 0 vs.toArray (by simp only [List.size_toArray, Array.length_toList] at g2 ⊢; omega)
    simpa using this
   ·cases h4
  ·cases h
theorem ZbT : ∀ (fs : List Field), ZqN P fs = true -> ∃ places, fs.mapM (fun f => (P.info? f.type).map fun i => (f.offset, i.size)) = some places /\ ∀ i : Nat, places[i]? = ZeZ P fs i
 | [], _ => ⟨[], rfl, by intro i; simp [ZeZ, Zdu]⟩
 | f :: fs, h => by
  unfold ZqN at h
  split at h
  ·rename_i n hn
   obtain ⟨pl, h1, h2⟩ := ZbT fs h
   obtain ⟨i, hi, rfl⟩ := Zc1 hn
   refine ⟨(f.offset, i.size) :: pl, by simp [List.mapM_cons, hi, h1], ?_⟩
   intro j
   cases j with
   | zero => simp [ZeZ, Zdu, hn]
   | succ j => simp only [List.getElem?_cons_succ]; rw [h2 j]; rfl
  ·cases h
theorem Zu0 (hL : ∀ x, VR σ (lk fr x) (ev x)) {t : Nat} {parts : Array (Nat × Operand)} (h : Zr (Zk2 P fr t parts k) φ) : QR P σ w (Instr.build t (parts.map fun (i, x) => (i, ev x))) k φ := by
 unfold Zk2 at h
 have hparts : (parts.map fun (i, x) => (i, ev x)).toList = parts.toList.map fun (i, x) => (i, ev x) := by simp
 split at h
 ·rename_i z hz
  obtain ⟨i, zv, z1, z2, z3⟩ := YK (σ := σ) hz
  split at h
  ·rename_i fs hd
   have hu := Zd hd
   obtain ⟨ha, h2⟩ := h.bif
   clear h
   split at h2
   ·rename_i cs hcs
    obtain ⟨pl, p1, p2⟩ := ZbT fs.toList ha
    obtain ⟨ws, f1, f2⟩ := Zbg hL _ _ _ _ z3 hcs
    refine ⟨_, .agg ws.toArray, run_build w t _ _ ?_, by simp only [VR]; exact ⟨ws, f2, rfl⟩, h2⟩
    unfold Program.built
    rw [z1, hu]
    simp only [z2, p1, hparts]
    have e1 : (fun x : Nat => pl.toArray[x]?) = ZeZ P fs.toList := by
     funext x; simp only [List.getElem?_toArray]; exact p2 x
    rw [e1]
    simpa using f1
   ·exact h2.no.elim
  ·rename_i m e hd
   have hu := Zd hd
   split at h
   ·rename_i s hs
    split at h
    ·rename_i cs hcs
     obtain ⟨ws, f1, f2⟩ := Zbg hL _ _ _ _ z3 hcs
     refine ⟨_, .agg ws.toArray, run_build w t _ _ ?_, by simp only [VR]; exact ⟨ws, f2, rfl⟩, h⟩
     obtain ⟨ie, hie, rfl⟩ := Zc1 hs
     unfold Program.built
     rw [z1, hu]
     simp only [z2, hie, hparts]
     simpa using f1
    ·exact h.no.elim
   ·exact h.no.elim
  ·exact h.no.elim
 ·exact h.no.elim
/-! ### Assertions -/
theorem ZnM {v : Value} (h : VR σ .nili v) : v = .nilIface := by simpa only [VR] using h
theorem ZqZ (hL : ∀ x, VR σ (lk fr x) (ev x)) {t xt : Nat} {x : Operand} {ok : Bool} (h : Zr (ZgP P fr x xt t ok k) φ) : QR P σ w (Instr.typeAssert (ev x) xt t ok) k φ := by
 unfold ZgP at h
 have hx := hL x
 have zero : ∀ {v : CV}, ZgD P t = some v -> ∃ zv, (zeroValue t).run P w = .ok zv w /\ VR σ (.tup [v, .bool false]) (.tuple #[zv, .bool false]) := fun hz => by
  obtain ⟨i, zv, z1, z2, z3⟩ := ZdO (σ := σ) hz
  exact ⟨zv, Zq z1 z2 w, Zod (ok := true) false z3⟩
 split at h
 ·rename_i want hd
  have hu := Zd hd
  split at h
  ·rename_i d v e; rw [e] at hx
   have hx' := hx
   simp only [VR] at hx; obtain ⟨y, hy, hv⟩ := hx
   split at h
   ·rename_i i hi
    have hi := Yy hi
    split at h
    ·rename_i hm
     refine ⟨_, _, ?_, Zod (ok := ok) true hx', h⟩
     rw [hv]; simp [Instr.typeAssert, run_underlying hu, typeInfo, hi, hm]
    ·rename_i m hm
     obtain ⟨hok, h2⟩ := h.bif
     clear h
     subst hok
     split at h2
     ·rename_i z hz
      obtain ⟨zv, r1, r2⟩ := zero hz
      refine ⟨_, _, ?_, r2, h2⟩
      rw [hv]; simp [Instr.typeAssert, run_underlying hu, typeInfo, hi, hm, r1]
     ·exact h2.no.elim
   ·exact h.no.elim
  ·rename_i e; rw [e] at hx; have hv := ZnM hx
   obtain ⟨hok, h2⟩ := h.bif
   clear h
   subst hok
   split at h2
   ·rename_i z hz
    obtain ⟨zv, r1, r2⟩ := zero hz
    refine ⟨_, _, ?_, r2, h2⟩
    rw [hv]; simp [Instr.typeAssert, run_underlying hu, r1]
   ·exact h2.no.elim
  ·exact h.no.elim
 ·rename_i d hni hd
  have hu := Zd hd
  split at h
  ·rename_i u v e; rw [e] at hx
   simp only [VR] at hx; obtain ⟨y, hy, hv⟩ := hx
   have e0 : (Instr.typeAssert (ev x) xt t ok).run P w = (if u = t then (pure (if ok then .tuple #[y, .bool true] else y) : Sem Value).run P w else (do if ok then pure (.tuple #[<- zeroValue t, .bool false]) else runtimePanic (.typeAssertion (some xt) (some u) t "") : Sem Value).run P w) := by
    rw [hv]
    cases d <;> first | exact (hni _ rfl).elim | (by_cases hut : u = t <;> simp [Instr.typeAssert, run_underlying hu, hut])
   cases hq : Nat.beq u t
   ·rw [hq] at h; simp only [cond_false] at h
    have hne : u ≠ t := fun e => by rw [e, Nat.beq_refl] at hq; cases hq
    obtain ⟨hok, h2⟩ := h.bif
    clear h
    subst hok
    split at h2
    ·rename_i z hz
     obtain ⟨zv, r1, r2⟩ := zero hz
     refine ⟨_, _, ?_, r2, h2⟩
     rw [e0, if_neg hne]; simp [r1]
    ·exact h2.no.elim
   ·rw [hq] at h; simp only [cond_true] at h
    have := ZxG hq
    refine ⟨_, _, ?_, Zod (ok := ok) true hy, h⟩
    rw [e0, if_pos this]; rfl
  ·rename_i e; rw [e] at hx; have hv := ZnM hx
   obtain ⟨hok, h2⟩ := h.bif
   clear h
   subst hok
   split at h2
   ·rename_i z hz
    obtain ⟨zv, r1, r2⟩ := zero hz
    refine ⟨_, _, ?_, r2, h2⟩
    rw [hv]
    cases d <;> first | exact (hni _ rfl).elim | simp [Instr.typeAssert, run_underlying hu, r1]
   ·exact h2.no.elim
  ·exact h.no.elim
 ·exact h.no.elim
/-! ### The whole -/
theorem Zhh (name : String) : ∀ l : List Method, Zrp name l = l.find? (fun m => m.name == name)
 | [] => rfl
 | m :: l => by
  unfold Zrp
  rw [List.find?_cons, Zhh name l]
  cases m.name == name <;> rfl
theorem Zh6 {t f : Nat} {name : String} (h : ZaD P t name = some f) (v : Value) (w : World) : (nilAhead (P.types.size + Made.depth) t v name).run P w = .ok (some false) w := by
 unfold ZaD at h
 split at h
 ·rename_i i hi
  have hsz : 0 < P.types.size := by
   unfold tyI at hi
   rw [Zhk, Zxu] at hi
   have := (Array.getElem?_eq_some_iff.1 hi).1; omega
  obtain ⟨fu, hfu⟩ : ∃ fu, P.types.size + Made.depth = fu + 1 := ⟨P.types.size + Made.depth - 1, by omega⟩
  rw [hfu]
  have hi := Yy hi
  rw [Zhh, Array.find?_toList] at h
  split at h
  ·rename_i m hm
   split at h
   ·rename_i f' e hp hf ht
    simp [nilAhead, typeInfo, hi, hm, hp, followBlind, hf]
   ·cases h
   ·rename_i f' d hd hp hf ht
    have hu := Zd ht
    cases d <;> first | exact (hd _ rfl).elim | exact (hd _ _ rfl).elim | exact (hd _ _ hf rfl).elim | simp [nilAhead, typeInfo, hi, hm, hp, followBlind, hf, run_underlying hu]
   ·cases h
  ·cases h
 ·cases h
theorem Zap (hR : Rel w0 σ hp n w) (hL : ∀ x, VR σ (lk fr x) (ev x)) {o : Oper} (h : Zr (qev P fr hp o.op k) φ) :
  ∃ c v, (execOp ev o).run P w = .ok (.value v) w /\ VR σ c v /\ Zr (k c) φ := by
 have fin : ∀ {s : Sem Value}, QR P σ w s k φ -> ∃ c v, (do pure (Next.value (<- s)) : Sem Next).run P w = .ok (.value v) w /\ VR σ c v /\ Zr (k c) φ :=
  fun ⟨c, v, h1, h2, h3⟩ => ⟨c, v, Zz h1, h2, h3⟩
 unfold execOp
 generalize ho : o.op = op at h ⊢
 unfold qev at h
 split at h
 ·exact ⟨_, _, rfl, hL _, h⟩
 ·exact ⟨_, _, rfl, hL _, h⟩
 ·exact Zxr hL h
 ·exact fin (ZwG hR hL h)
 ·rename_i x
  unfold qNil at h
  have hx := hL x
  split at h
  ·exact h.no.elim
  ·exact h.no.elim
  ·exact h.no.elim
  ·exact h.no.elim
  ·rename_i name v he
   split at h
   ·rename_i t u
    split at h
    ·rename_i f hm
     refine ⟨_, ev x, ?_, ?_, h⟩
     ·rw [he] at hx; simp only [VR] at hx
      obtain ⟨y, ⟨z, hz, rfl⟩, hv⟩ := hx
      have hn := fun w => Zh6 hm z w
      simp only [hv]
      have e0 : (#[Value.iface t z] : Array Value)[0]? = some (Value.iface t z) := rfl
      simp only [e0]
      simp [Sem.run_bind, run_program, hn]
     ·rw [he] at hx; exact hx
    ·exact h.no.elim
   ·exact h.no.elim
  ·rename_i n1 n2 n3 n4 n5
   refine ⟨_, ev x, ?_, hx, h⟩
   simp only
   have key : ∀ v : Value, VR σ (lk fr x) v -> ((match v with
    | .pointer none | .nilIface | .nilFunc => runtimePanic .nilDeref
    | .func (.method name) first captured =>
     match (first[0]? : Option Value) with
     | some .nilIface => runtimePanic .nilDeref
     | some (.iface t w) => do
      if (<- nilAhead ((<- program).types.size + Made.depth) t w name) != some false then
       unsupported (.noEntry "op/nilCheck.the method's receiver behind this interface value is a nil pointer, or cannot be seen to be none, and the arguments act or may panic (ledger 612)")
      pure (.value (.func (.method name) first captured))
     | _ => pure (.value (.func (.method name) first captured))
    | x => pure (.value x) : Sem Next)).run P w = .ok (.value v) w := by
    intro v hx
    cases hc : lk fr x <;> rw [hc] at hx <;> simp only [VR] at hx
    all_goals first
     | exact absurd hc n1 | exact absurd hc n2 | exact absurd hc n3 | exact absurd hc n4 | exact absurd hc (n5 _ _)
     | (subst hx; rfl) | (obtain ⟨_, _, _, _, _, rfl, _⟩ := hx; rfl) | (obtain ⟨_, _, _, _, rfl⟩ := hx; rfl) | (obtain ⟨_, _, _, rfl⟩ := hx; rfl) | (obtain ⟨_, _, rfl⟩ := hx; rfl)
   exact key (ev x) hx
 ·exact fin (q_bin hR hL h)
 ·exact fin (q_un hL h)
 ·exact fin (Zsh hR hL h)
 ·exact fin (ZuZ hL h)
 ·exact fin (Ztb hL h)
 ·exact fin (ZtZ hR hL h)
 ·exact fin (ZqH hL h)
 ·exact fin (Ztd hL h)
 ·exact fin (Zq3 hL h)
 ·exact fin (ZsX hL h)
 ·exact fin (ZwB hR hL h)
 ·exact fin (ZqZ hL h)
 ·exact fin (Zp2 hL h)
 ·exact fin (Zu0 hL h)
 ·rename_i c
  unfold Zq8 at h
  split at h
  ·rename_i b hb
   obtain ⟨cv, v, g1, g2, g3⟩ := Zpd (ty := o.type) hR hL h (consts := c.args.map fun | .const _ => true | _ => false)
   refine ⟨cv, v, ?_, g2, g3⟩
   simp only [resolve, hb]
   exact g1
  ·exact h.no.elim
 ·exact h.no.elim
end
end Go.Cx
namespace Go.Cx
open Go.RowKit (Below)
theorem Zon {P : Program} {s : Sem Unit} {w w' : World} (h : s.run P w = .ok () w') : (do s; pure Next.skip : Sem Next).run P w = .ok .skip w' := by
 have : (do s; pure Next.skip : Sem Next) = s.bind (fun _ => Sem.pure Next.skip) := rfl
 rw [this, Sem.run_bind', h]; rfl
def Nle (n m : Nat) : Prop := idN n <= idN m /\ Yg m = Yg n
theorem Nle.refl (n : Nat) : Nle n n := ⟨Zxv _, rfl⟩
theorem Nle.trans {a b c : Nat} (h : Nle a b) (k : Nle b c) : Nle a c := ⟨Nat.le_trans h.1 k.1, k.2.trans h.2⟩
theorem Ex.trans {σ τ υ : Sg} {n m : Nat} (h : Ex n σ τ) (hn : Nle n m) (k : Ex m τ υ) : Ex n σ υ :=
 ⟨h.1.trans k.1, fun i hi => by rw [k.2 i (fun ⟨a, b⟩ => hi ⟨Nat.le_trans hn.1 a, by rw [<- hn.2]; exact b⟩), h.2 i hi]⟩
section
variable {P : Program} {w0 : World} {σ : Sg} {hp : H} {n : Nat} {w : World} {fr : F} {ev : Operand -> Value} {k : KS} {φ : Out -> Prop}
def LR (P : Program) (w0 : World) (σ : Sg) (n : Nat) (w : World) (s : Sem Next) (k : KS) (φ : Out -> Prop) : Prop :=
 ∃ w' c hp' n' σ', ((∃ v, s.run P w = .ok (.value v) w' /\ VR σ' c v) \/ (s.run P w = .ok .skip w' /\ c = .tup [])) /\ Rel w0 σ' hp' n' w' /\ Ex n σ σ' /\ Nle n n' /\ Zr (k c hp' n') φ
theorem LR.val {s : Sem Value} {w' : World} {c : CV} {v : Value} {hp' : H} {n' : Nat} {σ' : Sg} (h : s.run P w = .ok v w') (hv : VR σ' c v) (hR : Rel w0 σ' hp' n' w') (hx : Ex n σ σ') (hn : Nle n n') (hk : Zr (k c hp' n') φ) :
  LR P w0 σ n w (do pure (Next.value (<- s)) : Sem Next) k φ := ⟨w', c, hp', n', σ', .inl ⟨v, Zz h, hv⟩, hR, hx, hn, hk⟩
theorem LR.unit {s : Sem Unit} {w' : World} {hp' : H} {n' : Nat} {σ' : Sg} (h : s.run P w = .ok () w') (hR : Rel w0 σ' hp' n' w') (hx : Ex n σ σ') (hn : Nle n n') (hk : Zr (k (.tup []) hp' n') φ) :
  LR P w0 σ n w (do s; pure Next.skip : Sem Next) k φ := ⟨w', _, hp', n', σ', .inr ⟨Zon h, rfl⟩, hR, hx, hn, hk⟩
theorem ZL (hR : Rel w0 σ hp n w) {c : Ck} {v : Nat -> CV} (h : Zr (Y9 hp n c v k) φ) (o : Obj) (t : Nat)
  (hc : ∀ τ, Le σ τ -> τ (idN n) = some (w.heap.size, t) -> YM τ { w with heap := w.heap.push o } w.heap.size t c) :
  ∃ σ', σ' (idN n) = some (w.heap.size, t) /\ Rel w0 σ' (YH hp (idN n) c) (n + 1) { w with heap := w.heap.push o } /\ Ex n σ σ' /\ Nle n (n + 1) /\ Zr (k (v (idN n)) (YH hp (idN n) c) (n + 1)) φ := by
 unfold Y9 at h
 obtain ⟨h1, h2⟩ := h.bif
 have h1 : idN n < Yg n := by simpa [Nat.blt_eq] using h1
 obtain ⟨e1, e2⟩ := ZhN h1 hR.lim
 have hf : σ (idN n) = none := hR.fresh _ (Zxv _) h1
 refine ⟨_, YT _ _ _, hR.new (by have := hR.lim; omega) hf o hc e2 (fun j hj _ => ⟨by omega, by omega⟩), ⟨Le.upd hf, fun i hi => ?_⟩, ⟨by omega, e2⟩, h2⟩
 unfold Zkp
 rw [if_neg (fun e => hi ⟨by omega, by omega⟩)]
theorem Row.new {w : World} {vs : List Value} {arr : Array Value} {ty : TypeId} {fz : Bool} {spare : List Value} (h : arr.toList = vs ++ spare) : Row { w with heap := w.heap.push (.cells arr ty) } w.heap.size arr.size vs fz :=
 ⟨arr, ty, 0, 0, ZE w _, rfl, ⟨spare, h⟩, .inl ⟨rfl, rfl⟩⟩
theorem Yv (t : TypeId) (cells : Array Value) (w : World) : (newRow t cells).run P w = .ok ⟨w.heap.size, 0, none⟩ { w with heap := w.heap.push (.cells cells t) } := by
 simp [newRow, newObj, Sem.run]
theorem Zf7 (t : TypeId) (v : Value) (w : World) : (newVar t v).run P w = .ok ⟨w.heap.size, 0, none⟩ { w with heap := w.heap.push (.cells v.cells t) } := Yv t v.cells w
theorem ZlG (hR : Rel w0 σ hp n w) {cs : List CV} {v : Value} {t : TypeId} (hc : VRs σ cs v.cells.toList) (h : Zr (Zjz hp n cs k) φ) :
  LR P w0 σ n w (do pure (Next.value (<- (do pure (.pointer (some (<- newVar t v))) : Sem Value))) : Sem Next) k φ := by
 obtain ⟨σ', s1, s2, s3, s4, s5⟩ := ZL hR h (.cells v.cells t) v.cells.size (fun τ hle _ => ⟨_, hc.mono hle, Row.new (spare := []) (by simp)⟩)
 exact LR.val (v := .pointer (some ⟨w.heap.size, 0, none⟩)) (by simp [Zf7]) (by simp only [VR]; exact ⟨_, _, s1, rfl⟩) s2 s3 s4 s5
theorem Zmv (hR : Rel w0 σ hp n w) {cs : List CV} {v : Value} {t : TypeId} (hc : VRs σ cs v.cells.toList) (h : Zr (bif Nat.beq t ZwJ then Y9 hp n (.tcells cs) (fun i => .ptr i 0) k else Zjz hp n cs k) φ) :
  LR P w0 σ n w (do pure (Next.value (<- (do pure (.pointer (some (<- newVar t v))) : Sem Value))) : Sem Next) k φ := by
 cases ht : Nat.beq t ZwJ
 ·rw [ht] at h; exact ZlG hR hc h
 ·rw [ht] at h; simp only [cond_true] at h
  have ht := ZxG ht
  obtain ⟨σ', s1, s2, s3, s4, s5⟩ := ZL hR h (.cells v.cells t) v.cells.size (fun τ hle _ => ⟨_, hc.mono hle, Row.new (spare := []) (by simp), by rw [<- ht]; exact ⟨_, _, ZE w _⟩, by rw [hc.len, Array.length_toList]⟩)
  exact LR.val (v := .pointer (some ⟨w.heap.size, 0, none⟩)) (by simp [Zf7]) (by simp only [VR]; exact ⟨_, _, s1, rfl⟩) s2 s3 s4 s5
theorem ZuE (hR : Rel w0 σ hp n w) {t : Nat} (h : Zr (ZiC P hp n t k) φ) : LR P w0 σ n w (do pure (Next.value (<- Instr.alloc t true (.tuple #[]))) : Sem Next) k φ := by
 unfold ZiC at h
 split at h
 ·rename_i cs hz
  obtain ⟨i, zv, z1, z2, z3⟩ := YK (σ := σ) hz
  have := Zmv (P := P) (t := t) hR z3 h
  have e : ∀ w, (Instr.alloc t true (.tuple #[])).run P w = (do pure (.pointer (some (<- newVar t zv))) : Sem Value).run P w := by
   intro w; simp [Instr.alloc, Zq z1 z2]
  obtain ⟨w', c, hp', n', σ', h1, h2⟩ := this
  refine ⟨w', c, hp', n', σ', ?_, h2⟩
  rcases h1 with ⟨v, hv, hr⟩ | ⟨hv, hr⟩
  ·refine .inl ⟨v, ?_, hr⟩
   rw [<- hv]
   show (Sem.bind _ _).run P w = (Sem.bind _ _).run P w
   rw [Sem.run_bind', Sem.run_bind', e]
  ·refine .inr ⟨?_, hr⟩
   rw [<- hv]
   show (Sem.bind _ _).run P w = (Sem.bind _ _).run P w
   rw [Sem.run_bind', Sem.run_bind', e]
 ·exact h.no.elim
theorem l_box (hR : Rel w0 σ hp n w) (hL : ∀ x, VR σ (lk fr x) (ev x)) {t : Nat} {x : Operand} (h : Zr (lBox fr hp n t x k) φ) : LR P w0 σ n w (do pure (Next.value (<- Instr.box t (ev x))) : Sem Next) k φ := by
 unfold lBox at h
 split at h
 ·exact h.no.elim
 ·rename_i hj
  exact ZlG hR (Zg3 hj (hL x)) h
/-! ### Writing -/
theorem ZaX : ∀ {cs : List CV} {vs : List Value}, VRs σ cs vs -> ZbE cs = true -> ∀ v ∈ vs, v.oneCell' = true
 | [], vs, h, _, v, hv => by simp only [VRs] at h; subst h; cases hv
 | c :: cs, vs, h, ha, v, hv => by
  simp only [VRs] at h; obtain ⟨u, ws, rfl, h1, h2⟩ := h
  unfold ZbE at ha
  cases hc : ZoR c
  ·rw [hc] at ha; cases ha
  ·rw [hc] at ha; simp only [cond_true] at ha
   rcases List.mem_cons.1 hv with rfl | hv
   ·cases c <;> simp only [VR] at h1 <;> first | (cases hc; done) | (subst h1; rfl) | (obtain ⟨_, _, _, _, _, rfl, _⟩ := h1; rfl) | (obtain ⟨_, _, _, _, rfl⟩ := h1; rfl) | (obtain ⟨_, _, _, rfl⟩ := h1; rfl) | (obtain ⟨_, _, rfl⟩ := h1; rfl)
   ·exact ZaX h2 ha v hv
theorem ZaE (g o : Nat) (t : TypeId) (fz : Nat × Nat) : ∀ (vs : List Value) (i : Nat) (cur : Array Value) (w : World), w.heap[g]? = some (.cells cur t fz) -> (fz = (0, 0) \/ cur.size <= fz.1) -> o + i + vs.length <= cur.size -> (∀ v ∈ vs, v.oneCell' = true) →
  (storeCells ⟨g, o, none⟩ vs i).run P w = .ok () (w.setRow g (cur.toList.take (o + i) ++ vs ++ cur.toList.drop (o + i + vs.length)).toArray)
 | [], i, cur, w, hg, _, _, _ => by
  simp only [storeCells, List.append_nil, List.length_nil, Nat.add_zero, List.take_append_drop, Array.toArray_toList]
  rw [setRow_self w g cur t fz hg]
  rfl
 | v :: rest, i, cur, w, hg, hfz, hl, h1 => by
  have hi : o + i < cur.size := by simp at hl; omega
  have hcell : w.cell? ⟨g, o + i, none⟩ = some cur[o + i] := by simp [World.cell?, hg, hi]
  have hfro : w.frozen? ⟨g, o + i, none⟩ = false := by
   obtain ⟨lo, hi'⟩ := fz
   simp only [World.frozen?, hg]
   rcases hfz with h | h
   ·cases h; simp
   ·simp at h ⊢; omega
  have hst : (store ((⟨g, o, none⟩ : Addr).add i) v).run P w = .ok () (w.setRow g (cur.setIfInBounds (o + i) v)) := by
   rw [add_eq, run_store P w _ v _ (h1 v (by simp)), hcell]
   simp [hfro, setCell_eq_setRow w g (o + i) cur t fz v hg]
  have ih := ZaE g o t fz rest (i + 1) (cur.setIfInBounds (o + i) v) (w.setRow g (cur.setIfInBounds (o + i) v)) (setRow_heap w g cur _ t _ hg) (by simpa using hfz) (by simp at hl ⊢; omega) (fun x hx => h1 x (by simp [hx]))
  simp only [storeCells, Sem.run_bind, hst, Result.andThen_ok, ih, setRow_setRow]
  congr 3
  have e := list_seg_step cur.toList (o + i) v rest (by simp at hl ⊢; omega)
  simpa [Array.toList_setIfInBounds, Nat.add_assoc] using e
theorem Ziu (w : World) (g k : Nat) (cs : Array Value) (h : k ≠ g) : (w.setRow g cs).heap[k]? = w.heap[k]? := by
 unfold World.setRow
 show (w.heap.modify g _)[k]? = _
 rw [Array.getElem?_modify, if_neg (fun e => h e.symm)]
theorem Zkh (w : World) (g : Nat) (cs : Array Value) : (w.setRow g cs).heap.size = w.heap.size := by
 unfold World.setRow; simp
theorem Row.write' {p t : Nat} {vs : List Value} {fz : Bool} (h : Row w p t vs fz) {o : Nat} {new : List Value} (h1 : o <= vs.length) (hfit : o + new.length <= t) (hone : ∀ v ∈ new, v.oneCell' = true) :
  ∃ w', (storeCells ⟨p, o, none⟩ new).run P w = .ok () w' /\ Row w' p t (vs.take o ++ new ++ vs.drop (o + new.length)) fz /\ w'.heap.size = w.heap.size /\ (∀ k, k ≠ p -> w'.heap[k]? = w.heap[k]?) ∧
   w'.os = w.os /\ w'.tape = w.tape /\ w'.output = w.output /\ (∀ T, Zm4 w p T -> Zm4 w' p T) := by
 obtain ⟨arr, ty, lo, hi, g1, g2, ⟨sp, g3⟩, g4⟩ := h
 have hfz : (lo, hi) = (0, 0) \/ arr.size <= (lo, hi).1 := by
  rcases g4 with ⟨rfl, rfl⟩ | ⟨_, g⟩
  ·exact .inl rfl
  ·exact .inr (by rw [g2]; exact g)
 have hr := ZaE (P := P) p o ty (lo, hi) new 0 arr w g1 hfz (by rw [g2]; omega) hone
 refine ⟨_, hr, ⟨_, ty, lo, hi, setRow_heap w p arr _ ty _ g1, ?_, ⟨sp.drop (o + new.length - vs.length), ?_⟩, g4⟩, Zkh _ _ _, fun k hk => Ziu _ _ _ _ hk, rfl, rfl, rfl, fun T ⟨a, z, ha⟩ => by rw [g1] at ha; cases ha; exact ⟨_, _, setRow_heap w p arr _ ty _ g1⟩⟩
 ·have : arr.toList.length = t := by simpa using g2
  simp only [List.size_toArray, ZxK, ZxH, ZxT, Nat.add_zero]; omega
 ·simp only [Nat.add_zero]
  rw [g3, List.take_append_of_le_length h1, List.drop_append, Zx3, Zx3, Zx3]
theorem Row.write {p t : Nat} {vs : List Value} {fz : Bool} (h : Row w p t vs fz) {o : Nat} {new : List Value} (h1 : o <= vs.length) (hfit : o + new.length <= t) (hone : ∀ v ∈ new, v.oneCell' = true) :
  ∃ w', (storeCells ⟨p, o, none⟩ new).run P w = .ok () w' /\ Row w' p t (vs.take o ++ new ++ vs.drop (o + new.length)) fz /\ w'.heap.size = w.heap.size /\ (∀ k, k ≠ p -> w'.heap[k]? = w.heap[k]?) ∧
   w'.os = w.os /\ w'.tape = w.tape /\ w'.output = w.output := by
 obtain ⟨w', a, b, c, d, e, f, g, _⟩ := Row.write' (P := P) h h1 hfit hone
 exact ⟨w', a, b, c, d, e, f, g⟩
theorem ZcH {c : CV} {x : Nat} (h : Zl9 c = some x) : c = .int 4 (.ofNat x) /\ x < 256 := by
 unfold Zl9 at h
 split at h
 ·rename_i m
  obtain ⟨h1, h2⟩ := Zaz h
  cases h2
  have := ZxS h1
  exact ⟨rfl, by omega⟩
 ·cases h
theorem ZbH : ∀ {cs : List CV} {x : Nat} {vs : List Value}, Zfm cs = some x -> VRs σ cs vs -> vs = (bys cs.length x).map Zcm
 | [], x, vs, h, hv => by simp only [VRs] at hv; subst hv; rfl
 | c :: cs, x, vs, h, hv => by
  simp only [VRs] at hv; obtain ⟨u, ws, rfl, h1, h2⟩ := hv
  unfold Zfm at h
  split at h
  ·rename_i y hy
   split at h
   ·rename_i z hz
    cases h
    obtain ⟨rfl, hlt⟩ := ZcH hy
    have ih := ZbH hz h2
    simp only [VR] at h1; subst h1
    simp only [ZxZ, bys, ZxO]
    rw [show (y + 256 * z) % 256 = y by omega, show (y + 256 * z) / 256 = z by omega, <- ih]
    congr 1
    simp only [Zcm, kc]; congr 1; rw [ZdV y hlt]; rfl
   ·cases h
  ·cases h
theorem Zg7 (l : List UInt8) : ∀ v ∈ l.map Zcm, v.oneCell' = true := by
 intro v hv; obtain ⟨b, _, rfl⟩ := List.mem_map.1 hv; rfl
theorem Zqg (hR : Rel w0 σ hp n w) {b o p t : Nat} {cs : List CV} {vs : List Value} {hp' : H} (h : wrN hp b o cs = some hp') (hs : σ b = some (p, t)) (hv : VRs σ cs vs) :
  ∃ w', (storeCells ⟨p, o, none⟩ vs).run P w = .ok () w' /\ Rel w0 σ hp' n w' := by
 unfold wrN at h
 split at h
 ·rename_i old hc
  obtain ⟨ha, h⟩ := Zaz h
  split at h
  ·rename_i new hn
   cases h
   obtain ⟨ws, h1, h2⟩ := hR.at hs hc (by simp)
   obtain ⟨g1, g2⟩ := VRs.put hv h1 hn
   have hle : ws.length <= t := by obtain ⟨arr, _, _, _, _, q1, ⟨sp, q2⟩, _⟩ := h2; have := congrArg List.length q2; simp at this; omega
   obtain ⟨w', r1, r2, r3, r4, r5, r6, r7⟩ := h2.write (P := P) (o := o) (new := vs) (by omega) (by omega) (ZaX hv ha)
   exact ⟨w', r1, hR.upd hs (by rw [hc]; simp) r3 r4 r5 r6 r7 ⟨_, g1, r2⟩⟩
  ·cases h
 ·rename_i l m hc
  obtain ⟨ha, h⟩ := Zaz h
  have ha := ZxS ha
  split at h
  ·rename_i x hx
   cases h
   obtain ⟨h2, hT⟩ := hR.at hs hc (by simp)
   have hvs := ZbH hx hv
   have hvl : vs.length = cs.length := hv.len.symm
   have hle : l <= t := by obtain ⟨arr, _, _, _, _, q1, ⟨sp, q2⟩, _⟩ := h2; have := congrArg List.length q2; simp [Zl] at this; omega
   obtain ⟨w', r1, r2, r3, r4, r5, r6, r7, r8⟩ := Row.write' (P := P) (o := o) (new := vs) h2 (by simp [Zl]; omega) (by omega) (by rw [hvs]; exact Zg7 _)
   refine ⟨w', r1, hR.upd hs (by rw [hc]; simp) r3 r4 r5 r6 r7 ⟨?_, r8 _ hT⟩⟩
   show Row w' p t ((bys l (ZsY m o cs.length x l)).map Zcm) true
   rw [Zqq _ _ _ _ _ ha, ZxV, ZxV, <- hvs, List.map_take, List.map_drop, <- hvl]
   exact r2
  ·cases h
 ·rename_i old hc
  obtain ⟨ha, h⟩ := Zaz h
  split at h
  ·rename_i new hn
   cases h
   obtain ⟨ws, h1, h2, hT, hlen⟩ := hR.at hs hc (by simp)
   obtain ⟨g1, g2⟩ := VRs.put hv h1 hn
   have hle : ws.length <= t := by obtain ⟨arr, _, _, _, _, q1, ⟨sp, q2⟩, _⟩ := h2; have := congrArg List.length q2; simp at this; omega
   obtain ⟨w', r1, r2, r3, r4, r5, r6, r7, r8⟩ := h2.write' (P := P) (o := o) (new := vs) (by omega) (by omega) (ZaX hv ha)
   exact ⟨w', r1, hR.upd hs (by rw [hc]; simp) r3 r4 r5 r6 r7 ⟨_, g1, r2, r8 _ hT, by rw [g1.len]; have := h1.len; simp only [ZxK, ZxH, ZxT]; omega⟩⟩
  ·cases h
 ·cases h
theorem ZuY (hR : Rel w0 σ hp n w) (hL : ∀ x, VR σ (lk fr x) (ev x)) {t : Nat} {a x : Operand} (h : Zr (Zdn P fr hp n t a x k) φ) : LR P w0 σ n w (do Instr.storeAt t (ev a) (ev x); pure Next.skip : Sem Next) k φ := by
 unfold Zdn at h
 have ha := hL a
 split at h
 ·rename_i b o he
  rw [he] at ha; simp only [VR] at ha
  obtain ⟨p, u, hs, hv⟩ := ha
  split at h
  ·rename_i sz hsz
   split at h
   ·exact h.no.elim
   ·rename_i hj
    obtain ⟨h1, h2⟩ := h.bif
    clear h
    have h1 := ZxG h1
    have hc := Zg3 hj (hL x)
    split at h2
    ·rename_i hp' hw
     obtain ⟨w', r1, r2⟩ := Zqg (P := P) hR hw hs hc
     refine LR.unit (w' := w') ?_ r2 (Ex.refl _ _) (Nle.refl _) h2
     rw [hv]
     have hsize : (ev x).cells.size = sz := by rw [<- Array.length_toList, <- hc.len, h1]
     simp [Instr.storeAt, Instr.sureAddr, storeVar, Yn hsz, hsize, r1]
    ·exact h2.no.elim
  ·exact h.no.elim
 ·exact h.no.elim
end
end Go.Cx
namespace Go.Cx
open Go.RowKit (Below)
theorem ZbW (z : List Value) : ∀ n : Nat, (List.range (n * z.length)).map (fun i => z[i % z.length]!) = (List.replicate n z).flatten
 | 0 => by simp
 | n + 1 => by
  rw [Nat.succ_mul, Nat.add_comm, List.range_add, ZxV, List.replicate_succ, List.flatten_cons, <- ZbW z n]
  congr 1
  ·apply List.ext_getElem (by simp)
   intro i h1 h2
   simp at h1
   simp [Nat.mod_eq_of_lt h2, h2]
  ·rw [List.map_map]
   apply List.map_congr_left
   intro i _
   simp
theorem ZQ (z : Array Value) (n : Nat) : ((Array.range (n * z.size)).map (fun i => z[i % z.size]!)).toList = (List.replicate n z.toList).flatten := by
 rw [<- ZbW]
 simp [Array.toList_map, Array.toList_range]
 intro a _
 rw [getElem!_def]
 split <;> simp_all
section
variable {P : Program} {w0 : World} {σ : Sg} {hp : H} {n : Nat} {w : World} {fr : F} {ev : Operand -> Value} {k : KS} {φ : Out -> Prop}
theorem ZgY : ∀ m : Nat, (bys m 0).map Zcm = List.replicate m (.int .u8 0)
 | 0 => rfl
 | m + 1 => by simp only [bys, ZxO, List.replicate_succ]; rw [show (0 : Nat) / 256 = 0 from rfl, ZgY m]; rfl
theorem Zmy {e sz m : Nat} {ck : Ck} (h : ZkA P e sz m = some ck) : ∃ i zv, P.info? e = some i /\ i.zero = some zv /\ zv.cells.size = sz ∧
  ∀ (τ : Sg) (w : World) (p t : Nat), Row w p t (List.replicate m zv.cells.toList).flatten false -> Zm4 w p e -> YM τ w p t ck := by
 unfold ZkA at h
 split at h
 ·rename_i z hz
  obtain ⟨hl, h2⟩ := Zaz h
  have hl := ZxG hl
  obtain ⟨i, zv, z1, z2, z3⟩ := YK (σ := fun _ => none) hz
  have z3' : ∀ τ : Sg, VRs τ z zv.cells.toList := fun τ => by
   obtain ⟨i', zv', y1, y2, y3⟩ := YK (σ := τ) hz
   rw [z1] at y1; cases y1; rw [z2] at y2; cases y2; exact y3
  have hsz : zv.cells.size = sz := by rw [<- Array.length_toList, <- z3.len, hl]
  refine ⟨i, zv, z1, z2, hsz, fun τ w p t hr hty => ?_⟩
  cases hu : ZdI P e
  ·rw [hu] at h2; cases h2
   exact ⟨_, (z3' τ).rep m, hr⟩
  ·rw [hu] at h2; simp only [cond_true] at h2
   split at h2
   ·rename_i c
    split at h2
    ·rename_i hc
     cases h2
     obtain ⟨rfl, _⟩ := ZcH hc
     have := z3' τ
     simp only [VRs, VR] at this
     obtain ⟨v, ws, e1, e2, e3⟩ := this
     subst e2; subst e3
     refine ⟨?_, by rw [<- ZcM hu]; exact hty⟩
     show Row w p t ((bys m 0).map Zcm) true
     rw [ZgY]
     rw [e1] at hr
     obtain ⟨arr, ty, lo, hi, q1, q2, q3, q4⟩ := hr
     refine ⟨arr, ty, lo, hi, q1, q2, ?_, ?_⟩
     ·simpa [List.flatten_replicate_singleton, kc] using q3
     ·rcases q4 with q4 | ⟨q4, _⟩
      ·exact .inl q4
      ·cases q4
    ·cases h2
   ·cases h2
 ·cases h
theorem Zrn {cs : List CV} : ∀ {o : Nat} {l r : List CV}, ZhC cs o l = some r -> r.length = l.length := by
 have h0 : ∀ {cs l r : List CV}, Zek cs l = some r -> r.length = l.length := by
  intro cs
  induction cs with
  | nil => intro l r h; simp only [Zek] at h; cases h; rfl
  | cons c cs ih =>
   intro l r h
   cases l with
   | nil => simp only [Zek] at h; cases h
   | cons x l =>
    simp only [Zek] at h
    split at h
    ·rename_i q hq; cases h; simp [ih hq]
    ·cases h
 intro o
 induction o with
 | zero => intro l r h; simp only [ZhC] at h; exact h0 h
 | succ o ih =>
  intro l r h
  cases l with
  | nil => simp only [ZhC] at h; cases h
  | cons x l =>
   simp only [ZhC] at h
   split at h
   ·rename_i q hq; cases h; simp [ih hq]
   ·cases h
theorem Zh7 {place : Nat -> Option (Nat × Nat)} : ∀ (parts : List (Nat × Operand)) (cs r : List CV), ZjB place fr parts cs = some r -> r.length = cs.length
 | [], cs, r, h => by cases h; rfl
 | (i, x) :: rest, cs, r, h => by
  unfold ZjB at h
  split at h
  ·obtain ⟨_, h⟩ := Zaz h
   split at h
   ·rename_i q hq
    rw [Zh7 rest _ _ h, Zrn hq]
   ·cases h
  ·cases h
theorem Zml {c : Nat} (h : c <= 140737488355328) : IntKind.i64.wrap (c : Int) = c := by
 simp [IntKind.wrap, IntKind.bits, IntKind.signed]; omega
theorem ZtR (hR : Rel w0 σ hp n w) (hL : ∀ x, VR σ (lk fr x) (ev x)) {t : Nat} {x y : Operand} (h : Zr (ZlU P fr hp n t x y k) φ) :
  LR P w0 σ n w (do pure (Next.value (<- Instr.makeSlice t (ev x) (ev y))) : Sem Next) k φ := by
 unfold ZlU at h
 have hx := hL x
 have hy := hL y
 split at h
 ·rename_i k1 l k2 c e1 e2
  rw [e1] at hx; rw [e2] at hy
  simp only [VR] at hx hy
  obtain ⟨g1, h2⟩ := h.bif
  clear h
  have g1 := ZxS g1
  split at h2
  ·rename_i e hd
   have hu := Zd hd
   split at h2
   ·rename_i i hi
    have hi := Yy hi
    obtain ⟨g2, h3⟩ := h2.bif
    obtain ⟨g3, h4⟩ := h3.bif
    obtain ⟨g4, h5⟩ := h4.bif
    clear h2 h3 h4
    have g2 := ZxS g2
    have g3 := ZxS g3
    have g4 := ZxS g4
    split at h5
    ·rename_i ck hck
     obtain ⟨i', zv, z1, z2, z3, z4⟩ := Zmy hck
     rw [hi] at z1; cases z1
     have hcells : ((Array.range (c * i.size)).map (fun j => zv.cells[j % zv.cells.size]!)).toList = (List.replicate c zv.cells.toList).flatten := by
      rw [<- z3]; exact ZQ zv.cells c
     obtain ⟨σ', s1, s2, s3, s4, s5⟩ := ZL hR h5 (.cells ((Array.range (c * i.size)).map (fun j => zv.cells[j % zv.cells.size]!)) e) (c * i.size)
      (fun τ hle _ => z4 τ _ _ _ (by
       have := Row.new (w := w) (vs := (List.replicate c zv.cells.toList).flatten) (arr := (Array.range (c * i.size)).map (fun j => zv.cells[j % zv.cells.size]!)) (ty := e) (fz := false) (spare := []) (by rw [hcells]; simp)
       simpa using this) ⟨_, _, ZE w _⟩)
     refine LR.val (v := .slice (some ⟨w.heap.size, 0, none⟩) l c) ?_ ?_ s2 s3 s4 s5
     ·rw [hx, hy]
      have hz : (zeroValue e).run P w = .ok zv w := Zq hi z2 w
      have hsz : (sizeOf e).run P w = .ok i.size w := by simp [sizeOf, typeInfo, hi]
      have big : ¬ ((i.bytes : Int) * (c : Int) > 281474976710656) := by
       have : ((i.bytes * c : Nat) : Int) = (i.bytes : Int) * (c : Int) := by push_cast; rfl
       omega
      by_cases hc0 : c * i.size = 0
      ·have hc : c = 0 := by
        rcases Nat.mul_eq_zero.1 hc0 with h | h
        ·exact h
        ·omega
       subst hc
       have hl : l = 0 := by omega
       subst hl
       have w0' : IntKind.i64.wrap (Int.ofNat 0) = 0 := rfl
       simp only [Instr.makeSlice, Sem.run_bind, run_underlying hu, Result.andThen_ok, asInt, asIntOf, Sem.run_pure, typeInfo, run_program, hi, w0']
       simp [hsz, Yv]
       rw [show Array.range 0 = #[] from rfl]; simp
      ·have w1 : IntKind.i64.wrap (Int.ofNat c) = (c : Int) := Zml g2
       have w2 : IntKind.i64.wrap (Int.ofNat l) = (l : Int) := Zml (by omega)
       simp only [Instr.makeSlice, Sem.run_bind, run_underlying hu, Result.andThen_ok, asInt, asIntOf, Sem.run_pure, typeInfo, run_program, hi, w1, w2]
       have hcl : ¬ ((c : Int) < (l : Int)) := by omega
       have hneg : ∀ m : Nat, ¬ ((m : Int) < 0) := fun m => by omega
       have hc0' : ¬ (c = 0 \/ i.size = 0) := fun h => hc0 (by rcases h with h | h <;> rw [h] <;> simp)
       simp [hsz, hz, Yv, show ¬ (281474976710656 < (i.bytes : Int) * (c : Int)) by omega, hneg, hcl, hc0']
       exact fun h => absurd h hc0
     ·simp only [VR]
      exact ⟨_, _, _, _, s1, rfl, g1, Zxv _, fun _ => rfl, fun _ => rfl, by omega, fun e => (by cases e)⟩
    ·exact h5.no.elim
   ·exact h2.no.elim
  ·exact h2.no.elim
 ·exact h.no.elim
theorem Ztn (hR : Rel w0 σ hp n w) (hL : ∀ x, VR σ (lk fr x) (ev x)) {t : Nat} {r : Option Operand} (h : Zr (Zls P fr hp n t r k) φ) :
  LR P w0 σ n w (do pure (Next.value (<- Instr.makeMap t (r.map ev))) : Sem Next) k φ := by
 unfold Zls at h
 split at h
 ·rename_i kt et hd
  have hu := Zd hd
  have mk : ∀ {h : Zr (Y9 hp n (.map [] 0) (fun b => .map b) k) φ}, (Instr.makeMap t (r.map ev)).run P w = .ok (.map (some w.heap.size)) { w with heap := w.heap.push (.map #[] 0) } -> LR P w0 σ n w (do pure (Next.value (<- Instr.makeMap t (r.map ev))) : Sem Next) k φ := fun {h} hrun => by
   obtain ⟨σ', s1, s2, s3, s4, s5⟩ := ZL hR h (.map #[] 0) 0 (fun τ hle _ => ⟨[], rfl, ZE w _⟩)
   exact LR.val hrun (by simp only [VR]; exact ⟨_, _, s1, rfl⟩) s2 s3 s4 s5
  split at h
  ·exact mk (h := h) (by simp [Instr.makeMap, newObj, Sem.run])
  ·rename_i x
   split at h
   ·rename_i kd i e
    exact mk (h := h) (by simp [Instr.makeMap, newObj, Sem.run, run_underlying hu, Zif hL e, asInt, asIntOf])
   ·exact h.no.elim
 ·exact h.no.elim
theorem ZqM (hR : Rel w0 σ hp n w) (hL : ∀ x, VR σ (lk fr x) (ev x)) {t len : Nat} {parts : Array (Nat × Operand)} (h : Zr (ZhF P fr hp n t len parts k) φ) :
  LR P w0 σ n w (do pure (Next.value (<- Instr.buildSlice t len (parts.map fun (i, x) => (i, ev x)))) : Sem Next) k φ := by
 unfold ZhF at h
 have hparts : (parts.map fun (i, x) => (i, ev x)).toList = parts.toList.map fun (i, x) => (i, ev x) := by simp
 split at h
 ·rename_i e hd
  have hu := Zd hd
  split at h
  ·rename_i s hs
   obtain ⟨g1, h2⟩ := h.bif
   obtain ⟨g2, h3⟩ := h2.bif
   clear h h2
   have g1 := ZxS g1
   have g2 := ZxS g2
   split at h3
   ·rename_i z hz
    obtain ⟨g3, h4⟩ := h3.bif
    clear h3
    have g3 := ZxG g3
    obtain ⟨i, zv, z1, z2, z3⟩ := YK (σ := σ) hz
    have hsz : zv.cells.size = s := by rw [<- Array.length_toList, <- z3.len, g3]
    split at h4
    ·rename_i cs hcs
     obtain ⟨ws, f1, f2⟩ := Zbg hL _ _ _ _ (z3.rep len) hcs
     have hfl := f2.len
     have hcells : ((Array.range (len * s)).map (fun j => zv.cells[j % zv.cells.size]!)) = (List.replicate len zv.cells.toList).flatten.toArray := by
      apply Array.ext'; rw [<- hsz]; simpa using ZQ zv.cells len
     have hrun : (Instr.buildSlice t len (parts.map fun (i, x) => (i, ev x))).run P w = .ok (.slice (some ⟨w.heap.size, 0, none⟩) len len) { w with heap := w.heap.push (.cells ws.toArray e) } := by
      have hzr : (zeroValue e).run P w = .ok zv w := Zq z1 z2 w
      by_cases h0 : len * s = 0
      ·have hl : len = 0 := by
        rcases Nat.mul_eq_zero.1 h0 with h | h
        ·exact h
        ·omega
       subst hl
       simp only [List.replicate_zero, List.flatten_nil] at f1
       have f1' : Instr.fill (fun i => some (i * s, s)) #[] (List.map (fun x => (x.1, ev x.2)) parts.toList) = some ws.toArray := f1
       simp [Instr.buildSlice, run_underlying hu, Yn hs, hparts, Yv]
       rw [show Array.range 0 = #[] from rfl, Array.map_empty, f1']
       simp [Yv]
      ·rw [<- hcells] at f1
       have h0' : ¬ (len = 0 \/ s = 0) := fun h => h0 (by rcases h with h | h <;> rw [h] <;> simp)
       simp [Instr.buildSlice, run_underlying hu, Yn hs, hparts, hzr, h0', show ¬ (16777216 < len * s) by omega, Yv, f1]
       exact fun h => absurd h h0
     have hlen : ws.length = len * s := by
      rw [<- f2.len]
      have e1 := Zh7 _ _ _ hcs
      have : ∀ m, (ZrE z m).length = m * z.length := fun m => by
       induction m with
       | zero => simp [ZrE]
       | succ m ih => simp only [ZrE, ZxK, ih, Nat.succ_mul]; omega
      rw [e1, this, g3]
     cases hu8 : ZdI P e
     ·rw [hu8] at h4; simp only [cond_false] at h4
      obtain ⟨σ', s1, s2, s3, s4, s5⟩ := ZL hR h4 (.cells ws.toArray e) ws.length (fun τ hle _ => ⟨ws, f2.mono hle, by simpa using Row.new (w := w) (vs := ws) (arr := ws.toArray) (ty := e) (fz := false) (spare := []) (by simp)⟩)
      exact LR.val hrun (by simp only [VR]; exact ⟨_, _, _, _, s1, rfl, Zxv _, Zxv _, fun _ => rfl, fun _ => rfl, by omega, fun e => (by cases e)⟩) s2 s3 s4 s5
     ·rw [hu8] at h4; simp only [cond_true] at h4
      split at h4
      ·rename_i x hx
       obtain ⟨hs1, hx⟩ := Zaz hx
       have hb := ZbH hx f2
       have hs1 := ZxG hs1
       subst hs1
       obtain ⟨σ', s1, s2, s3, s4, s5⟩ := ZL hR h4 (.cells ws.toArray e) ws.length (fun τ hle _ => by
        have := Row.new (w := w) (vs := ws) (arr := ws.toArray) (ty := e) (fz := true) (spare := []) (by simp)
        refine ⟨?_, by rw [<- ZcM hu8]; exact ⟨_, _, ZE w _⟩⟩
        show Row _ _ _ ((bys len x).map Zcm) true
        have hcl : cs.length = len := by rw [hfl, hlen]; omega
        rw [<- hcl, <- hb]; simpa using this)
       exact LR.val hrun (by simp only [VR]; exact ⟨_, _, _, _, s1, rfl, Zxv _, Zxv _, fun _ => rfl, fun _ => rfl, by omega, fun e => (by cases e)⟩) s2 s3 s4 s5
      ·exact h4.no.elim
    ·exact h4.no.elim
   ·exact h3.no.elim
  ·exact h.no.elim
 ·exact h.no.elim
end
end Go.Cx
namespace Go.Cx
open Go.RowKit (Below)
def ZgU (w : World) (r : Nat) (o : Obj) : World := { w with heap := w.heap.setIfInBounds r o }
section
variable {P : Program} {w0 : World} {σ : Sg} {hp : H} {n : Nat} {w : World} {fr : F} {ev : Operand -> Value} {k : KS} {φ : Out -> Prop}
theorem Zpm {r : Nat} (o : Obj) (h : r < w.heap.size) : (ZgU w r o).heap[r]? = some o := by
 show (w.heap.setIfInBounds r o)[r]? = _; simp [Array.getElem?_setIfInBounds, h]
theorem Rel.put (hR : Rel w0 σ hp n w) {i p t : Nat} (hs : σ i = some (p, t)) (hl : ZC hp i ≠ .no) {o : Obj} {c : Ck} (hc : (ZgU w p o).heap[p]? = some o -> YM σ (ZgU w p o) p t c) : Rel w0 σ (YH hp i c) n (ZgU w p o) :=
 hR.upd (w' := ZgU w p o) hs hl (by simp [ZgU]) (fun k hk => by show (w.heap.setIfInBounds p o)[k]? = _; rw [Array.getElem?_setIfInBounds, if_neg (fun e => hk e.symm)]) rfl rfl rfl (hc (Zpm o (hR.old _ _ _ hs).2.2))
theorem Ye {r c : Nat} {es : Array MapEntry} (hb : w.heap[r]? = some (.map es c)) : (getObj r).run P w = .ok (.map es c) w := by simp [getObj, Sem.run, hb]
theorem Ys {r c : Nat} {es : Array MapEntry} (hb : w.heap[r]? = some (.map es c)) (o : Obj) : (setObj r o).run P w = .ok () (ZgU w r o) := by simp [setObj, Sem.run, hb, ZgU]
theorem ZoX {d : TypeDesc} {x y : CV} {vx vy : Value} (hx : VR σ x vx) (hy : VR σ y vy) (h : ZkI x y = some true) : vx = vy /\ Instr.sameBits 10000 vy vx = true := by
 unfold ZkI at h
 split at h
 ·obtain ⟨h1, h2⟩ := Zaz h
  have := ZxG h1; subst this
  rw [ZaT] at h2
  simp only [Option.some.injEq, beq_iff_eq] at h2; subst h2
  simp only [VR] at hx hy; subst hx; subst hy
  exact ⟨rfl, by simp [Instr.sameBits]⟩
 ·rw [ZeQ] at h
  simp only [Option.some.injEq, beq_iff_eq] at h; subst h
  simp only [VR] at hx hy; subst hx; subst hy
  exact ⟨rfl, by simp [Instr.sameBits]⟩
 ·rw [Zfk] at h
  simp only [Option.some.injEq, beq_iff_eq] at h
  simp only [VR] at hx hy; subst hx; subst hy
  rw [h]
  exact ⟨rfl, by simp only [Instr.sameBits]; rw [beq_toListBytes]; simp⟩
 ·cases h
theorem Zhf {x : CV} {vx : Value} (hx : VR σ x vx) : ∀ {es : List Ent} {ms : List MapEntry} {i j : Nat} {v : CV}, Zy σ es ms -> Zg9 x es i = some (some (j, v)) →
  i <= j /\ ∃ e m, es[j - i]? = some e /\ ms[j - i]? = some m /\ m.key = vx /\ Instr.sameBits 10000 m.key vx = true /\ e.val = v /\ VR σ e.val m.val /\ m.born = e.born
 | [], ms, i, j, v, he, h => by cases h
 | e :: es, ms, i, j, v, he, h => by
  unfold Zy at he
  obtain ⟨m, ns, rfl, h1, h2, h3, h4⟩ := he
  unfold Zg9 at h
  split at h
  ·rename_i hk
   cases h
   obtain ⟨e1, e2⟩ := ZoX (d := .bool) hx h1 hk
   refine ⟨Zxv _, e, m, by simp, by simp, e1.symm, e2, rfl, h2, h3⟩
  ·rename_i hk
   obtain ⟨a, e', m', b1, b2, b3⟩ := Zhf hx h4 h
   refine ⟨by omega, e', m', ?_, ?_, b3⟩
   ·rw [show j - i = (j - (i + 1)) + 1 by omega, List.getElem?_cons_succ]; exact b1
   ·rw [show j - i = (j - (i + 1)) + 1 by omega, List.getElem?_cons_succ]; exact b2
  ·cases h
theorem Zpf {x v : CV} {vx vv : Value} (hx : VR σ x vx) (hv : VR σ v vv) (f : MapEntry -> MapEntry) (hf : ∀ m, (f m).key = vx /\ (f m).born = m.born) : ∀ {es : List Ent} {ms : List MapEntry} {i : Nat}, Zy σ es ms -> (∀ m, ms[i]? = some m -> (f m).val = vv) -> Zy σ (ZsI x v i es) (ms.modify i f)
 | [], ms, i, he, _ => by cases he; cases i <;> rfl
 | e :: es, ms, i, he, hm => by
  unfold Zy at he
  obtain ⟨m, ns, rfl, h1, h2, h3, h4⟩ := he
  cases i with
  | zero =>
   have := hm m (by simp)
   simp only [ZsI, Zy, List.modify_cons, if_true]
   exact ⟨f m, ns, by simp [List.modify], by rw [(hf m).1]; exact hx, by rw [this]; exact hv, by rw [(hf m).2]; exact h3, h4⟩
  | succ i =>
   simp only [ZsI, Zy]
   exact ⟨m, ns.modify i f, by simp [List.modify], h1, h2, h3, Zpf hx hv f hf h4 (fun m' hm' => hm m' (by simpa using hm'))⟩
theorem Zy.app {es fs : List Ent} {ms ns : List MapEntry} : Zy σ es ms -> Zy σ fs ns -> Zy σ (es ++ fs) (ms ++ ns) := by
 induction es generalizing ms with
 | nil => intro h k; cases h; simpa using k
 | cons e es ih =>
  intro h k
  unfold Zy at h
  obtain ⟨m, ns', rfl, h1, h2, h3, h4⟩ := h
  simp only [List.cons_append, Zy]
  exact ⟨m, _, rfl, h1, h2, h3, ih h4 k⟩
theorem Zsk : ∀ {es : List Ent} {ms : List MapEntry} {i : Nat}, Zy σ es ms -> Zy σ (Ztm i es) (ms.eraseIdx i)
 | [], ms, i, he => by cases he; simp [Ztm, Zy]
 | e :: es, ms, i, he => by
  unfold Zy at he
  obtain ⟨m, ns, rfl, h1, h2, h3, h4⟩ := he
  cases i with
  | zero => simpa [Ztm] using h4
  | succ i =>
   simp only [Ztm, Zy, List.eraseIdx_cons_succ]
   exact ⟨m, _, rfl, h1, h2, h3, Zsk h4⟩
theorem ZaO (ms : List MapEntry) (i : Nat) (f : MapEntry -> MapEntry) : ms.toArray.modify i f = (ms.modify i f).toArray := by
 apply Array.ext'; simp
theorem ZoH (hR : Rel w0 σ hp n w) (hL : ∀ x, VR σ (lk fr x) (ev x)) {t : Nat} {m x v : Operand} (h : Zr (Zgd P fr hp n t m x v k) φ) :
  LR P w0 σ n w (do Instr.mapUpdate t (ev m) (ev x) (ev v); pure Next.skip : Sem Next) k φ := by
 unfold Zgd at h
 split at h
 ·rename_i kt et ht
  have ht := Zd ht
  obtain ⟨hkk, h2⟩ := h.bif
  clear h
  obtain ⟨d, hk, hd⟩ := ZaF hkk
  have hm := hL m
  split at h2
  ·rename_i b e; rw [e] at hm; simp only [VR] at hm
   obtain ⟨p, u, hs, hv⟩ := hm
   split at h2
   ·rename_i es clock hb
    obtain ⟨ms, g1, g2⟩ := hR.at hs hb (by simp)
    have hck := fun b w => Zau (P := P) (b := b) hk hd (ev x) w
    split at h2
    ·exact h2.no.elim
    ·rename_i hj
     split at h2
     ·rename_i i u hf
      obtain ⟨r', f1, f2⟩ := ZT (hL x) hd g1 hf
      cases r' with
      | none => exact f2.elim
      | some q =>
       obtain ⟨j', mv⟩ := q
       obtain ⟨e1, f2⟩ := f2
       subst e1
       obtain ⟨_, e', m', b1, b2, b3, b4, b5, b6, b7⟩ := Zhf (hL x) g1 hf
       simp only [Nat.sub_zero] at b1 b2
       have hfk := fun w => Z9 (P := P) hk f1 w
       have hkey : ((ms.toArray[i]?).map (·.key)).getD (ev x) = m'.key := by simp [b2]
       have hstay : (Instr.keyThatStays m'.key (ev x)).run P w = .ok (ev x) w := by
        simp [Instr.keyThatStays, b4]
       refine LR.unit (w' := ZgU w p (.map (ms.toArray.modify i fun e => { e with key := ev x, val := ev v }) clock)) ?_ (hR.put (c := .map (ZsI (lk fr x) (lk fr v) i es) clock) hs (by rw [hb]; simp) (fun hh => ⟨_, ?_, by rw [hh, ZaO]⟩)) (Ex.refl _ _) (Nle.refl _) h2
       ·rw [hv]
        simp only [Instr.mapUpdate, Sem.run_bind, run_underlying ht, Result.andThen_ok, Ye g2, hck, hfk, hkey, hstay, Ys g2]
       ·exact Zpf (hL x) (hL v) (fun e => { e with key := ev x, val := ev v }) (fun m => ⟨rfl, rfl⟩) g1 (fun m hm => rfl)
     ·rename_i hf
      obtain ⟨r', f1, f2⟩ := ZT (hL x) hd g1 hf
      cases r' with
      | some q => exact f2.elim
      | none =>
       have hfk := fun w => Z9 (P := P) hk f1 w
       refine LR.unit (w' := ZgU w p (.map (ms.toArray.push { key := ev x, val := ev v, born := clock }) (clock + 1))) ?_ (hR.put (c := .map (es ++ [⟨lk fr x, lk fr v, clock⟩]) (clock + 1)) hs (by rw [hb]; simp) (fun hh => ⟨ms ++ [{ key := ev x, val := ev v, born := clock }], ?_, by rw [hh]; simp⟩)) (Ex.refl _ _) (Nle.refl _) h2
       ·rw [hv]
        simp only [Instr.mapUpdate, Sem.run_bind, run_underlying ht, Result.andThen_ok, Ye g2, hck, hfk, Ys g2]
       ·exact g1.app (by unfold Zy; exact ⟨_, [], rfl, hL x, hL v, rfl, rfl⟩)
     ·exact h2.no.elim
   ·exact h2.no.elim
  ·exact h2.no.elim
 ·exact h.no.elim
theorem Zro (hR : Rel w0 σ hp n w) (hL : ∀ x, VR σ (lk fr x) (ev x)) {t ty : Nat} {ts : Array Nat} (h0 : ts[0]? = some t) {m x : Operand} (h : Zr (ZkC P fr hp n t m x k) φ) :
  LR P w0 σ n w (do pure (Next.value (<- Builtin.delete_ ts ty #[ev m, ev x])) : Sem Next) k φ := by
 unfold ZkC at h
 split at h
 ·rename_i kt et ht
  have ht := Zd ht
  obtain ⟨hkk, h2⟩ := h.bif
  clear h
  obtain ⟨d, hk, hd⟩ := ZaF hkk
  have hm := hL m
  have hck := fun b w => Zau (P := P) (b := b) hk hd (ev x) w
  split at h2
  ·rename_i e; rw [e] at hm; simp only [VR] at hm
   refine LR.val (v := .tuple #[]) ?_ (by simp only [VR, VRs]; exact ⟨[], rfl, rfl⟩) hR (Ex.refl _ _) (Nle.refl _) h2
   rw [hm]; simp [Builtin.delete_, h0, run_underlying ht, hck]
  ·rename_i b e; rw [e] at hm; simp only [VR] at hm
   obtain ⟨p, u, hs, hv⟩ := hm
   split at h2
   ·rename_i es clock hb
    obtain ⟨ms, g1, g2⟩ := hR.at hs hb (by simp)
    have hself : ZgU w p (.map ms.toArray clock) = w := by
     obtain ⟨hlt, hval⟩ := Array.getElem?_eq_some_iff.1 g2
     unfold ZgU
     have : w.heap.setIfInBounds p (.map ms.toArray clock) = w.heap := by
      apply Array.ext (by simp)
      intro i h1 h2
      rw [Array.getElem_setIfInBounds]
      split
      ·rename_i e; subst e; exact hval.symm
      ·rfl
     rw [this]
    split at h2
    ·rename_i i u hf
     obtain ⟨r', f1, f2⟩ := ZT (hL x) hd g1 hf
     cases r' with
     | none => exact f2.elim
     | some q =>
      obtain ⟨j', mv⟩ := q
      obtain ⟨e1, f2⟩ := f2
      subst e1
      have hfk := fun w => Z9 (P := P) hk f1 w
      refine LR.val (v := .tuple #[]) (w' := ZgU w p (.map (ms.toArray.eraseIdxIfInBounds i) clock)) ?_ (by simp only [VR, VRs]; exact ⟨[], rfl, rfl⟩) (hR.put (c := .map (Ztm i es) clock) hs (by rw [hb]; simp) (fun hh => ⟨ms.eraseIdx i, Zsk g1, by rw [hh]; congr 2; apply Array.ext'; simp⟩)) (Ex.refl _ _) (Nle.refl _) h2
      rw [hv]
      simp [Builtin.delete_, h0, run_underlying ht, Ye g2, hck, hfk, Ys g2]
    ·rename_i hf
     obtain ⟨r', f1, f2⟩ := ZT (hL x) hd g1 hf
     cases r' with
     | some q => exact f2.elim
     | none =>
      have hfk := fun w => Z9 (P := P) hk f1 w
      refine LR.val (v := .tuple #[]) (w' := w) ?_ (by simp only [VR, VRs]; exact ⟨[], rfl, rfl⟩) hR (Ex.refl _ _) (Nle.refl _) h2
      rw [hv]
      simp [Builtin.delete_, h0, run_underlying ht, Ye g2, hck, hfk, Ys g2, hself]
    ·exact h2.no.elim
   ·exact h2.no.elim
  ·exact h2.no.elim
 ·exact h.no.elim
end
end Go.Cx
namespace Go.Cx
open Go.RowKit (Below)
section
variable {P : Program} {w0 : World} {σ : Sg} {hp : H} {n : Nat} {w : World} {fr : F} {ev : Operand -> Value} {k : KS} {φ : Out -> Prop}
theorem Zlk : ∀ (es : List Ent) (i : Nat), ZmT i es = es[i]?
 | [], i => by simp [ZmT]
 | e :: es, 0 => by simp [ZmT]
 | e :: es, i + 1 => by simp [ZmT, Zlk es i]
theorem Zkx {a b : CV} {va vb : Value} (ha : VR σ a va) (hb : VR σ b vb) : VR σ (.tup [a, b]) (.tuple #[va, vb]) := by
 simp only [VR, VRs]; exact ⟨_, ⟨_, _, rfl, ha, _, _, rfl, hb, rfl⟩, rfl⟩
theorem Zsq {a b c : CV} {va vb vc : Value} (ha : VR σ a va) (hb : VR σ b vb) (hc : VR σ c vc) : VR σ (.tup [a, b, c]) (.tuple #[va, vb, vc]) := by
 simp only [VR, VRs]; exact ⟨_, ⟨_, _, rfl, ha, _, _, rfl, hb, _, _, rfl, hc, rfl⟩, rfl⟩
theorem Zbk : VR σ (.tup []) (.tuple #[]) := by simp only [VR, VRs]; exact ⟨[], rfl, rfl⟩
theorem ZgX (m : Nat) : VR σ (.int 3 (.ofNat m)) (goInt m) := by simp only [VR]; rfl
theorem ZmV (hR : Rel w0 σ hp n w) (hL : ∀ x, VR σ (lk fr x) (ev x)) {t : Nat} {m x : Operand} (h : Zr (Zc0 P fr hp n t m x k) φ) :
  LR P w0 σ n w (do pure (Next.value (<- Instr.mapEntry t (ev m) (ev x))) : Sem Next) k φ := by
 unfold Zc0 at h
 split at h
 ·rename_i kt et ht
  have ht := Zd ht
  obtain ⟨hkk, h2⟩ := h.bif
  clear h
  obtain ⟨d, hk, hd⟩ := ZaF hkk
  have hm := hL m
  split at h2
  ·rename_i b e; rw [e] at hm; simp only [VR] at hm
   obtain ⟨p, u, hs, hv⟩ := hm
   split at h2
   ·rename_i es clock hb
    obtain ⟨ms, g1, g2⟩ := hR.at hs hb (by simp)
    have hck := fun b w => Zau (P := P) (b := b) hk hd (ev x) w
    split at h2
    ·rename_i i v hf
     obtain ⟨r', f1, f2⟩ := ZT (hL x) hd g1 hf
     cases r' with
     | none => exact f2.elim
     | some q =>
      obtain ⟨j', mv⟩ := q
      obtain ⟨e1, f2⟩ := f2
      subst e1
      obtain ⟨_, e', m', b1, b2, b3, b4, b5, b6, b7⟩ := Zhf (hL x) g1 hf
      simp only [Nat.sub_zero] at b1 b2
      rw [Zlk, b1] at h2
      simp only at h2
      have hfk := fun w => Z9 (P := P) hk f1 w
      have hkey : ((ms.toArray[i]?).map (·.key)).getD (ev x) = m'.key := by simp [b2]
      have hborn : ((ms.toArray[i]?).map (fun x => (x.born : Int))).getD 0 = (e'.born : Int) := by simp [b2, b7]
      have hstay : (Instr.keyThatStays m'.key (ev x)).run P w = .ok (ev x) w := by
       simp [Instr.keyThatStays, b4]
      refine LR.val (v := .tuple #[mv, goInt e'.born]) (w' := ZgU w p (.map (ms.toArray.modify i fun e => { e with key := ev x }) clock)) ?_ (Zkx f2 (ZgX _)) (hR.put (c := .map (ZsI (lk fr x) v i es) clock) hs (by rw [hb]; simp) (fun hh => ⟨_, ?_, by rw [hh, ZaO]⟩)) (Ex.refl _ _) (Nle.refl _) h2
      ·rw [hv]
       simp only [Instr.mapEntry, Sem.run_bind, run_underlying ht, Result.andThen_ok, Ye g2, hck, hfk, hkey, hstay, Ys g2, hborn]
       rfl
      ·subst b5
       exact Zpf (vv := m'.val) (hL x) b6 (fun e => { e with key := ev x }) (fun m => ⟨rfl, rfl⟩) g1 (fun m hm => by rw [b2] at hm; cases hm; rfl)
    ·rename_i hf
     obtain ⟨r', f1, f2⟩ := ZT (hL x) hd g1 hf
     cases r' with
     | some q => exact f2.elim
     | none =>
      split at h2
      ·rename_i v hz
       obtain ⟨i, zv, z1, z2, z3⟩ := ZdO (σ := σ) hz
       have hzr := fun w => Zq (P := P) z1 z2 w
       have hfk := fun w => Z9 (P := P) hk f1 w
       refine LR.val (v := .tuple #[zv, goInt clock]) (w' := ZgU w p (.map (ms.toArray.push { key := ev x, val := zv, born := clock }) (clock + 1))) ?_ (Zkx z3 (ZgX _)) (hR.put (c := .map (es ++ [⟨lk fr x, v, clock⟩]) (clock + 1)) hs (by rw [hb]; simp) (fun hh => ⟨ms ++ [{ key := ev x, val := zv, born := clock }], ?_, by rw [hh]; simp⟩)) (Ex.refl _ _) (Nle.refl _) h2
       ·rw [hv]
        simp only [Instr.mapEntry, Sem.run_bind, run_underlying ht, Result.andThen_ok, Ye g2, hck, hfk, hzr, Ys g2]
        rfl
       ·exact g1.app (by unfold Zy; exact ⟨_, [], rfl, hL x, z3, rfl, rfl⟩)
      ·exact h2.no.elim
    ·exact h2.no.elim
   ·exact h2.no.elim
  ·exact h2.no.elim
 ·exact h.no.elim
theorem Zln {s : Nat} {v : CV} {vv : Value} (hv : VR σ v vv) : ∀ {es es' : List Ent} {ms : List MapEntry}, Zy σ es ms -> Zlz s v es = some es' →
  ∃ i, ms.findIdx? (fun e => (e.born : Int) == (s : Int)) = some i /\ Zy σ es' (ms.modify i fun e => { e with val := vv })
 | [], es', ms, he, h => by cases h
 | e :: es, es', ms, he, h => by
  unfold Zy at he
  obtain ⟨m, ns, rfl, h1, h2, h3, h4⟩ := he
  unfold Zlz at h
  cases hb : Nat.beq e.born s
  ·rw [hb] at h; simp only [cond_false] at h
   have hne : ¬ ((m.born : Int) = (s : Int)) := by rw [h3]; intro e'; have : e.born = s := (by omega); rw [this, Nat.beq_refl] at hb; cases hb
   split at h
   ·rename_i r hr
    cases h
    obtain ⟨i, i1, i2⟩ := Zln hv h4 hr
    refine ⟨i + 1, ?_, ?_⟩
    ·rw [List.findIdx?_cons]; simp only [beq_iff_eq, hne, Bool.false_eq_true, if_false]; rw [i1]; rfl
    ·simp only [List.modify_succ_cons, Zy]; exact ⟨m, _, rfl, h1, h2, h3, i2⟩
   ·cases h
  ·rw [hb] at h; cases h
   have := ZxG hb
   refine ⟨0, ?_, ?_⟩
   ·rw [List.findIdx?_cons]; simp [h3, this]
   ·simp only [List.modify_zero_cons, Zy]; exact ⟨_, _, rfl, h1, hv, h3, h4⟩
theorem ZiA (hR : Rel w0 σ hp n w) (hL : ∀ x, VR σ (lk fr x) (ev x)) {t : Nat} {m s v : Operand} (h : Zr (Zbo fr hp n m s v k) φ) :
  LR P w0 σ n w (do Instr.entryStore t (ev m) (ev s) (ev v); pure Next.skip : Sem Next) k φ := by
 unfold Zbo at h
 have hm := hL m
 split at h
 ·rename_i b e; rw [e] at hm; simp only [VR] at hm
  obtain ⟨p, u, hs, hv⟩ := hm
  split at h
  ·rename_i es clock hb
   obtain ⟨ms, g1, g2⟩ := hR.at hs hb (by simp)
   split at h
   ·rename_i kd st hst
    have hst := Zif hL hst
    split at h
    ·exact h.no.elim
    ·rename_i hj
     split at h
     ·rename_i es' hb'
      obtain ⟨i, i1, i2⟩ := Zln (hL v) g1 hb'
      refine LR.unit (w' := ZgU w p (.map (ms.toArray.modify i fun e => { e with val := ev v }) clock)) ?_ (hR.put (c := .map es' clock) hs (by rw [hb]; simp) (fun hh => ⟨_, i2, by rw [hh, ZaO]⟩)) (Ex.refl _ _) (Nle.refl _) h
      rw [hv, hst]
      have hfi : ms.toArray.findIdx? (fun e => (e.born : Int) == Int.ofNat st) = some i := by
       rw [List.findIdx?_toArray]; exact i1
      simp only [Instr.entryStore, Sem.run_bind, Result.andThen_ok, Ye g2, asInt, asIntOf, Sem.run_pure, hfi, Ys g2]
     ·exact h.no.elim
   ·exact h.no.elim
  ·exact h.no.elim
 ·exact h.no.elim
theorem Ztu (hR : Rel w0 σ hp n w) (hL : ∀ x, VR σ (lk fr x) (ev x)) {t : Nat} {x : Operand} (h : Zr (ZlY P fr hp n t x k) φ) :
  LR P w0 σ n w (do pure (Next.value (<- Instr.range t (ev x))) : Sem Next) k φ := by
 unfold ZlY at h
 have hx := hL x
 have mk : ∀ {c : Ck} (o : Obj), (∀ τ, Le σ τ -> τ (idN n) = some (w.heap.size, 0) -> YM τ { w with heap := w.heap.push o } w.heap.size 0 c) -> Zr (Y9 hp n c (fun b => .ptr b 0) k) φ →
   (Instr.range t (ev x)).run P w = .ok (.pointer (some ⟨w.heap.size, 0, none⟩)) { w with heap := w.heap.push o } -> LR P w0 σ n w (do pure (Next.value (<- Instr.range t (ev x))) : Sem Next) k φ := fun o hc h hrun => by
  obtain ⟨σ', s1, s2, s3, s4, s5⟩ := ZL hR h o 0 hc
  exact LR.val hrun (by simp only [VR]; exact ⟨_, _, s1, rfl⟩) s2 s3 s4 s5
 split at h
 ·rename_i l m hd e; rw [e] at hx; simp only [VR] at hx
  exact mk (c := .siter l m 0) (.stringIter ⟨(bys l m).toArray⟩ 0) (fun τ hle _ => ZE w _) h (by rw [hx]; simp [Instr.range, run_underlying (Zd hd), newObj, Sem.run])
 ·rename_i kt et hd e; rw [e] at hx; simp only [VR] at hx
  exact mk (c := .iter0) (.mapIter none 0 #[] 0) (fun τ hle _ => ZE w _) h (by rw [hx]; simp [Instr.range, run_underlying (Zd hd), newObj, Sem.run])
 ·rename_i kt et b hd e; rw [e] at hx; simp only [VR] at hx
  obtain ⟨p, u, hs, hv⟩ := hx
  split at h
  ·rename_i es clock hb
   obtain ⟨ms, g1, g2⟩ := hR.at hs hb (by simp)
   exact mk (c := .iter b clock [] clock) (.mapIter (some p) clock #[] clock) (fun τ hle _ => ⟨p, u, hle _ _ hs, ZE w _⟩) h (by rw [hv]; simp [Instr.range, run_underlying (Zd hd), Ye g2, newObj, Sem.run])
  ·exact h.no.elim
 ·exact h.no.elim
theorem ZsP (x : Nat) : ∀ l : List Nat, has x l = l.contains x
 | [] => rfl
 | a :: l => by
  unfold has
  rw [ZsP x l, List.contains_cons]
  by_cases h : a = x
  ·subst h; simp
  ·have : Nat.beq a x = false := by cases hq : Nat.beq a x; rfl; exact absurd (ZxG hq) h
   rw [this]; simp [Ne.symm h]
theorem ZjL (seen : List Nat) : ∀ {es : List Ent} {ms : List MapEntry}, Zy σ es ms -> Zy σ (Zjb seen es) (ms.filter fun e => !seen.contains e.born)
 | [], ms, he => by cases he; rfl
 | e :: es, ms, he => by
  unfold Zy at he
  obtain ⟨m, ns, rfl, h1, h2, h3, h4⟩ := he
  unfold Zjb
  rw [ZsP, List.filter_cons, h3]
  cases seen.contains e.born
  ·simp only [cond_false, Bool.not_false, if_true, Zy]; exact ⟨m, _, rfl, h1, h2, h3, ZjL seen h4⟩
  ·simp only [cond_true, Bool.not_true, Bool.false_eq_true, if_false]; exact ZjL seen h4
theorem ZkK {since : Nat} : ∀ {es : List Ent} {ms : List MapEntry}, Zy σ es ms -> Zjp since es = true -> ∀ m ∈ ms, m.born < since
 | [], ms, he, _, m, hm => by cases he; cases hm
 | e :: es, ms, he, h, m, hm => by
  unfold Zy at he
  obtain ⟨m', ns, rfl, h1, h2, h3, h4⟩ := he
  unfold Zjp at h
  cases hb : Nat.blt e.born since
  ·rw [hb] at h; cases h
  ·rw [hb] at h; simp only [cond_true] at h
   rcases List.mem_cons.1 hm with rfl | hm
   ·rw [h3]; simpa [Nat.blt_eq] using hb
   ·exact ZkK h4 h m hm
theorem Zgt {f : Ent -> Res} : ∀ {l : List Ent}, Zr (Zp9 f l) φ -> ∀ e ∈ l, Zr (f e) φ
 | [], _, e, he => by cases he
 | [a], h, e, he => by
  simp only [Zxy] at he; subst he; exact h
 | a :: b :: l, h, e, he => by
  simp only [Zp9] at h
  obtain ⟨h1, h2⟩ := h.cat
  rcases List.mem_cons.1 he with rfl | he
  ·exact h1
  ·exact Zgt h2 e he
theorem Zy.get : ∀ {es : List Ent} {ms : List MapEntry} {i : Nat} {m : MapEntry}, Zy σ es ms -> ms[i]? = some m -> ∃ e, e ∈ es /\ VR σ e.key m.key /\ VR σ e.val m.val /\ m.born = e.born
 | [], ms, i, m, he, h => by cases he; cases h
 | e :: es, ms, i, m, he, h => by
  unfold Zy at he
  obtain ⟨m', ns, rfl, h1, h2, h3, h4⟩ := he
  cases i with
  | zero => simp at h; subst h; exact ⟨e, ZxN, h1, h2, h3⟩
  | succ i =>
   obtain ⟨e', a, b⟩ := Zy.get h4 (by simpa using h)
   exact ⟨e', ZxL _ a, b⟩
end
end Go.Cx
namespace Go.Cx
open Go.RowKit (Below)
open Go.ChangeMaps (setBlock)
section
variable {P : Program} {w0 : World} {σ : Sg} {hp : H} {n : Nat} {w : World} {fr : F} {ev : Operand -> Value} {k : KS} {φ : Out -> Prop}
theorem ZvK (hR : Rel w0 σ hp n w) (hL : ∀ x, VR σ (lk fr x) (ev x)) {x : Operand} {str : Bool} {ty : TypeId} (h : Zr (Zq0 fr hp n x str k) φ) :
  LR P w0 σ n w (do pure (Next.value (<- Instr.next (ev x) str ty)) : Sem Next) k φ := by
 unfold Zq0 at h
 have hx := hL x
 split at h
 ·rename_i r e; rw [e] at hx; simp only [VR] at hx
  obtain ⟨p, u, hs, hv⟩ := hx
  rw [hv]
  split at h
  ·rename_i m since seen stepped hit
   cases str
   ·simp only [cond_false] at h
    split at h
    ·rename_i es clock hm
     obtain ⟨hcond, h2⟩ := h.bif
     clear h
     obtain ⟨hss, hold⟩ : since <= stepped /\ Zjp since es = true := by
      cases hq : Nat.ble since stepped
      ·rw [hq] at hcond; cases hcond
      ·rw [hq] at hcond; exact ⟨ZxS hq, hcond⟩
     obtain ⟨q, v, hsm, hitw⟩ := hR.at hs hit (by simp)
     obtain ⟨ms, g1, g2⟩ := hR.at hsm hm (by simp)
     have hcr := ZjL seen g1
     have hleft : (leftOf ms.toArray seen.toArray) = (ms.filter fun e => !seen.contains e.born).toArray := by
      unfold leftOf; simp
     have key := run_next_at (P := P) w ty p q since stepped seen.toArray ms.toArray clock hitw g2 (fun x hx => ZkK g1 hold x (by simpa using hx)) hss
     rw [hleft] at key
     rcases key with ⟨k1, k2⟩ | ⟨e, k1, w1, k2, k3⟩
     ·have hnil : (ms.filter fun e => !seen.contains e.born) = [] := ZxU (by simpa using k1)
      rw [hnil] at hcr
      have : Zjb seen es = [] := by
       cases hc : Zjb seen es with
       | nil => rfl
       | cons a l => rw [hc] at hcr; unfold Zy at hcr; obtain ⟨_, _, hcc, _⟩ := hcr; cases hcc
      rw [this] at h2
      exact LR.val k2 (by simp only [VR, VRs]; exact ⟨_, ⟨_, _, rfl, rfl, rfl⟩, rfl⟩) hR (Ex.refl _ _) (Nle.refl _) h2
     ·obtain ⟨i, hi⟩ := List.getElem?_of_mem (show e ∈ (ms.filter fun e => !seen.contains e.born) by simpa using k1)
      obtain ⟨e', m1, m2, m3, m4⟩ := hcr.get hi
      have h3 : Zr (Zp9 (fun e => k (.tup [.bool true, e.key, e.val]) (YH hp r (.iter m since (seen ++ [e.born]) clock)) n) (Zjb seen es)) φ := by
       split at h2
       ·rename_i hc; rw [hc] at m1; cases m1
       ·exact h2
      have h4 := Zgt h3 e' m1
      have hR1 : Rel w0 σ hp n w1 := by
       rcases k2 with rfl | rfl
       ·exact hR
       ·exact hR.drew _
      refine LR.val k3 (Zsq (by simp only [VR]) m2 m3) (hR1.put (c := .iter m since (seen ++ [e'.born]) clock) hs (by rw [hit]; simp) (fun hh => ⟨q, v, hsm, ?_⟩)) (Ex.refl _ _) (Nle.refl _) h4
      rw [hh, <- m4]; simp
    ·exact h.no.elim
   ·exact h.no.elim
  ·rename_i hit
   cases str
   ·simp only [cond_false] at h
    have hitw := hR.at hs hit (by simp)
    have hitw : w.heap[p]? = some (.mapIter none 0 #[] 0) := hitw
    refine LR.val (v := .tuple #[.bool false]) ?_ (by simp only [VR, VRs]; exact ⟨_, ⟨_, _, rfl, rfl, rfl⟩, rfl⟩) hR (Ex.refl _ _) (Nle.refl _) h
    simp [Instr.next, getObj, Sem.run, hitw]
   ·exact h.no.elim
  ·rename_i l m pos hit
   cases str
   ·exact h.no.elim
   ·simp only [cond_true] at h
    have hitw : w.heap[p]? = some (.stringIter ⟨(bys l m).toArray⟩ pos) := hR.at hs hit (by simp)
    have hsz : (⟨(bys l m).toArray⟩ : ByteArray).size = l := by simp [ByteArray.size, Zl]
    cases hlt : Nat.blt pos l
    ·rw [hlt] at h; simp only [cond_false] at h
     have hlt' : ¬ pos < l := by intro h'; have := Nat.blt_eq.symm ▸ h'; rw [this] at hlt; cases hlt
     refine LR.val (v := .tuple #[.bool false]) ?_ (by simp only [VR, VRs]; exact ⟨_, ⟨_, _, rfl, rfl, rfl⟩, rfl⟩) hR (Ex.refl _ _) (Nle.refl _) h
     simp [Instr.next, getObj, Sem.run, hitw, hsz, hlt']
    ·rw [hlt] at h; simp only [cond_true] at h
     have hlt' : pos < l := by simpa [Nat.blt_eq] using hlt
     obtain ⟨ha, h2⟩ := h.bif
     clear h
     have ha : ZfN m pos < 128 := by simpa [Nat.blt_eq] using ha
     have hlt2 : pos < (⟨(bys l m).toArray⟩ : ByteArray).size := by rw [hsz]; exact hlt'
     have ZC : ((⟨(bys l m).toArray⟩ : ByteArray)[pos]'hlt2) = UInt8.ofNat (ZfN m pos) := by
      have := Zi6 l m pos hlt'
      rw [getElem?_pos (⟨(bys l m).toArray⟩ : ByteArray) pos hlt2] at this
      exact Option.some.inj this
     have hdec := decode_ascii ⟨(bys l m).toArray⟩ pos hlt2 (by rw [ZC, ZdV _ (ZgQ m pos)]; exact ha)
     rw [ZC, ZdV _ (ZgQ m pos)] at hdec
     refine LR.val (v := .tuple #[.bool true, goInt pos, .int .i32 (ZfN m pos : Nat)]) (w' := ZgU w p (.stringIter ⟨(bys l m).toArray⟩ (pos + 1))) ?_ (Zsq (by simp only [VR]) (ZgX _) (by simp only [VR]; rfl))
      (hR.put (c := .siter l m (pos + 1)) hs (by rw [hit]; simp) (fun hh => hh)) (Ex.refl _ _) (Nle.refl _) h2
     simp [Instr.next, getObj, setObj, Sem.run, hitw, hsz, hlt', hdec, ZgU]
  ·exact h.no.elim
 ·exact h.no.elim
theorem Zmg : ∀ l : List Nat, Zq4 l = l.getLast?
 | [] => rfl
 | [a] => rfl
 | a :: b :: l => by simp only [Zq4]; rw [Zmg (b :: l)]; simp
theorem Zgl {s : Nat} : ∀ {es : List Ent} {ms : List MapEntry} {e : Ent}, Zy σ es ms -> Zep s es = some e -> ∃ m, ms.find? (fun x => x.born == s) = some m /\ VR σ e.key m.key /\ VR σ e.val m.val
 | [], ms, e, he, h => by cases h
 | a :: es, ms, e, he, h => by
  unfold Zy at he
  obtain ⟨m, ns, rfl, h1, h2, h3, h4⟩ := he
  unfold Zep at h
  cases hb : Nat.beq a.born s
  ·rw [hb] at h; simp only [cond_false] at h
   obtain ⟨m', k1, k2⟩ := Zgl h4 h
   refine ⟨m', ?_, k2⟩
   have : ¬ (m.born = s) := by rw [h3]; intro e'; rw [e', Nat.beq_refl] at hb; cases hb
   rw [List.find?_cons_of_neg (by simpa using this)]; exact k1
  ·rw [hb] at h; cases h
   have := ZxG hb
   exact ⟨m, by rw [List.find?_cons_of_pos (by simp [h3, this])], h1, h2⟩
theorem ZuI (hR : Rel w0 σ hp n w) (hL : ∀ x, VR σ (lk fr x) (ev x)) {x : Operand} (h : Zr (Zld fr hp n x k) φ) :
  LR P w0 σ n w (do pure (Next.value (<- Instr.entry (ev x))) : Sem Next) k φ := by
 unfold Zld at h
 have hx := hL x
 split at h
 ·rename_i r e; rw [e] at hx; simp only [VR] at hx
  obtain ⟨p, u, hs, hv⟩ := hx
  split at h
  ·rename_i m since seen stepped hit
   split at h
   ·rename_i es clock hm
    obtain ⟨hcl, h2⟩ := h.bif
    clear h
    have hcl := ZxG hcl
    subst hcl
    split at h2
    ·rename_i s hlast
     rw [Zmg] at hlast
     split at h2
     ·rename_i en hen
      obtain ⟨q, v, hsm, hitw⟩ := hR.at hs hit (by simp)
      obtain ⟨ms, g1, g2⟩ := hR.at hsm hm (by simp)
      obtain ⟨m', k1, k2, k3⟩ := Zgl g1 hen
      refine LR.val (v := .tuple #[m'.key, m'.val]) ?_ (Zkx k2 k3) hR (Ex.refl _ _) (Nle.refl _) h2
      rw [hv]
      have hf : ms.toArray.find? (fun x => x.born == s) = some m' := by rw [<- Array.find?_toList]; exact k1
      have hbk : seen.toArray.back? = some s := by simpa using hlast
      simp only [Instr.entry, getObj, Sem.run_bind, Sem.run, hitw, g2, Result.andThen, hbk, bne_self_eq_false, Bool.false_eq_true, if_false, hf]
      rfl
     ·exact h2.no.elim
    ·exact h2.no.elim
   ·exact h.no.elim
  ·exact h.no.elim
 ·exact h.no.elim
end
end Go.Cx
namespace Go.Cx
open Go.RowKit (Below)
theorem ZbM {need : Nat} : ∀ (r c : Nat), 256 <= c -> c <= 2 * need -> Builtin.growBy need r c <= 2 * need
 | 0, c, _, h => h
 | r + 1, c, h0, h => by
  simp only [Builtin.growBy]
  split
  ·exact h
  ·exact ZbM r _ (by omega) (by omega)
theorem Zcc {need old : Nat} (h : old < need) : Builtin.nextslicecap need old <= 2 * need := by
 unfold Builtin.nextslicecap
 split
 ·omega
 ·split
  ·omega
  ·exact ZbM _ _ (by omega) (by omega)
def Y1 (d : TypeDesc) : Bool := match d with | .int _ => false | _ => true
theorem ZbV {d : TypeDesc} : Y1 d = true -> Builtin.append_.match_1 (fun _ => Bool) d (fun _ => true) (fun _ => false) = false := by
 intro h
 cases d <;> first | rfl | (simp [Y1] at h; done)
section
variable {P : Program} {w0 : World} {σ : Sg} {hp : H} {n : Nat} {w : World} {fr : F} {ev : Operand -> Value} {k : KS} {φ : Out -> Prop}
theorem Yw {ts : Array TypeId} {t t2 et ty : TypeId} {d2 : TypeDesc} {sz m sLen sCap : Nat} {base : Option Addr} {x : Value} {cells : List Value} {w w' : World} (h0 : ts[0]? = some t) (h1 : ts[1]? = some t2)
  (ht : P.underlying t = some (.slice et)) (ht2 : P.underlying t2 = some d2) (hd : Y1 d2 = true) (hsz : (sizeOf et).run P w = .ok sz w) (hx : (Builtin.lenOf x).run P w = .ok m w) (hf : (Builtin.firstCells sz m x).run P w = .ok cells.toArray w) (hfit : sLen + m <= sCap)
  (hrun : match base with | some a => (storeCells (a.add (sLen * sz)) cells).run P w = .ok () w' | none => w' = w) :
  (Builtin.append_ ts ty #[.slice base sLen sCap, x]).run P w = .ok (.slice base (sLen + m) sCap) w' := by
 have hd' := ZbV hd
 cases base with
 | none => subst hrun; simp [Builtin.append_, h0, h1, run_underlying ht, run_underlying ht2, hsz, hx, hfit, hf, hd']
 | some a => simp [Builtin.append_, h0, h1, run_underlying ht, run_underlying ht2, hsz, hx, hfit, hf, hrun, hd']
theorem Zaf {ts : Array TypeId} {t t2 et ty : TypeId} {d2 : TypeDesc} {m sLen sCap : Nat} {base : Option Addr} {x z : Value} {i : TypeInfo} {cells old : List Value} {w : World} (h0 : ts[0]? = some t) (h1 : ts[1]? = some t2)
  (ht : P.underlying t = some (.slice et)) (ht2 : P.underlying t2 = some d2) (hd : Y1 d2 = true) (hi : P.info? et = some i) (hz : i.zero = some z) (hzs : z.cells.size = i.size) (hb : 1 <= i.bytes)
  (hx : (Builtin.lenOf x).run P w = .ok m w) (hf : (Builtin.firstCells i.size m x).run P w.drew = .ok cells.toArray w.drew) (hfit : ¬ sLen + m <= sCap)
  (hold : (Builtin.firstCells i.size sLen (.slice base sLen sCap)).run P w.drew = .ok old.toArray w.drew) (hroom : i.bytes * (sLen + m) <= 140737488355328) :
  ∃ c spare, sLen + m <= c /\ spare.length = (c - (sLen + m)) * i.size /\ (Builtin.append_ ts ty #[.slice base sLen sCap, x]).run P w =
   .ok (.slice (some ⟨w.heap.size, 0, none⟩) (sLen + m) c) { w.drew with heap := w.heap.push (.cells (old ++ cells ++ spare).toArray et) } := by
 refine ⟨(Question.appendCap (sLen + m) sCap et).cut (w.tape w.drawn (.appendCap (sLen + m) sCap et)), (Builtin.zeroCells z.cells ((Question.appendCap (sLen + m) sCap et).cut (w.tape w.drawn (.appendCap (sLen + m) sCap et)) - (sLen + m))).toList, by simp [Question.cut], by simp [Builtin.zeroCells, hzs], ?_⟩
 have hsz : ∀ w, (sizeOf et).run P w = .ok i.size w := fun w => by simp [sizeOf, typeInfo, hi]
 have hcap := Zcc (show sCap < sLen + m by omega)
 have hcapb : ¬ (281474976710656 < Builtin.nextslicecap (sLen + m) sCap * i.bytes) := by
  have : Builtin.nextslicecap (sLen + m) sCap * i.bytes <= 2 * (sLen + m) * i.bytes := Zxw _ hcap
  have e : 2 * (sLen + m) * i.bytes = 2 * (i.bytes * (sLen + m)) := by rw [Nat.mul_assoc, Nat.mul_comm (sLen + m)]
  omega
 have hnb : ¬ i.bytes = 0 := by omega
 have hd' := ZbV hd
 have hzr : ∀ w, (zeroValue et).run P w = .ok z w := fun w => Zq hi hz w
 have harr : ∀ Z : Array Value, old.toArray ++ (cells.toArray ++ Z) = (old ++ (cells ++ Z.toList)).toArray := fun Z => by apply Array.ext'; simp
 simp [Builtin.append_, h0, h1, run_underlying ht, run_underlying ht2, hsz, hx, hfit, typeInfo, hi, hnb, hcapb, hd', Question.forced, hold, hf, hzr, Yv]
 rw [harr]
 rfl
theorem Zdo {ts : Array TypeId} {t et ty : TypeId} {sz m l cap : Nat} {base : Option Addr} {x : Value} {cells : List Value} {w w' : World} (h0 : ts[0]? = some t) (ht : P.underlying t = some (.slice et)) (hsz : (sizeOf et).run P w = .ok sz w)
  (hx : (Builtin.lenOf x).run P w = .ok m w) (hf : (Builtin.firstCells sz (min m l) x).run P w = .ok cells.toArray w)
  (hrun : match base with | some a => (storeCells a cells).run P w = .ok () w' | none => w' = w) :
  (Builtin.copy_ ts ty #[.slice base l cap, x]).run P w = .ok (goInt (min m l : Nat)) w' := by
 have hmin : m.min l = min m l := rfl
 cases base with
 | none => subst hrun; simp [Builtin.copy_, h0, run_underlying ht, hx, hsz, hmin, hf]
 | some a => simp [Builtin.copy_, h0, run_underlying ht, hx, hsz, hmin, hf, hrun]
theorem Zdw {ts : Array TypeId} {t et ty : TypeId} {l cap : Nat} {a : Addr} {i : TypeInfo} {zv : Value} {w w' : World} (h0 : ts[0]? = some t) (ht : P.underlying t = some (.slice et)) (hi : P.info? et = some i) (hz : i.zero = some zv)
  (hrun : (storeCells a (List.replicate (l + 1) zv.cells.toList).flatten).run P w = .ok () w') :
  (Builtin.clear_ ts ty #[.slice (some a) (l + 1) cap]).run P w = .ok (.tuple #[]) w' := by
 have hc : (Builtin.zeroCells zv.cells (l + 1)).toList = (List.replicate (l + 1) zv.cells.toList).flatten := ZQ _ _
 simp [Builtin.clear_, h0, run_underlying ht, Zq hi hz, hc, hrun]
/-! ### Elements -/
def Zjl (σ : Sg) : Els -> List Value -> Prop
 | .cs l, vs => VRs σ l vs
 | .bs l m, vs => vs = (bys l m).map Zcm
theorem Zjl.mono {τ : Sg} (h : Le σ τ) {e : Els} {vs : List Value} (k : Zjl σ e vs) : Zjl τ e vs := by
 cases e with
 | cs l => exact VRs.mono h k
 | bs l m => exact k
theorem Ze5 {c : CV} {v : Value} (hv : VR σ c v) {m : Nat} (h : lenOf c = some m) (w : World) : (Builtin.lenOf v).run P w = .ok m w := by
 unfold lenOf at h
 split at h
 ·simp only [VR] at hv; subst hv; cases h; rfl
 ·rename_i l x; simp only [VR] at hv; subst hv; cases h; simp [Builtin.lenOf, ByteArray.size, Zl]
 ·simp only [VR] at hv; obtain ⟨_, _, _, _, _, rfl, _⟩ := hv; cases h; rfl
 ·cases h
theorem ZcQ (hR : Rel w0 σ hp n w) {c : CV} {v : Value} (hv : VR σ c v) {u8 : Bool} {s m : Nat} {e : Els} (h : Zdk hp u8 s c m = some e) (h1 : 1 <= s) (h8 : u8 = true -> s = 1) :
  ∃ vs, Zjl σ e vs /\ vs.length = m * s /\ ∀ w', (∀ a, w'.cell? a = w.cell? a) -> (Builtin.firstCells s m v).run P w' = .ok vs.toArray w' := by
 unfold Zdk at h
 split at h
 ·obtain ⟨h2, h3⟩ := Zaz h
  have := ZxG h2; subst this
  simp only [VR] at hv; subst hv
  refine ⟨[], ?_, by simp, fun w' _ => rfl⟩
  cases h3; cases u8 <;> simp [Zjl, VRs, bys]
 ·rename_i l x
  obtain ⟨h2, h3⟩ := Zaz h
  obtain ⟨h4, h5⟩ := Zaz h3
  cases h5
  have h4 := ZxS h4
  have := h8 h2; subst this
  simp only [VR] at hv; subst hv
  refine ⟨(bys m x).map Zcm, rfl, by simp [Zl], fun w' _ => ?_⟩
  have e := Zcy l x 0 m h4 (Nat.zero_le _)
  simp only [Builtin.firstCells, Sem.run_pure]
  rw [e]
  congr 1
  simp only [Nat.sub_zero]
  have e2 : bys m (ZhI x 0 m) = bys m x := by unfold ZhI; rw [Zbr, ZnX, Nat.div_one]
  rw [e2]
  apply Array.ext'; simp [Zcm]
 ·rename_i b o s' l kk ex
  obtain ⟨h2, h3⟩ := Zaz h
  have := ZxG h2; subst this
  obtain ⟨h4, h5⟩ := Zaz h3
  have h4 := ZxS h4
  simp only [VR] at hv; obtain ⟨p, t, o', C, hs, rfl, hlk, hkc, hex, ho, hle, heq⟩ := hv
  cases hm0 : Nat.beq m 0
  ·rw [hm0] at h5; simp only [cond_false] at h5
   have hm : m ≠ 0 := fun e => by rw [e] at hm0; cases hm0
   have hoo := ho (.inl (by omega)); subst hoo
   have rd : ∀ (vs ws : List Value) (fz : Bool), Row w p t ws fz -> vs.length = m * s -> (∀ j v, vs[j]? = some v -> ws[o' + j]? = some v) -> ∀ w', (∀ a, w'.cell? a = w.cell? a) -> (Builtin.firstCells s m (.slice (some ⟨p, o', none⟩) l C)).run P w' = .ok vs.toArray w' := by
    intro vs ws fz hrow hl hj w' hw'
    simp only [Builtin.firstCells]
    rw [<- hl]
    exact Zba _ vs w' (fun j v hv => by rw [hw', add_eq]; exact (hrow.cell (hj j v hv)).1)
   cases hu : u8
   ·rw [hu] at h5; simp only [cond_false] at h5
    split at h5
    ·rename_i cs hc
     split at h5
     ·rename_i r hr
      cases h5
      obtain ⟨ws, g1, g2⟩ := hR.at hs hc (by simp)
      obtain ⟨a1, a2, a3⟩ := (g1.drop (n := o')).take hr
      refine ⟨_, a1, by rw [ZxH]; omega, rd _ ws _ g2 (by rw [ZxH]; omega) (fun j v hj => ?_)⟩
      have hlt := (List.getElem?_eq_some_iff.1 hj).1
      rw [List.getElem?_take_of_lt (by simp at hlt; omega), Zx4] at hj
      exact hj
     ·cases h5
    ·cases h5
   ·rw [hu] at h5; simp only [cond_true] at h5
    have := h8 hu; subst this
    split at h5
    ·rename_i kk2 x hc
     obtain ⟨h6, h7⟩ := Zaz h5
     cases h7
     have h6 := ZxS h6
     have g2 : Row w p t ((bys kk2 x).map Zcm) true := (hR.at hs hc (by simp)).1
     refine ⟨(bys m (ZhI x o' m)).map Zcm, rfl, by simp [Zl], rd _ _ _ g2 (by simp [Zl]) (fun j v hj => ?_)⟩
     have hlt := (List.getElem?_eq_some_iff.1 hj).1
     rw [ZxP, Zl] at hlt
     rw [<- ZgT kk2 x o' m h6, ZxB, List.getElem?_take_of_lt hlt, Zx4, <- ZxB] at hj
     exact hj
    ·cases h5
  ·rw [hm0] at h5; simp only [cond_true] at h5
   have := ZxG hm0; subst this
   refine ⟨[], ?_, by simp, fun w' _ => by simp [Builtin.firstCells, loadCells, loadCellsFrom]⟩
   cases h5; cases u8 <;> simp [Zjl, VRs, bys]
 ·cases h
theorem Row.len {p t : Nat} {vs : List Value} {fz : Bool} (h : Row w p t vs fz) : vs.length <= t := by
 obtain ⟨arr, _, _, _, _, q1, ⟨sp, q2⟩, _⟩ := h; have := congrArg List.length q2; simp at this; omega
end
end Go.Cx
