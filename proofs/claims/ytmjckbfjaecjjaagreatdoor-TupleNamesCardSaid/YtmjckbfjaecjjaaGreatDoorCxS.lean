/- A faster run: the program's text is looked at once, and turned into closures. -/
import Derived.Test.YtmjckbfjaecjjaaGreatDoorCxC
set_option linter.unusedVariables false
namespace Go.Cx
noncomputable section
/-! ### Values looked into -/
def isInt (x : CV) (q : Nat → Int → Res) (e : Res) : Res := @CV.rec (fun _ => (Nat → Int → Res) → Res → Res) (fun _ => Unit) (fun k n q _ => q k n) (fun _ _ e => e) (fun _ _ _ e => e) (fun _ _ _ e => e) (fun _ e => e) (fun _ _ _ _ _ _ _ e => e) (fun _ e => e) (fun _ _ e => e) (fun _ e => e) (fun _ _ _ _ _ _ e => e) (fun _ _ _ _ e => e) (fun _ _ e => e) (fun _ e => e) (fun _ _ _ _ e => e) (fun _ e => e) (fun _ _ _ e => e) (fun _ _ _ e => e) (fun _ e => e) () (fun _ _ _ _ => ()) x q e
def isBool (x : CV) (q : Bool → Res) (e : Res) : Res := @CV.rec (fun _ => (Bool → Res) → Res → Res) (fun _ => Unit) (fun _ _ _ e => e) (fun b q _ => q b) (fun _ _ _ e => e) (fun _ _ _ e => e) (fun _ e => e) (fun _ _ _ _ _ _ _ e => e) (fun _ e => e) (fun _ _ e => e) (fun _ e => e) (fun _ _ _ _ _ _ e => e) (fun _ _ _ _ e => e) (fun _ _ e => e) (fun _ e => e) (fun _ _ _ _ e => e) (fun _ e => e) (fun _ _ _ e => e) (fun _ _ _ e => e) (fun _ e => e) () (fun _ _ _ _ => ()) x q e
def isPtr (x : CV) (q : Nat → Nat → Res) (e : Res) : Res := @CV.rec (fun _ => (Nat → Nat → Res) → Res → Res) (fun _ => Unit) (fun _ _ _ e => e) (fun _ _ e => e) (fun _ _ _ e => e) (fun b o q _ => q b o) (fun _ e => e) (fun _ _ _ _ _ _ _ e => e) (fun _ e => e) (fun _ _ e => e) (fun _ e => e) (fun _ _ _ _ _ _ e => e) (fun _ _ _ _ e => e) (fun _ _ e => e) (fun _ e => e) (fun _ _ _ _ e => e) (fun _ e => e) (fun _ _ _ e => e) (fun _ _ _ e => e) (fun _ e => e) () (fun _ _ _ _ => ()) x q e
def isSlice (x : CV) (q : Nat → Nat → Nat → Nat → Nat → Bool → Res) (e : Res) : Res := @CV.rec (fun _ => (Nat → Nat → Nat → Nat → Nat → Bool → Res) → Res → Res) (fun _ => Unit) (fun _ _ _ e => e) (fun _ _ e => e) (fun _ _ _ e => e) (fun _ _ _ e => e) (fun _ e => e) (fun b o s l k ex q _ => q b o s l k ex) (fun _ e => e) (fun _ _ e => e) (fun _ e => e) (fun _ _ _ _ _ _ e => e) (fun _ _ _ _ e => e) (fun _ _ e => e) (fun _ e => e) (fun _ _ _ _ e => e) (fun _ e => e) (fun _ _ _ e => e) (fun _ _ _ e => e) (fun _ e => e) () (fun _ _ _ _ => ()) x q e
def isTup (x : CV) (q : List CV → Res) (e : Res) : Res := @CV.rec (fun _ => (List CV → Res) → Res → Res) (fun _ => Unit) (fun _ _ _ e => e) (fun _ _ e => e) (fun _ _ _ e => e) (fun _ _ _ e => e) (fun _ e => e) (fun _ _ _ _ _ _ _ e => e) (fun _ e => e) (fun _ _ e => e) (fun _ e => e) (fun _ _ _ _ _ _ e => e) (fun _ _ _ _ e => e) (fun _ _ e => e) (fun _ e => e) (fun _ _ _ _ e => e) (fun _ e => e) (fun _ _ _ e => e) (fun cs _ q _ => q cs) (fun _ e => e) () (fun _ _ _ _ => ()) x q e
/-! ### Places -/
structure Pj (α : Type) where
  run : O α → α
def pj {α : Type} (d : Nat) : Pj α := sel ⟨fun o => o.c0⟩ ⟨fun o => o.c1⟩ ⟨fun o => o.c2⟩ ⟨fun o => o.c3⟩ ⟨fun o => o.c4⟩ ⟨fun o => o.c5⟩ ⟨fun o => o.c6⟩ ⟨fun o => o.c7⟩ d
structure Up (α : Type) where
  run : (α → α) → O α → O α
def up {α : Type} (d : Nat) : Up α :=
  sel ⟨fun f o => @O.rec α (fun _ => O α) (fun c0 c1 c2 c3 c4 c5 c6 c7 => ⟨f c0, c1, c2, c3, c4, c5, c6, c7⟩) o⟩
    ⟨fun f o => @O.rec α (fun _ => O α) (fun c0 c1 c2 c3 c4 c5 c6 c7 => ⟨c0, f c1, c2, c3, c4, c5, c6, c7⟩) o⟩
    ⟨fun f o => @O.rec α (fun _ => O α) (fun c0 c1 c2 c3 c4 c5 c6 c7 => ⟨c0, c1, f c2, c3, c4, c5, c6, c7⟩) o⟩
    ⟨fun f o => @O.rec α (fun _ => O α) (fun c0 c1 c2 c3 c4 c5 c6 c7 => ⟨c0, c1, c2, f c3, c4, c5, c6, c7⟩) o⟩
    ⟨fun f o => @O.rec α (fun _ => O α) (fun c0 c1 c2 c3 c4 c5 c6 c7 => ⟨c0, c1, c2, c3, f c4, c5, c6, c7⟩) o⟩
    ⟨fun f o => @O.rec α (fun _ => O α) (fun c0 c1 c2 c3 c4 c5 c6 c7 => ⟨c0, c1, c2, c3, c4, f c5, c6, c7⟩) o⟩
    ⟨fun f o => @O.rec α (fun _ => O α) (fun c0 c1 c2 c3 c4 c5 c6 c7 => ⟨c0, c1, c2, c3, c4, c5, f c6, c7⟩) o⟩
    ⟨fun f o => @O.rec α (fun _ => O α) (fun c0 c1 c2 c3 c4 c5 c6 c7 => ⟨c0, c1, c2, c3, c4, c5, c6, f c7⟩) o⟩ d
structure CX where
  run : F → CV
def sTmp (t : Nat) : CX := @Bool.rec (fun _ => CX) ⟨fun fr => fg fr t⟩ ⟨fun fr => (@pj CV (Nat.mod t 8)).run ((@pj (O CV) (Nat.mod (Nat.div t 8) 8)).run ((@pj (O (O CV)) (Nat.div t 64)).run fr.o))⟩ (Nat.ble t 510)
def sOpd (x : Operand) : CX :=
  match x with
  | .tmp t => sTmp t
  | x => ⟨fun fr => lk fr x⟩
structure CXs where
  run : F → List CV
def sOpds (l : List Operand) : CXs := @List.rec Operand (fun _ => CXs) ⟨fun _ => []⟩ (fun x _ ih => ⟨fun fr => (sOpd x).run fr :: ih.run fr⟩) l
structure CU where
  run : CV → F → F
def sSet (t : Nat) : CU := ⟨fun v fr => @F.rec (fun _ => F) (fun n o => (@Bool.rec (fun _ => F) (⟨n, o⟩) (⟨n, (@up (O (O CV)) (Nat.div t 64)).run (fun g => (@up (O CV) (Nat.mod (Nat.div t 8) 8)).run (fun h => (@up CV (Nat.mod t 8)).run (fun _ => v) h) g) o⟩) (Nat.ble (Nat.succ t) n))) fr⟩
def sPut (d : Option Nat) : CU := match d with | some d => sSet d | none => ⟨fun _ fr => fr⟩
def hgetS (h : H) (i : Nat) : Ck := (@pj Ck (Nat.mod i 8)).run ((@pj (O Ck) (Nat.mod (Nat.div i 8) 8)).run ((@pj (O (O Ck)) (Nat.mod (Nat.div i 64) 8)).run ((@pj (O (O (O Ck))) (Nat.mod (Nat.div i 512) 8)).run ((@pj (O (O (O (O Ck)))) (Nat.div i 4096)).run h))))
def hsetS (h : H) (i : Nat) (c : Ck) : H :=
  (@up (O (O (O (O Ck)))) (Nat.div i 4096)).run (fun h => (@up (O (O (O Ck))) (Nat.mod (Nat.div i 512) 8)).run (fun h => (@up (O (O Ck)) (Nat.mod (Nat.div i 64) 8)).run (fun h => (@up (O Ck) (Nat.mod (Nat.div i 8) 8)).run (fun h => (@up Ck (Nat.mod i 8)).run (fun _ => c) h) h) h) h) h
/-! ### Numbers -/
def addS (a b : Int) : Int := @Int.rec (fun _ => Int → Int) (fun m b => @Int.rec (fun _ => Int) (fun n => .ofNat (Nat.add m n)) (fun n => Int.add (.ofNat m) (.negSucc n)) b) (fun m b => Int.add (.negSucc m) b) a b
def subS (a b : Int) : Int := @Int.rec (fun _ => Int → Int) (fun m b => @Int.rec (fun _ => Int) (fun n => (@Bool.rec (fun _ => Int) (.negSucc (Nat.sub (Nat.sub n m) 1)) (.ofNat (Nat.sub m n)) (Nat.ble n m))) (fun n => Int.sub (.ofNat m) (.negSucc n)) b) (fun m b => Int.sub (.negSucc m) b) a b
def ltS (a b : Int) : Bool := @Int.rec (fun _ => Int → Bool) (fun m b => @Int.rec (fun _ => Bool) (fun n => Nat.ble (Nat.succ m) n) (fun n => false) b) (fun m b => decide (Int.negSucc m < b)) a b
def leS (a b : Int) : Bool := @Int.rec (fun _ => Int → Bool) (fun m b => @Int.rec (fun _ => Bool) (fun n => Nat.ble m n) (fun n => false) b) (fun m b => decide (Int.negSucc m ≤ b)) a b
def eqS (a b : Int) : Bool := @Int.rec (fun _ => Int → Bool) (fun m b => @Int.rec (fun _ => Bool) (fun n => Nat.beq m n) (fun n => false) b) (fun m b => @Int.rec (fun _ => Bool) (fun n => false) (fun n => Nat.beq m n) b) a b
structure WK where
  run : Int → Int
def wrapS (kd : Nat) : WK := ⟨fun n => @Int.rec (fun _ => Int) (fun m => (@Bool.rec (fun _ => Int) ((kc kd).wrap (.ofNat m)) (.ofNat m) (Nat.ble m (hiN kd)))) (fun m => wrapK kd (.negSucc m)) n⟩
structure IOp where
  run : Nat → Int → Int → KS → H → Nat → Res
def iop (op : BinOp) : IOp :=
  match op with
  | .add => ⟨fun kd a b k hp n => k (.int kd ((wrapS kd).run (addS a b))) hp n⟩
  | .sub => ⟨fun kd a b k hp n => k (.int kd ((wrapS kd).run (subS a b))) hp n⟩
  | .eql => ⟨fun kd a b k hp n => k (.bool (eqS a b)) hp n⟩
  | .neq => ⟨fun kd a b k hp n => k (.bool ((@Bool.rec (fun _ => Bool) (true) (false) (eqS a b)))) hp n⟩
  | .lss => ⟨fun kd a b k hp n => k (.bool (ltS a b)) hp n⟩
  | .leq => ⟨fun kd a b k hp n => k (.bool (leS a b)) hp n⟩
  | .gtr => ⟨fun kd a b k hp n => k (.bool (ltS b a)) hp n⟩
  | .geq => ⟨fun kd a b k hp n => k (.bool (leS b a)) hp n⟩
  | op => ⟨fun kd a b k hp n => intOp op kd a b (fun v => k v hp n)⟩
def isShift (op : BinOp) : Bool := match op with | .shl => true | .shr => true | _ => false
/-! ### Memory -/
def nthS (l : List CV) : Nat → (CV → Res) → Res :=
  @List.rec CV (fun _ => Nat → (CV → Res) → Res) (fun _ _ => none) (fun c _ ih i k => @Nat.rec (fun _ => Res) (k c) (fun j _ => ih j k) i) l
def rdS (c : Ck) (o : Nat) (k : CV → Res) : Res :=
  @Ck.rec (fun _ => Res) none (fun cs => nthS cs o k) (fun l n => (@Bool.rec (fun _ => Res) (none) (k (.int 4 (.ofNat (bnth n o)))) (Nat.ble (Nat.succ o) l))) (fun _ _ => none) (fun _ _ _ _ => none) (fun _ _ _ => none) none none (fun _ _ _ _ _ _ _ _ => none) (fun cs => nthS cs o k) c
def putS (v : CV) (l : List CV) : Nat → (List CV → Res) → Res :=
  @List.rec CV (fun _ => Nat → (List CV → Res) → Res) (fun _ _ => none) (fun c r ih i k => @Nat.rec (fun _ => Res) (k (v :: r)) (fun j _ => ih j (fun r' => k (c :: r'))) i) l
def dropS (l : List CV) : Nat → List CV := @List.rec CV (fun _ => Nat → List CV) (fun _ => []) (fun c r ih i => @Nat.rec (fun _ => List CV) (c :: r) (fun j _ => ih j) i) l
def takeS (l : List CV) : Nat → (List CV → Res) → Res :=
  @List.rec CV (fun _ => Nat → (List CV → Res) → Res) (fun n k => @Nat.rec (fun _ => Res) (k []) (fun _ _ => none) n) (fun c _ ih n k => @Nat.rec (fun _ => Res) (k []) (fun j _ => ih j (fun r => k (c :: r))) n) l
def onCells (c : Ck) (q : List CV → Res) (e : Res) : Res :=
  @Ck.rec (fun _ => Res) e (fun cs => q cs) (fun _ _ => e) (fun _ _ => e) (fun _ _ _ _ => e) (fun _ _ _ => e) e e (fun _ _ _ _ _ _ _ _ => e) (fun _ => e) c
def newS (hp : H) (n : Nat) (c : Ck) (k : Nat → H → Nat → Res) : Res :=
  (@Bool.rec (fun _ => Res) (none) (k (Nat.mod n 1048576) (hsetS hp (Nat.mod n 1048576) c) (Nat.succ n)) (Nat.ble (Nat.succ (Nat.mod n 1048576)) (Nat.div n 1048576)))
def afterS (mg : Bool) (n : Nat) (r : Res) (k : KS) : Res :=
  @Option.rec (List Out) (fun _ => Res) none (fun l => @List.rec Out (fun _ => Res) none (fun o os _ => @List.rec Out (fun _ => Res) (@Out.rec (fun _ => Res) (fun v hp n => k v hp n) o) (fun p os _ => after mg n (some (o :: p :: os)) k) os) l) r
abbrev Rn := Nat → Cn
structure Cl where
  run : Rn → Rn → F → H → Nat → KS → Res
structure CR where
  run : Rn → Rn → F → H → Nat → (F → H → Nat → Res) → Res
structure CC where
  run : Rn → Rn → Option Nat → F → H → Nat → (F → H → Nat → Res) → (Nat → F → H → Nat → Res) → (F → H → Nat → Res) → Res
section
variable (P : Program) (ctrs : List (Nat × Option Cn))
def plainB (x : CV) : Bool := @CV.rec (fun _ => Bool) (fun _ => Unit) (fun _ _ => true) (fun _ => true) (fun _ _ => true) (fun _ _ => true) true (fun _ _ _ _ _ _ => true) true (fun _ => true) true (fun _ _ _ _ _ => true) (fun _ _ _ => true) (fun _ => true) true (fun _ _ _ => true) true (fun _ _ => false) (fun _ _ => false) false () (fun _ _ _ _ => ()) x
def noJunk (x : CV) : Bool := @CV.rec (fun _ => Bool) (fun _ => Unit) (fun _ _ => true) (fun _ => true) (fun _ _ => true) (fun _ _ => true) true (fun _ _ _ _ _ _ => true) true (fun _ => true) true (fun _ _ _ _ _ => true) (fun _ _ _ => true) (fun _ => true) true (fun _ _ _ => true) true (fun _ _ => true) (fun _ _ => true) false () (fun _ _ _ _ => ()) x
/-! ### Operations -/
def sLoad (t : Nat) (a : Operand) : Cl :=
  match tyA P t with
  | some (false, _) => ⟨fun bd rd fr hp n k => isPtr ((sOpd a).run fr) (fun b o => rdS (hgetS hp b) o (fun c => k c hp n)) none⟩
  | some (true, m) => ⟨fun bd rd fr hp n k => isPtr ((sOpd a).run fr) (fun b o => onCells (hgetS hp b) (fun cs => takeS (dropS cs o) m (fun r => k (.agg r) hp n)) (qLoad P fr hp t a (fun v => k v hp n))) none⟩
  | none => ⟨fun _ _ _ _ _ _ => none⟩
def sStore (t : Nat) (a v : Operand) : Cl :=
  match tySz P t with
  | some 1 => ⟨fun bd rd fr hp n k => isPtr ((sOpd a).run fr) (fun b o => (fun x => (@Bool.rec (fun _ => Res) (lStore P fr hp n t a v k) (onCells (hgetS hp b) (fun cs => putS x cs o (fun r => k (.tup []) (hsetS hp b (.cells r)) n)) (lStore P fr hp n t a v k)) (plainB x))) ((sOpd v).run fr)) none⟩
  | _ => ⟨fun bd rd fr hp n k => lStore P fr hp n t a v k⟩
def sBin (op : BinOp) (t : Nat) (x y : Operand) : Cl :=
  match isShift op with
  | true => ⟨fun bd rd fr hp n k => qBin P fr hp op t x y (fun v => k v hp n)⟩
  | false => ⟨fun bd rd fr hp n k => isInt ((sOpd x).run fr) (fun kd i => isInt ((sOpd y).run fr) (fun kd' j => (@Bool.rec (fun _ => Res) (none) ((iop op).run kd i j k hp n) (Nat.beq kd kd'))) (qBin P fr hp op t x y (fun v => k v hp n))) (qBin P fr hp op t x y (fun v => k v hp n))⟩
def sFieldA (s : Nat) (x : Operand) (f : Nat) : Cl :=
  match tyD P s with
  | some (.struct fs) => (match nthL fs.toList f with
    | some fd => (match tySz P fd.type with
      | some (_ + 1) => ⟨fun bd rd fr hp n k => isPtr ((sOpd x).run fr) (fun b o => k (.ptr b (Nat.add o fd.offset)) hp n) none⟩
      | _ => ⟨fun _ _ _ _ _ _ => none⟩)
    | none => ⟨fun _ _ _ _ _ _ => none⟩)
  | _ => ⟨fun _ _ _ _ _ _ => none⟩
def sIndexA (t : Nat) (x ix : Operand) : Cl :=
  match tyD P t with
  | some (.slice e) => (match tySz P e with
    | some (m + 1) => ⟨fun bd rd fr hp n k => isInt ((sOpd ix).run fr) (fun _ i => @Int.rec (fun _ => Res) (fun i => isSlice ((sOpd x).run fr) (fun b o s l _ _ => (@Bool.rec (fun _ => Res) (none) ((@Bool.rec (fun _ => Res) (none) (k (.ptr b (Nat.add o (Nat.mul i s))) hp n) (Nat.beq s (Nat.succ m)))) (Nat.ble (Nat.succ i) l))) none) (fun _ => none) i) none⟩
    | _ => ⟨fun _ _ _ _ _ _ => none⟩)
  | _ => ⟨fun bd rd fr hp n k => qIndexA P fr t x ix (fun v => k v hp n)⟩
def sExtract (t : Operand) (ix : Nat) : Cl := ⟨fun bd rd fr hp n k => isTup ((sOpd t).run fr) (fun vs => nthS vs ix (fun v => k v hp n)) none⟩
def sPick (c a b : Operand) : Cl := ⟨fun bd rd fr hp n k => isBool ((sOpd c).run fr) (fun q => (@Bool.rec (fun _ => Res) (k ((sOpd b).run fr) hp n) (k ((sOpd a).run fr) hp n) (q))) none⟩
def sAlloc (t : Nat) : Cl :=
  match zeroC P t with
  | some cs => (match Nat.beq t bldT with
    | true => ⟨fun bd rd fr hp n k => newS hp n (.tcells cs) (fun i hp n => k (.ptr i 0) hp n)⟩
    | false => ⟨fun bd rd fr hp n k => newS hp n (.cells cs) (fun i hp n => k (.ptr i 0) hp n)⟩)
  | none => ⟨fun _ _ _ _ _ _ => none⟩
def sConv (s d : Nat) (x : Operand) : Cl :=
  match tyD P d, tyD P s with
  | some (.int kd), some _ => ⟨fun bd rd fr hp n k => isInt ((sOpd x).run fr) (fun _ i => k (.int (kn kd) ((wrapS (kn kd)).run i)) hp n) none⟩
  | _, _ => ⟨fun bd rd fr hp n k => lConv P fr hp n s d x k⟩
def sCall (c : Call) : Cl :=
  match c.callee with
  | .value (.func f) => (match assoc ctrs f with
    | some c' => (match c' with
      | some c' => ⟨fun bd rd fr hp n k => afterS true n (c' ((sOpds c.args.toList).run fr) hp n) k⟩
      | none => ⟨fun bd rd fr hp n k => afterS false n (bd f ((sOpds c.args.toList).run fr) hp n) k⟩)
    | none => ⟨fun bd rd fr hp n k => afterS true n (bd f ((sOpds c.args.toList).run fr) hp n) k⟩)
  | .value f => ⟨fun bd rd fr hp n k => callV P ctrs bd rd ((sOpd f).run fr) ((sOpds c.args.toList).run fr) hp n k⟩
  | .builtin b => (match b, c.args.toList, c.argTypes.toList with
    | .len, [x], t :: _ => (match tyD P t with
      | some (.slice _) => ⟨fun bd rd fr hp n k => isSlice ((sOpd x).run fr) (fun _ _ _ l _ _ => k (.int 3 (.ofNat l)) hp n) (qLen P hp ((sOpd x).run fr) t (fun v => k v hp n))⟩
      | _ => ⟨fun bd rd fr hp n k => lCallB P fr hp n b c.args.toList c.argTypes.toList k⟩)
    | _, _, _ => ⟨fun bd rd fr hp n k => lCallB P fr hp n b c.args.toList c.argTypes.toList k⟩)
  | .invoke r name => ⟨fun bd rd fr hp n k => match (sOpd r).run fr with
    | .ifc t v => (match methodAt P t name with
      | some f => callF ctrs bd f (v :: (sOpds c.args.toList).run fr) hp n k
      | none => none)
    | _ => none⟩
def sOp (o : Op) : Cl :=
  match o with
  | .alloc t => sAlloc P t
  | .box t x => ⟨fun bd rd fr hp n k => lBox fr hp n t x k⟩
  | .store t a v => sStore P t a v
  | .makeSlice t l c => ⟨fun bd rd fr hp n k => lMakeS P fr hp n t l c k⟩
  | .makeMap t r => ⟨fun bd rd fr hp n k => lMakeM P fr hp n t r k⟩
  | .buildSlice t len parts => ⟨fun bd rd fr hp n k => lBuildS P fr hp n t len parts k⟩
  | .mapUpdate t m x v => ⟨fun bd rd fr hp n k => lMapUp P fr hp n t m x v k⟩
  | .insert t m x v => ⟨fun bd rd fr hp n k => lMapUp P fr hp n t m x v k⟩
  | .mapEntry t m x => ⟨fun bd rd fr hp n k => lMapEntry P fr hp n t m x k⟩
  | .entryStore t m s v => ⟨fun bd rd fr hp n k => lEntryStore fr hp n m s v k⟩
  | .range t x => ⟨fun bd rd fr hp n k => lRange P fr hp n t x k⟩
  | .next x str => ⟨fun bd rd fr hp n k => lNext fr hp n x str k⟩
  | .entry x => ⟨fun bd rd fr hp n k => lEntry fr hp n x k⟩
  | .convert s d x => sConv P s d x
  | .call c => sCall P ctrs c
  | .move x => ⟨fun bd rd fr hp n k => k ((sOpd x).run fr) hp n⟩
  | .assign x => ⟨fun bd rd fr hp n k => k ((sOpd x).run fr) hp n⟩
  | .pick c a b => sPick c a b
  | .load t a => sLoad P t a
  | .nilCheck x => ⟨fun bd rd fr hp n k => qNil P fr x (fun v => k v hp n)⟩
  | .binOp op t x y _ => sBin P op t x y
  | .unOp op _ x => ⟨fun bd rd fr hp n k => qUn fr op x (fun v => k v hp n)⟩
  | .makeInterface t x => ⟨fun bd rd fr hp n k => qMakeI P fr t x (fun v => k v hp n)⟩
  | .makeFunc fn a b => ⟨fun bd rd fr hp n k => qMakeF fr fn a b (fun v => k v hp n)⟩
  | .slice t x lo hi mx => ⟨fun bd rd fr hp n k => qSlice P fr hp t x lo hi mx (fun v => k v hp n)⟩
  | .fieldAddr s x f => sFieldA P s x f
  | .field t x f => ⟨fun bd rd fr hp n k => qField P fr t x f (fun v => k v hp n)⟩
  | .indexAddr t x ix => sIndexA P t x ix
  | .index t x ix => ⟨fun bd rd fr hp n k => qIndex P fr t x ix (fun v => k v hp n)⟩
  | .lookup t x ix ok => ⟨fun bd rd fr hp n k => qLook P fr hp t x ix ok (fun v => k v hp n)⟩
  | .typeAssert x xt t ok => ⟨fun bd rd fr hp n k => qAssert P fr x xt t ok (fun v => k v hp n)⟩
  | .extract t ix => sExtract t ix
  | .build t parts => ⟨fun bd rd fr hp n k => qBuild P fr t parts (fun v => k v hp n)⟩
  | _ => ⟨fun _ _ _ _ _ _ => none⟩
def sStep (o : Oper) (next : CR) : CR :=
  match o.op with
  | .defer c => ⟨fun bd rd fr hp n k => match lDefer c fr with | some d => next.run bd rd (putD (pushD fr d) o.dst (.tup [])) hp n k | none => none⟩
  | op => (match o.dst with
    | some d => ⟨fun bd rd fr hp n k => (sOp P ctrs op).run bd rd fr hp n (fun v hp n => next.run bd rd ((sSet d).run v fr) hp n k)⟩
    | none => ⟨fun bd rd fr hp n k => (sOp P ctrs op).run bd rd fr hp n (fun v hp n => next.run bd rd fr hp n k)⟩)
def sSeq (ops l : List Oper) : CR :=
  @List.rec Oper (fun _ => CR) ⟨fun _ _ fr hp n k => k fr hp n⟩ (fun o _ next =>
    match o.guard with
    | none => sStep P ctrs o next
    | some g => ⟨fun bd rd fr hp n k => match guardOf ops fr (some g) with
      | .go => (sStep P ctrs o next).run bd rd fr hp n k
      | .skip => next.run bd rd (putD fr o.dst (.tup [])) hp n k
      | .bad => none⟩) l
/-! Regions that draw their order: what has been listed is a number's bits; what they wait for is told once. -/
def depM (l : List Edge) : Nat := @List.rec Edge (fun _ => Nat) 0 (fun e _ ih => bif Region.binds .any e then Nat.lor (Nat.pow 2 e.on) ih else ih) l
def depsM (l : List Oper) : List Nat := @List.rec Oper (fun _ => List Nat) [] (fun o _ ih => depM o.after.toList :: ih) l
def readyM (m : Nat) (l : List Nat) : Nat → List Nat :=
  @List.rec Nat (fun _ => Nat → List Nat) (fun _ => []) (fun d _ ih i => bif (bif Nat.beq (Nat.land m (Nat.pow 2 i)) 0 then Nat.beq (Nat.land m d) d else false) then i :: ih (i + 1) else ih (i + 1)) l
def apM (ops : Array Oper) (i : Nat) (oi : Oper) (l : List Oper) : Nat → Nat :=
  @List.rec Oper (fun _ => Nat → Nat) (fun _ => 0) (fun oj _ ih j => bif (bif Nat.beq j i then true else bif oj.after.any (fun e => Region.binds .any e && e.on == i) then true else oi.apart ops oj) then Nat.lor (Nat.pow 2 j) (ih (j + 1)) else ih (j + 1)) l
def apMs (ops : Array Oper) (i : Nat) : Nat := match nthL ops.toList i with | some oi => apM ops i oi ops.toList 0 | none => 0
def freeM (ops : Array Oper) (m i : Nat) : Bool := match Nat.pow 2 ops.size - 1 with | f => Nat.beq (Nat.land (Nat.lor m (apMs ops i)) f) f
structure DR where
  run : Rn → Rn → Nat → List (Nat × Nat) → List Rec → F → H → Nat → (F → H → Nat → Res) → Res
def sLevA (ops : List Oper) (j : Nat) (op : Op) (bd rd : Rn) (n0 : Nat) (rs : List (Nat × Nat)) (fr : F) (hp : H) (n : Nat) (k : KS) : Res :=
  bif allocLike op then (sOp P ctrs op).run bd rd fr hp (mkN (n0 + rankA ops j + 1) (n0 + rankA ops j)) (fun v hp _ => k v hp n) else
    (match assoc rs j with
    | some i => (sOp P ctrs op).run bd rd fr hp (mkN (i + wRange) i) (fun v hp _ => k v hp n)
    | none => (sOp P ctrs op).run bd rd fr hp n k)
def sDraw (ops : Array Oper) (fuel : Nat) : Nat → DR :=
  @Nat.rec (fun _ => Nat → DR) (fun _ => ⟨fun _ _ _ _ _ _ _ _ _ => none⟩) (fun _ ih m =>
    match readyM m (depsM ops.toList) 0 with
    | [] => ⟨fun _ _ _ _ _ fr hp n k => k fr hp n⟩
    | i0 :: rest => @List.rec Nat (fun _ => DR)
      ⟨fun bd rd n0 rs recs fr hp n k => (match (bif twoCalls ops.toList 0 (i0 :: rest) then giveR ops.toList (i0 :: rest) rs n else (rs, n)) with
        | (rs, m') => bif (bif Nat.ble (idN m') (limN m') then Nat.beq (limN m') (limN n) else false) then eachI (fun j => match nthL ops.toList j with
          | some o => (match guardOf ops.toList fr o.guard with
            | .go => sLevA P ctrs ops.toList j o.op bd rd n0 rs fr hp m' fun v hp n =>
                (match recs.filter fun r => !(waits o r.i) with
                | recs => bif recs.all (recOk P hp) then (ih (Nat.lor m (Nat.pow 2 j))).run bd rd n0 rs recs ((sPut o.dst).run v fr) hp n k else none)
            | _ => none)
          | none => none) (i0 :: rest) else none)⟩
      (fun i _ next => match nthL ops.toList i with
        | none => next
        | some o => (match o.guard with
          | none => (match quietOp P o.op with
            | true => (match freeM ops m i with
              | true => ⟨fun bd rd n0 rs recs fr hp n k => (sOp P ctrs o.op).run bd rd fr hp n (fun v hp n => (ih (Nat.lor m (Nat.pow 2 i))).run bd rd n0 rs (@Bool.rec (fun _ => List Rec) (⟨i, o, fr, v⟩ :: recs) recs (pureOp o.op)) ((sPut o.dst).run v fr) hp n k)⟩
              | false => ⟨fun _ _ _ _ _ _ _ _ _ => none⟩)
            | false => next)
          | some g => ⟨fun bd rd n0 rs recs fr hp n k => match guardOf ops.toList fr (some g) with
            | .skip => bif freeM ops m i then (ih (Nat.lor m (Nat.pow 2 i))).run bd rd n0 rs recs ((sPut o.dst).run (.tup []) fr) hp n k else none
            | .go => bif quietOp P o.op then (bif freeM ops m i then (sOp P ctrs o.op).run bd rd fr hp n (fun v hp n => (ih (Nat.lor m (Nat.pow 2 i))).run bd rd n0 rs (@Bool.rec (fun _ => List Rec) (⟨i, o, fr, v⟩ :: recs) recs (pureOp o.op)) ((sPut o.dst).run v fr) hp n k) else none) else next.run bd rd n0 rs recs fr hp n k
            | .bad => bif quietOp P o.op then none else next.run bd rd n0 rs recs fr hp n k⟩)) (i0 :: rest)) fuel
def sRegion (ops : Array Oper) (draw : Bool) : CR :=
  match draw with
  | false => sSeq P ctrs ops.toList ops.toList
  | true => (match (bif P.follows .mixedOrders then (bif Region.noSelect ops then noDefer ops.toList else false) else false) with
    | true => ⟨fun bd rd fr hp n k => bif Nat.ble (idN n + countA ops.toList) (limN n) then (sDraw P ctrs ops (ops.size + 1) 0).run bd rd (idN n) [] [] fr hp (n + countA ops.toList) k else none⟩
    | false => ⟨fun _ _ _ _ _ _ => none⟩)
def sLoop (c : CC) (bd rd : Rn) (ro : Option Nat) (kn : F → H → Nat → Res) (ke : Nat → F → H → Nat → Res) (kr : F → H → Nat → Res) (fuel : Nat) : F → H → Nat → Res :=
  @Nat.rec (fun _ => F → H → Nat → Res) (fun _ _ _ => none) (fun _ ih fr hp n => c.run bd rd ro fr hp n ih ke kr) fuel
def loopFuel : Nat := 1000000
def sCode (fn : Nat) : Code → CC
  | .skip => ⟨fun bd rd ro fr hp n kn ke kr => kn fr hp n⟩
  | .label _ => ⟨fun bd rd ro fr hp n kn ke kr => kn fr hp n⟩
  | .region _ ops draw => ⟨fun bd rd ro fr hp n kn ke kr => (sRegion P ctrs ops draw).run bd rd fr hp n kn⟩
  | .seq a b => ⟨fun bd rd ro fr hp n kn ke kr => (sCode fn a).run bd rd ro fr hp n (fun fr hp n => (sCode fn b).run bd rd ro fr hp n kn ke kr) ke kr⟩
  | .cond x a b => ⟨fun bd rd ro fr hp n kn ke kr => isBool ((sOpd x).run fr) (fun q => @Bool.rec (fun _ => Res) ((sCode fn b).run bd rd ro fr hp n kn ke kr) ((sCode fn a).run bd rd ro fr hp n kn ke kr) q) none⟩
  | .block id b => ⟨fun bd rd ro fr hp n kn ke kr => (sCode fn b).run bd rd ro fr hp n kn (fun i fr hp n => @Bool.rec (fun _ => Res) (ke i fr hp n) (kn fr hp n) (Nat.beq i id)) kr⟩
  | .exit id => ⟨fun bd rd ro fr hp n kn ke kr => ke id fr hp n⟩
  | .ret => ⟨fun bd rd ro fr hp n kn ke kr => kr fr hp n⟩
  | .loop b => ⟨fun bd rd ro fr hp n kn ke kr => sLoop (sCode fn b) bd rd ro kn ke kr loopFuel fr hp n⟩
  | .rangeFunc g ps assign body => ⟨fun bd rd ro fr hp n kn ke kr => match enterL ro fn ps.toList assign body fr hp n with
      | some (l, fr, hp, n) => callR ctrs bd (lk fr g) [.yld l] hp n (fun _ hp n =>
        match endL l hp with
        | some (j, hp) => jump j fr hp n kn ke kr
        | none => none)
      | none => none⟩
  | _ => ⟨fun _ _ _ _ _ _ _ _ _ => none⟩
structure CF where
  run : Rn → Rn → Rn → Cn
variable (dctrs : List (Nat × Cn))
def argS (args : List CV) : Nat → F → F := @List.rec CV (fun _ => Nat → F → F) (fun _ fr => fr) (fun c _ ih i fr => ih (Nat.succ i) ((sSet i).run c fr)) args
def lenS (args : List CV) : Nat := @List.rec CV (fun _ => Nat) 0 (fun _ _ ih => Nat.succ ih) args
structure CV1 where
  run : F → H → (List CV → Res) → Res
def sRes (l : List ResultVar) : CV1 :=
  @List.rec ResultVar (fun _ => CV1) ⟨fun _ _ k => k []⟩ (fun r _ ih =>
    match r with
    | .tmp t => ⟨fun fr hp k => (fun x => @Bool.rec (fun _ => Res) none (ih.run fr hp (fun vs => k (x :: vs))) (noJunk x)) ((sTmp t).run fr)⟩
    | .cell a t => (match tyA P t with
      | some (false, _) => ⟨fun fr hp k => isPtr ((sTmp a).run fr) (fun b o => rdS (hgetS hp b) o (fun c => ih.run fr hp (fun vs => k (c :: vs)))) none⟩
      | some (true, m) => ⟨fun fr hp k => isPtr ((sTmp a).run fr) (fun b o => match rdN hp b o m with | some cs => ih.run fr hp (fun vs => k (.agg cs :: vs)) | none => none) none⟩
      | none => ⟨fun _ _ _ => none⟩)) l
def outS (vs : List CV) (hp : H) (n : Nat) : Res :=
  @List.rec CV (fun _ => Res) (some [⟨.tup [], hp, n⟩]) (fun v r _ => @List.rec CV (fun _ => Res) (some [⟨v, hp, n⟩]) (fun w r _ => some [⟨.tup (v :: w :: r), hp, n⟩]) r) vs
structure CE where
  run : Rn → F → H → Nat → Res
def sFin (fn : Func) : CE := ⟨fun db fr hp n => isTup (fget fr dfSlot) (fun l => runDs dctrs db l hp n (fun hp n => (sRes P fn.results.toList).run fr hp (fun vs => outS vs hp n))) ((sRes P fn.results.toList).run fr hp (fun vs => outS vs hp n))⟩
def sFinD (fn : Func) : CE := ⟨fun _ fr hp n => isTup (fget fr dfSlot) (fun _ => none) ((sRes P fn.results.toList).run fr hp (fun vs => outS vs hp n))⟩
def sEnd (m : Nat) (fn : Func) : CE := match m with | 0 => sFin P dctrs fn | _ => sFinD P fn
def sFun (m f : Nat) : CF :=
  match look P.funcs.toList f with
  | none => ⟨fun _ _ _ _ _ _ => none⟩
  | some fn => (match fn.body with
    | none => ⟨fun _ _ _ _ _ _ => none⟩
    | some c => (match (bif Nat.ble fn.ntmps 511 then !(fn.name == "runtime.NumGoroutine") else false) with
      | true => ⟨fun bd rd db args hp n => @Bool.rec (fun _ => Res) none
          ((sCode P ctrs f c).run bd rd none (argS args 0 (F0 (Nat.add (lenS args) (Nat.sub fn.ntmps (lenS args))))) hp n ((sEnd P dctrs m fn).run db) (fun _ _ _ _ => none) ((sEnd P dctrs m fn).run db)) (Nat.ble (lenS args) 511)⟩
      | false => ⟨fun _ _ _ _ _ _ => none⟩))
def sRound (bd rd : Rn) (l : Nat) (args : List CV) (hp : H) (n : Nat) : Res :=
  match hget hp l with
  | .loop fn fr ps assign body db st pend => bif Nat.beq st 0 then (match putPs ps args (fput fr dfSlot .nili) with
    | some fr => (sCode P ctrs fn assign).run bd rd (some l) fr hp n (fun fr1 hp n => match hget hp l with
      | .loop fn0 fr0 ps0 a0 b0 db0 st0 pend0 => bif Nat.beq st0 0 then (sCode P ctrs fn body).run bd rd (some l) fr1 (hset hp l (.loop fn0 fr0 ps0 a0 b0 db0 1 pend0)) n
          (fun _ hp n => round.endR l none hp n) (fun i _ hp n => round.endR l (some (.exit i)) hp n) (fun _ hp n => round.endR l (some .ret) hp n) else none
      | _ => none) (fun _ _ _ _ => none) (fun _ _ _ => none)
    | none => none) else none
  | _ => none
def goS (fuel : Nat) : Nat → Rn :=
  @Nat.rec (fun _ => Nat → Rn) (fun _ _ _ _ _ => none) (fun _ ih m => match m with
    | 1 => fun l args hp n => sRound P ctrs (ih 0) (ih 1) l args hp n
    | m => fun f args hp n => (sFun P ctrs dctrs m f).run (ih 0) (ih 1) (ih 2) args hp n) fuel
end
end
end Go.Cx

