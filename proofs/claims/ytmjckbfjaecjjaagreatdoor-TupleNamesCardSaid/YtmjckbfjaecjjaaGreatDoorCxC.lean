/- A run with written-out values: calls, regions, code. -/
import Derived.Test.YtmjckbfjaecjjaaGreatDoorCxB
set_option linter.unusedVariables false
namespace Go.Cx
noncomputable section

abbrev Cn := List CV → H → Nat → Res
def assoc {α : Type} : List (Nat × α) → Nat → Option α
  | [], _ => none
  | (i, a) :: l, n => bif Nat.beq i n then some a else assoc l n
def eachO (k : KS) : Out → List Out → Res
  | o, [] => k o.v o.hp o.n
  | o, p :: l => Res.cat (k o.v o.hp o.n) (eachO k p l)
/-- On behind a call: with each of its outcomes, or with what they have in common. -/
def after (mg : Bool) (n : Nat) (r : Res) (k : KS) : Res :=
  match r with
  | none => none
  | some l => (match l with
    | [] => none
    | o :: os => (match os with
      | [] => k o.v o.hp o.n
      | p :: os => bif mg then (match meets o (p :: os) with | m => bif Nat.beq (limN m.n) (limN n) then k m.v m.hp m.n else none) else eachO k o (p :: os)))

section
variable (P : Program) (ctrs : List (Nat × Option Cn)) (bd : Nat → Cn) (rd : Nat → Cn)

/-! ### Calls -/
def callF (f : Nat) (args : List CV) (hp : H) (n : Nat) (k : KS) : Res :=
  match assoc ctrs f with
  | some c => (match c with | some c => after true n (c args hp n) k | none => after false n (bd f args hp n) k)
  | none => after true n (bd f args hp n) k
def callV (g : CV) (args : List CV) (hp : H) (n : Nat) (k : KS) : Res :=
  match g with
  | .fn f first caps => callF ctrs bd f ((first ++ args) ++ caps) hp n k
  | .yld l => after false n (rd l args hp n) k
  | .mth name (.ifc t v) => (match methodAt P t name with
    | some f => callF ctrs bd f (v :: args) hp n k
    | none => none)
  | _ => none
/-- The call of a range over a function. -/
def callR (g : CV) (args : List CV) (hp : H) (n : Nat) (k : KS) : Res :=
  match g with
  | .fn f first caps => (match assoc ctrs f with
    | some c => (match c with | some _ => none | none => after false n (bd f ((first ++ args) ++ caps) hp n) k)
    | none => after true n (bd f ((first ++ args) ++ caps) hp n) k)
  | _ => none
def lCall (c : Call) (fr : F) (hp : H) (n : Nat) (k : KS) : Res :=
  match c.callee with
  | .value f => callV P ctrs bd rd (lk fr f) (lks fr c.args.toList) hp n k
  | .builtin b => lCallB P fr hp n b c.args.toList c.argTypes.toList k
  | .invoke r name => (match lk fr r with
    | .ifc t v => (match methodAt P t name with
      | some f => callF ctrs bd f (v :: lks fr c.args.toList) hp n k
      | none => none)
    | _ => none)
/-- One operation, whichever. -/
def lev (o : Op) (fr : F) (hp : H) (n : Nat) (k : KS) : Res :=
  match o with
  | .alloc t => lAlloc P hp n t k
  | .box t x => lBox fr hp n t x k
  | .store t a v => lStore P fr hp n t a v k
  | .makeSlice t l c => lMakeS P fr hp n t l c k
  | .makeMap t r => lMakeM P fr hp n t r k
  | .buildSlice t len parts => lBuildS P fr hp n t len parts k
  | .mapUpdate t m x v => lMapUp P fr hp n t m x v k
  | .insert t m x v => lMapUp P fr hp n t m x v k
  | .mapEntry t m x => lMapEntry P fr hp n t m x k
  | .entryStore t m s v => lEntryStore fr hp n m s v k
  | .range t x => lRange P fr hp n t x k
  | .next x str => lNext fr hp n x str k
  | .entry x => lEntry fr hp n x k
  | .convert s d x => lConv P fr hp n s d x k
  | .call c => lCall P ctrs bd rd c fr hp n k
  | o => qev P fr hp o (fun v => k v hp n)

/-! ### Guards, regions in the order of their text -/
inductive Gd where | go | skip | bad
def dstOf (ops : List Oper) (j : Nat) : Option Nat := match nthL ops j with | some o => o.dst | none => none
def guardOf (ops : List Oper) (fr : F) (g : Option (Nat × Bool)) : Gd :=
  match g with
  | none => .go
  | some (j, want) => (match dstOf ops j with
    | some d => (match fg fr d with
      | .bool b => bif bbq b want then .go else .skip
      | .tup [] => .skip
      | _ => .bad)
    | none => .bad)
def putD (fr : F) (d : Option Nat) (v : CV) : F := match d with | some d => fset fr d v | none => fr
def pushD (fr : F) (d : CV) : F := match fget fr dfSlot with | .tup l => fput fr dfSlot (.tup (d :: l)) | _ => fput fr dfSlot (.tup [d])
/-- A deferred call (none within a round: its frame's slot says so). -/
def lDefer (c : Call) (fr : F) : Option CV :=
  match fget fr dfSlot with
  | .nili => none
  | _ => (match c.callee with
    | .value f => (match lk fr f with | .fn g a b => some (.tup (.fn g a b :: lks fr c.args.toList)) | _ => none)
    | _ => none)
def stepO (o : Oper) (fr : F) (hp : H) (n : Nat) (k : F → H → Nat → Res) : Res :=
  match o.op with
  | .defer c => (match lDefer c fr with | some d => k (putD (pushD fr d) o.dst (.tup [])) hp n | none => none)
  | op => lev P ctrs bd rd op fr hp n (fun v hp n => k (putD fr o.dst v) hp n)
def seqO (ops : List Oper) : List Oper → F → H → Nat → (F → H → Nat → Res) → Res
  | [], fr, hp, n, k => k fr hp n
  | o :: rest, fr, hp, n, k => (match guardOf ops fr o.guard with
    | .go => stepO P ctrs bd rd o fr hp n (fun fr hp n => seqO ops rest fr hp n k)
    | .skip => seqO ops rest (putD fr o.dst (.tup [])) hp n k
    | .bad => none)

/-! ### Regions that draw their order -/
def quietOp (P : Program) (o : Op) : Bool :=
  match o with
  | .move _ | .assign _ | .pick .. | .nilCheck _ | .binOp .. | .unOp .. | .fieldAddr .. | .field .. | .indexAddr .. | .index .. | .slice .. | .lookup .. | .load .. | .extract .. | .makeInterface .. | .makeFunc .. | .build .. | .typeAssert .. => true
  | .convert _ d _ => (match tyD P d with | some (.slice _) => false | _ => true)
  | .call c => (match c.callee with | .builtin .len => true | .builtin .cap => true | .builtin .max => true | .builtin .min => true | _ => false)
  | _ => false
/-- What these answer does not depend on the memory. -/
def pureOp (o : Op) : Bool := match o with | .move _ => true | .assign _ => true | .slice .. => true | _ => false
structure Rec where
  i : Nat
  o : Oper
  fr : F
  v : CV
def waits (o : Oper) (i : Nat) : Bool := o.after.any fun e => Region.binds .any e && e.on == i
def recOk (hp : H) (r : Rec) : Bool :=
  bif CV.det r.v then (match qev P r.fr hp r.o.op (fun v => bif CV.bq r.v v then some [] else none) with | some [] => true | _ => false) else false
def quietAt (fr : F) (ops : List Oper) (o : Oper) : Bool :=
  match guardOf ops fr o.guard with | .skip => true | _ => quietOp P o.op
def firstQuiet (fr : F) (ops : List Oper) : List Nat → Option (Nat × Oper)
  | [] => none
  | i :: l => (match nthL ops i with
    | some o => bif quietAt P fr ops o then some (i, o) else firstQuiet fr ops l
    | none => none)
def eachI (f : Nat → Res) : List Nat → Res
  | [] => some []
  | [i] => f i
  | i :: l => Res.cat (f i) (eachI f l)
/-- Does it make just one block? Its name is set aside when the region is entered. -/
def allocLike : Op → Bool
  | .alloc _ => true | .box _ _ => true | .makeMap _ _ => true | .makeSlice _ _ _ => true | .buildSlice _ _ _ => true | .convert _ _ _ => true | _ => false
def countA : List Oper → Nat
  | [] => 0
  | o :: l => bif allocLike o.op then countA l + 1 else countA l
def rankA : List Oper → Nat → Nat
  | [], _ => 0
  | _ :: _, 0 => 0
  | o :: l, j + 1 => bif allocLike o.op then rankA l j + 1 else rankA l j
def isDefer : Op → Bool | .defer _ => true | _ => false
def noDefer : List Oper → Bool
  | [] => true
  | o :: l => bif isDefer o.op then false else noDefer l
def isCall : Op → Bool | .call _ => true | _ => false
def wRange : Nat := 256
/-- The calls among these operations that have no names of their own yet get some. -/
def giveR (ops : List Oper) : List Nat → List (Nat × Nat) → Nat → List (Nat × Nat) × Nat
  | [], rs, n => (rs, n)
  | j :: l, rs, n => (match nthL ops j with
    | some o => bif isCall o.op then (match assoc rs j with
        | some _ => giveR ops l rs n
        | none => giveR ops l ((j, idN n) :: rs) (n + wRange))
      else giveR ops l rs n
    | none => giveR ops l rs n)
/-- Are there two calls among these? -/
def twoCalls (ops : List Oper) : Nat → List Nat → Bool
  | k, [] => Nat.ble 2 k
  | k, j :: l => (match nthL ops j with | some o => bif isCall o.op then twoCalls ops (k + 1) l else twoCalls ops k l | none => twoCalls ops k l)
/-- A loud operation of a region that draws its order; n0: the names set aside for what makes one block; rs: those of calls. -/
def levA (ops : List Oper) (n0 j : Nat) (rs : List (Nat × Nat)) (op : Op) (fr : F) (hp : H) (n : Nat) (k : KS) : Res :=
  bif allocLike op then lev P ctrs bd rd op fr hp (mkN (n0 + rankA ops j + 1) (n0 + rankA ops j)) (fun v hp _ => k v hp n) else
    (match assoc rs j with
    | some i => lev P ctrs bd rd op fr hp (mkN (i + wRange) i) (fun v hp _ => k v hp n)
    | none => lev P ctrs bd rd op fr hp n k)
def drawR (ops : Array Oper) (n0 : Nat) : Nat → Array Bool → List (Nat × Nat) → List Rec → F → H → Nat → (F → H → Nat → Res) → Res
  | 0, _, _, _, _, _, _, _ => none
  | fuel + 1, listed, rs, recs, fr, hp, n, k =>
    match Region.ready .any ops listed with
    | [] => k fr hp n
    | i :: rest =>
      match firstQuiet P fr ops.toList (i :: rest) with
      | some (i, o) =>
        bif Region.free .any ops listed i then
          (match guardOf ops.toList fr o.guard with
          | .go => qev P fr hp o.op (fun v => drawR ops n0 fuel (listed.setIfInBounds i true) rs (bif pureOp o.op then recs else ⟨i, o, fr, v⟩ :: recs) (putD fr o.dst v) hp n k)
          | .skip => drawR ops n0 fuel (listed.setIfInBounds i true) rs recs (putD fr o.dst (.tup [])) hp n k
          | .bad => none)
        else none
      | none => (match (bif twoCalls ops.toList 0 (i :: rest) then giveR ops.toList (i :: rest) rs n else (rs, n)) with
        | (rs, m) => bif (bif Nat.ble (idN m) (limN m) then Nat.beq (limN m) (limN n) else false) then eachI (fun j => match nthL ops.toList j with
          | some o => (match guardOf ops.toList fr o.guard with
            | .go => levA P ctrs bd rd ops.toList n0 j rs o.op fr hp m fun v hp n =>
                (match recs.filter fun r => !(waits o r.i) with
                | recs => bif recs.all (recOk P hp) then drawR ops n0 fuel (listed.setIfInBounds j true) rs recs (putD fr o.dst v) hp n k else none)
            | _ => none)
          | none => none) (i :: rest) else none)

/-! ### Code -/
def putPs : List Nat → List CV → F → Option F
  | [], [], fr => some fr
  | p :: ps, v :: vs, fr => putPs ps vs (fset fr p v)
  | _, _, _ => none
/-- Entering a range over a function: the loop's record (and, outside any round, the block for deferred calls, marked in the frame). -/
def enterL (ro : Option Nat) (fn : Nat) (ps : List Nat) (assign body : Code) (fr : F) (hp : H) (n : Nat) : Option (Nat × F × H × Nat) :=
  match ro with
  | none => bif Nat.blt (idN n + 1) (limN n) then some (idN n + 1, pushD fr (.ptr (idN n) 0), hset (hset hp (idN n) .dfr) (idN n + 1) (.loop fn fr ps assign body (idN n) 0 none), n + 2) else none
  | some l => (match hget hp l with
    | .loop _ _ _ _ _ db _ _ => bif Nat.blt (idN n) (limN n) then some (idN n, fr, hset hp (idN n) (.loop fn fr ps assign body db 0 none), n + 1) else none
    | _ => none)
/-- The function that was ranged over has ended: the jump that is pending. -/
def endL (l : Nat) (hp : H) : Option (Option Code × H) :=
  match hget hp l with
  | .loop fn fr ps assign body db st pend => bif Nat.beq st 1 then none else some (pend, hset hp l (.loop fn fr ps assign body db 3 pend))
  | _ => none
def jump (c : Option Code) (fr : F) (hp : H) (n : Nat) (kn : F → H → Nat → Res) (ke : Nat → F → H → Nat → Res) (kr : F → H → Nat → Res) : Res :=
  match c with
  | none => kn fr hp n
  | some .ret => kr fr hp n
  | some (.exit id) => ke id fr hp n
  | _ => none
def cx (fn : Nat) (ro : Option Nat) : Nat → Code → F → H → Nat → (F → H → Nat → Res) → (Nat → F → H → Nat → Res) → (F → H → Nat → Res) → Res
  | 0, _, _, _, _, _, _, _ => none
  | fuel + 1, c, fr, hp, n, kn, ke, kr =>
    match c with
    | .skip => kn fr hp n
    | .label _ => kn fr hp n
    | .region _ ops draw => bif draw then (bif (bif P.follows .mixedOrders then (bif Region.noSelect ops then noDefer ops.toList else false) else false) then bif Nat.ble (idN n + countA ops.toList) (limN n) then drawR P ctrs bd rd ops (idN n) (ops.size + 1) (Array.replicate ops.size false) [] [] fr hp (n + countA ops.toList) kn else none else none)
        else seqO P ctrs bd rd ops.toList ops.toList fr hp n kn
    | .seq a b => cx fn ro fuel a fr hp n (fun fr hp n => cx fn ro fuel b fr hp n kn ke kr) ke kr
    | .cond x a b => (match lk fr x with
      | .bool true => cx fn ro fuel a fr hp n kn ke kr
      | .bool false => cx fn ro fuel b fr hp n kn ke kr
      | _ => none)
    | .block id b => cx fn ro fuel b fr hp n kn (fun i fr hp n => bif Nat.beq i id then kn fr hp n else ke i fr hp n) kr
    | .exit id => ke id fr hp n
    | .ret => kr fr hp n
    | .loop b => cx fn ro fuel b fr hp n (fun fr hp n => cx fn ro fuel (.loop b) fr hp n kn ke kr) ke kr
    | .rangeFunc g ps assign body => (match enterL ro fn ps.toList assign body fr hp n with
      | some (l, fr, hp, n) => callR ctrs bd (lk fr g) [.yld l] hp n (fun _ hp n =>
        match endL l hp with
        | some (j, hp) => jump j fr hp n kn ke kr
        | none => none)
      | none => none)
    | _ => none

/-! ### Bodies -/
def resV (fr : F) (hp : H) : List ResultVar → Option (List CV)
  | [] => some []
  | .tmp t :: l => (match fg fr t with | .junk => none | v => (match resV fr hp l with | some r => some (v :: r) | none => none))
  | .cell a t :: l => (match fg fr a with
    | .ptr b o => (match tyA P t with
      | some (true, n) => (match rdN hp b o n with | some cs => (match resV fr hp l with | some r => some (.agg cs :: r) | none => none) | none => none)
      | some (false, _) => (match rd1 hp b o with | some c => (match resV fr hp l with | some r => some (c :: r) | none => none) | none => none)
      | none => none)
    | _ => none)
def argF : List CV → Nat → F → F
  | [], _, fr => fr
  | v :: l, i, fr => argF l (i + 1) (fset fr i v)
variable (dctrs : List (Nat × Cn)) (db : Nat → Cn) in
/-- The deferred calls, at a return. -/
def runDs : List CV → H → Nat → (H → Nat → Res) → Res
  | [], hp, n, k => k hp n
  | .ptr r 0 :: l, hp, n, k => (match hget hp r with | .dfr => runDs l (hset hp r .no) n k | _ => none)
  | .tup (.fn f first caps :: args) :: l, hp, n, k => (match assoc dctrs f with
    | some c => after true n (c ((first ++ args) ++ caps) hp n) (fun _ hp n => runDs l hp n k)
    | none => after true n (db f ((first ++ args) ++ caps) hp n) (fun _ hp n => runDs l hp n k))
  | _, _, _, _ => none
variable (dctrs : List (Nat × Cn)) (db : Nat → Cn) in
def fin (fn : Func) (fr : F) (hp : H) (n : Nat) : Res :=
  runDs dctrs db (match fget fr dfSlot with | .tup l => l | _ => []) hp n (fun hp n =>
    match resV P fr hp fn.results.toList with
    | some [v] => some [⟨v, hp, n⟩]
    | some vs => some [⟨.tup vs, hp, n⟩]
    | none => none)
/-- Leaving a body that was entered as a deferred call: it has deferred none itself. -/
def finD (fn : Func) (fr : F) (hp : H) (n : Nat) : Res :=
  match fget fr dfSlot with
  | .tup _ => none
  | _ => (match resV P fr hp fn.results.toList with
    | some [v] => some [⟨v, hp, n⟩]
    | some vs => some [⟨.tup vs, hp, n⟩]
    | none => none)
/-- A round of the loop l: the assignments, the body. -/
def round (l : Nat) (args : List CV) (hp : H) (n : Nat) : Res :=
  match hget hp l with
  | .loop fn fr ps assign body db st pend => bif Nat.beq st 0 then (match putPs ps args (fput fr dfSlot .nili) with
    | some fr => cx P ctrs bd rd fn (some l) 1000000 assign fr hp n (fun fr1 hp n => match hget hp l with
      | .loop fn0 fr0 ps0 a0 b0 db0 st0 pend0 => bif Nat.beq st0 0 then cx P ctrs bd rd fn (some l) 1000000 body fr1 (hset hp l (.loop fn0 fr0 ps0 a0 b0 db0 1 pend0)) n
          (fun _ hp n => endR l none hp n) (fun i _ hp n => endR l (some (.exit i)) hp n) (fun _ hp n => endR l (some .ret) hp n) else none
      | _ => none) (fun _ _ _ _ => none) (fun _ _ _ => none)
    | none => none) else none
  | _ => none
where
  endR (l : Nat) (j : Option Code) (hp : H) (n : Nat) : Res :=
    match hget hp l with
    | .loop fn fr ps a b db _ _ => some [⟨.bool j.isNone, hset hp l (.loop fn fr ps a b db (if j.isNone then 0 else 2) j), n⟩]
    | _ => none
end
/-- The body of a function, from its arguments on (0), a round of a loop (1), a body entered as a deferred call (2). -/
def go (P : Program) (ctrs : List (Nat × Option Cn)) (dctrs : List (Nat × Cn)) : Nat → Nat → Nat → Cn
  | 0, _, _, _, _, _ => none
  | fuel + 1, 1, l, args, hp, n => round P ctrs (go P ctrs dctrs fuel 0) (go P ctrs dctrs fuel 1) l args hp n
  | fuel + 1, m, f, args, hp, n =>
    match look P.funcs.toList f with
    | none => none
    | some fn => (match fn.body with
      | none => none
      | some c => bif (bif Nat.ble fn.ntmps 511 then (bif Nat.ble args.length 511 then !(fn.name == "runtime.NumGoroutine") else false) else false) then
          cx P ctrs (go P ctrs dctrs fuel 0) (go P ctrs dctrs fuel 1) f none 1000000 c (argF args 0 (F0 (args.length + (fn.ntmps - args.length)))) hp n
            (bif Nat.beq m 0 then fin P dctrs (go P ctrs dctrs fuel 2) fn else finD P fn) (fun _ _ _ _ => none) (bif Nat.beq m 0 then fin P dctrs (go P ctrs dctrs fuel 2) fn else finD P fn)
        else none)
def N0 : Nat := mkN 32767 0
/-- Does the function, called without arguments, answer true? -/
def yes (r : Res) : Bool := match r with | some [o] => (match o.v with | .bool b => b | _ => false) | _ => false
end
end Go.Cx
