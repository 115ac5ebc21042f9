/- The operations that write, regions, code: the symbolic run. -/
import Derived.Test.YtmjonggabppgaaaEngK
set_option linter.unusedSimpArgs false
set_option linter.unusedVariables false
namespace Go.Eng

/-! ### What arrays hold, by their elements' type -/
section
variable (P : Program)
def fdOf (t : TypeId) : Option Fd :=
  match P.underlying t with
  | some (.int k) => some (.int k)
  | some .bool => some .bool
  | some (.pointer _) => some .ptr
  | some (.slice e) => (match szOf P e with | some s => some (.slice s) | none => none)
  | some (.map _ _) => some .map
  | _ => none
/-- The cells of a type, flat. -/
def fdsOf : Nat → TypeId → Option (List Fd)
  | 0, _ => none
  | f + 1, t =>
    match P.underlying t with
    | some (.struct fs) => (fs.toList.foldr (fun fd acc => match fdsOf f fd.type, acc with | some a, some b => some (a ++ b) | _, _ => none) (some []))
    | some (.array n e) => (match fdsOf f e with | some a => some ((List.replicate n a).flatten) | none => none)
    | _ => (match fdOf P t with | some d => some [d] | none => none)
def enOf (t : TypeId) : Option En :=
  match P.underlying t with
  | some (.int .u8) => some .bytes
  | some (.int k) => some (.ints k)
  | _ => (match fdsOf P 10 t with | some fs => some (.rows fs) | none => none)

/-- One field into the integers of a row. -/
def Fd.enc : Fd → SC → Option (List SX)
  | .int k, .int k' e => bif Nat.beq (kn k) (kn k') then some [e] else none
  | .bool, .bool e => some [SX.mk1 3 e]
  | .ptr, .ptr b o => bif Nat.beq o 0 then some [b] else none
  | .slice _, .slice b o k z l c _ => bif SX.bq o (.int 0) then (bif SX.bq k (.int 0) then (bif SX.bq z (.int 0) then some [b, l, c] else none) else none) else none
  | .map, .map b => some [b]
  | _, _ => none
def encRow : List Fd → List SC → Option (List SX)
  | [], [] => some []
  | f :: fs, c :: cs => ob (f.enc c) fun a => ob (encRow fs cs) fun b => some (a ++ b)
  | _, _ => none
/-- An element: the obligations, the term. -/
def En.el (asm : List SX) (e : En) (cs : List SC) : Option (List SX × SX) :=
  match e, cs with
  | .ints k, [.int k' x] => bif Nat.beq (kn k) (kn k') then some ([], x) else none
  | .bytes, [.int .u8 x] => some (bif isByte x then [] else (match x with | .f1 14 _ => [] | x => need asm (eLe (.int 0) x) (need asm (eLe x (.int 255)) [])), x)
  | .rows fs, cs => ob (encRow fs cs) fun l => some ([], consI l)
  | _, _ => none
def En.consX (e : En) (el l : SX) : SX := SX.consT e.t el l
def En.appX (e : En) (a b : SX) : SX := SX.appT e.t a b
def En.takeX (e : En) (x n : SX) : SX := bif SX.bq n (e.lenX x) then x else (match n with | .int (.ofNat k) => SX.takeT e.t x k | n => .f2 (113 + e.t) x n)
def En.dropX (e : En) (x n : SX) : SX := bif SX.bq n (.int 0) then x else (match n with | .int (.ofNat k) => SX.dropT e.t x k | n => .f2 (116 + e.t) x n)
def En.repX (e : En) (n el : SX) : SX := SX.repT e.t n el
def En.setX (e : En) (x i el : SX) : SX := match i with | .int (.ofNat k) => SX.setT e.t el x k | i => .f3 (130 + e.t) x i el
/-- What a value of nothing holds: its element. -/
def zeroEl (e : En) (t : TypeId) : Option SX :=
  match zeroSCs P t with
  | some cs => (match En.el [] e cs with | some ([], x) => some x | _ => none)
  | none => none
def bytesOf (t : TypeId) : Option Nat := match P.info? t with | some i => some i.bytes | none => none
end

/-! ### Changing the chunks -/
def setCel (b : SX) (lo : Nat) (cs : List SC) : List Ch → Option (List Ch)
  | [] => none
  | .cel b' o old :: l => bif SX.bq b' b then (bif Nat.ble o lo then (bif Nat.ble (lo + cs.length) (o + old.length) then
        (match putCells old (lo - o) cs with | some new => some (.cel b' o new :: l) | none => none)
      else ob (setCel b lo cs l) fun r => some (.cel b' o old :: r)) else ob (setCel b lo cs l) fun r => some (.cel b' o old :: r)) else ob (setCel b lo cs l) fun r => some (.cel b' o old :: r)
  | c :: l => ob (setCel b lo cs l) fun r => some (c :: r)
/-- Takes the array out: its kind of elements, its content, its room, the rest. -/
def takeArr (b : SX) : List Ch → Option (En × SX × SX × List Ch)
  | [] => none
  | .arr e b' x c :: l => bif SX.bq b' b then some (e, x, c, l) else ob (takeArr b l) fun (e', x', c', r) => some (e', x', c', .arr e b' x c :: r)
  | c :: l => ob (takeArr b l) fun (e', x', c', r) => some (e', x', c', c :: r)
def takeMap (b : SX) : List Ch → Option (IntKind × Fd × SX × List Ch)
  | [] => none
  | .map kk v b' m :: l => bif SX.bq b' b then some (kk, v, m, l) else ob (takeMap b l) fun (a, a', a'', r) => some (a, a', a'', .map kk v b' m :: r)
  | c :: l => ob (takeMap b l) fun (a, a', a'', r) => some (a, a', a'', c :: r)

def room47 : SX := .int 140737488355328

/-- The elements that an append or a copy takes: their kind, how many, the term; the obligations. -/
def srcOf (hp : List Ch) (asm : List SX) : SV → Option (En × SX × SX × List SX)
  | .one (.slice b o k z l c s) => bif isNilLit b then none else ob (findArr b o s hp) fun (e, x) =>
      some (e, l, e.takeX (e.dropX x k) l, need asm (eLe (.int 0) k) (need asm (eLe (.int 0) l) (need asm (eLe l c) (need asm (eLe (SX.mk2 40 k l) (e.lenX x)) []))))
  | .one (.str t) => some (.bytes, SX.mk1 31 t, t, [])
  | _ => none

section
variable (P : Program)
def srcX (en : En) (hp : List Ch) (asm : List SX) (src : SV) : Option (En × SX × SX × List SX) :=
  match src with
  | .one (.slice (.int (.negSucc _)) _ _ _ (.int (.ofNat 0)) _ _) => some (en, SX.int 0, nilX en, [])
  | v => srcOf hp asm v
/-- A block is there, or nothing is in it. -/
def posFact (b n : SX) : SX := match n with | .int (.ofNat (_ + 1)) => eLe (.int 0) b | n => .f2 50 (eLe (.int 0) b) (eEq n (.int 0))
def zeroOk (t : TypeId) (n : Nat) : Bool := match P.info? t with | some i => (match i.zero with | some z => bif Nat.beq z.cells.size n then Nat.ble 1 n else false | none => false) | none => false
/-- The slice that stands behind an append: the obligations, the array's kind, its content behind it, the new length. -/
def appendX (hp : List Ch) (asm : List SX) (t : TypeId) (dst src : SV) : Option (List SX × List Ch × En × SX × SX × SX × Nat) :=
  match dst, P.underlying t with
  | .one (.slice b o k z l c s), some (.slice et) =>
    ob (bytesOf P et) fun bytes => ob (enOf P et) fun en => ob (szOf P et) fun sz =>
    bif (bif zeroOk P et sz then (bif Nat.ble 1 bytes then (bif Nat.beq sz en.stride then (bif SX.bq k (.int 0) then SX.bq z (.int 0) else false) else false) else false) else false) then
    ob (srcX en hp asm src) fun (e2, n, y, ns) =>
    bif decide (e2 = en) then
      ob (bif isNilLit b then (bif SX.bq c (.int 0) then some (en, nilX en, SX.int 0, hp) else none) else takeArr b hp) fun (e1, x, cap, rest) =>
      bif (bif decide (e1 = en) then (bif isNilLit b then true else (bif SX.bq o (.int 0) then SX.bq c cap else false)) else false) then
        some (need asm (eLe (.int 0) l) (need asm (eLe l (en.lenX x)) (need asm (eLe (SX.mk2 42 (SX.mk2 40 l n) (.int bytes)) room47) ns)),
          rest, en, en.appX (en.takeX x l) y, SX.mk2 40 l n, cap, sz)
      else none
    else none else none
  | _, _ => none

def sure (asm : List SX) (e : SX) : Bool := match e with | .bool b => b | e => inAsm e asm
/-- An append that surely finds room where it stands. -/
def appendIn (hp : List Ch) (asm : List SX) (t : TypeId) (dst src : SV) : Option (List SX × List Ch × SV) :=
  match dst, P.underlying t with
  | .one (.slice b o k z l c s), some (.slice et) =>
    ob (enOf P et) fun en => ob (szOf P et) fun sz =>
    bif (bif Nat.beq sz en.stride then (bif Nat.beq s sz then SX.bq o (.int 0) else false) else false) then
    ob (srcX en hp asm src) fun (e2, n, y, ns) =>
    ob (takeArr b hp) fun (e1, x, cap, rest) =>
    bif (bif decide (e2 = en) then decide (e1 = en) else false) then
      bif (bif sure asm (eLe (SX.mk2 40 l n) c) then true else bif SX.bq c (SX.mk2 41 cap k) then sure asm (eLe (SX.mk2 40 (SX.mk2 40 k l) n) (en.lenX x)) else false) then
        some (need asm (eLe (.int 0) k) (need asm (eLe (.int 0) l) (need asm (eLe (SX.mk2 40 l n) c) (need asm (eLe (SX.mk2 40 k l) (en.lenX x)) (need asm (eLe (SX.mk2 40 (SX.mk2 40 k l) n) cap) ns)))),
          .arr en b (en.appX (en.takeX x (SX.mk2 40 k l)) (en.appX y (en.dropX x (SX.mk2 40 (SX.mk2 40 k l) n)))) cap :: rest, .one (.slice b o k z (SX.mk2 40 l n) c s))
      else none
    else none else none
  | _, _ => none

/-- The operations that write or make memory, but for calls. -/
def lop (st : St) (o : Op) (K : SV → St → VC) : VC :=
  let L := lk st.fr
  match o with
  | .alloc t => (match zeroSCs P t with
    | some cs => bif SCs.lt st.n cs then fresh st [.int] [eLe (.int 0) (.at .int st.n)] (K (.one (.ptr (.at .int st.n) 0)) { st with hp := .cel (.at .int st.n) 0 cs :: st.hp, n := st.n + 1, asm := eLe (.int 0) (.at .int st.n) :: st.asm }) else .ff 10
    | none => .ff 10)
  | .box t v => (match svCells (L v) with
    | some cs => bif SCs.lt st.n cs then fresh st [.int] [eLe (.int 0) (.at .int st.n)] (K (.one (.ptr (.at .int st.n) 0)) { st with hp := .cel (.at .int st.n) 0 cs :: st.hp, n := st.n + 1, asm := eLe (.int 0) (.at .int st.n) :: st.asm }) else .ff 11
    | none => .ff 11)
  | .makeSlice t len cap => (match P.underlying t, intOfSV (L len), intOfSV (L cap) with
    | some (.slice et), some l, some c => (match enOf P et, bytesOf P et, szOf P et with
      | some en, some bytes, some sz => (match zeroEl P en et with
        | some z => bif (bif Nat.beq sz en.stride then (bif Nat.ble 1 bytes then (bif l.lt st.n then (bif c.lt st.n then z.lt st.n else false) else false) else false) else false) then
          (let ns := need st.asm (eLe (.int 0) l) (need st.asm (eLe l c) (need st.asm (eLe (SX.mk2 42 c (.int bytes)) room47) []))
          VC.needs ns (fresh (st.add ns) [.int] [eLe (.int 0) (.at .int st.n)] (K (.one (.slice (.at .int st.n) (.int 0) (.int 0) (.int 0) l c sz))
            { st with hp := .arr en (.at .int st.n) (en.repX l z) c :: st.hp, n := st.n + 1, asm := eLe (.int 0) (.at .int st.n) :: (ns ++ st.asm) }))) else .ff 12
        | none => .ff 12)
      | _, _, _ => .ff 12)
    | _, _, _ => .ff 12)
  | .makeMap t none => (match P.underlying t with
    | some (.map kt et) => (match P.underlying kt, fdOf P et with
      | some (.int kk), some v => fresh st [.int] [eLe (.int 0) (.at .int st.n)] (K (.one (.map (.at .int st.n)))
          { st with hp := .map kk v (.at .int st.n) (.f1 155 (.int 0)) :: st.hp, n := st.n + 1, asm := eLe (.int 0) (.at .int st.n) :: st.asm })
      | _, _ => .ff 13)
    | _ => .ff 13)
  | .buildSlice t len parts => (match P.underlying t with
    | some (.slice et) => (match enOf P et, szOf P et with
      | some en, some sz => bif (bif Nat.beq sz en.stride then (bif Nat.beq parts.size len then (bif Nat.ble (len * sz) 16777216 then (bif Nat.ble 1 sz then (zeroSCs P et).isSome else false) else false) else false) else false) then
        (match (parts.toList.zipIdx.foldr (fun (p : (Nat × Operand) × Nat) acc => match acc, svCells (L p.1.2) with
          | some (ns, x), some cs => bif Nat.beq p.1.1 p.2 then (match En.el st.asm en cs with | some (ns', el) => some (ns' ++ ns, en.consX el x) | none => none) else none
          | _, _ => none) (some (([] : List SX), nilX en))) with
        | some (ns, x) => bif x.lt st.n then VC.needs ns (fresh (st.add ns) [.int] [eLe (.int 0) (.at .int st.n)] (K (.one (.slice (.at .int st.n) (.int 0) (.int 0) (.int 0) (.int len) (.int len) sz))
            { st with hp := .arr en (.at .int st.n) x (.int len) :: st.hp, n := st.n + 1, asm := eLe (.int 0) (.at .int st.n) :: (ns ++ st.asm) })) else .ff 14
        | none => .ff 14) else .ff 14
      | _, _ => .ff 14)
    | _ => .ff 14)
  | .store t a v => (match L a, svCells (L v), szOf P t with
    | .one (.ptr b o), some cs, some n => bif Nat.beq cs.length n then (match setCel b o cs st.hp with
      | some hp => bif Nat.ble 1 n then K (.tup []) { st with hp := hp } else .ff 15
      | none => .ff 15) else .ff 15
    | .one (.ep b o i s j), some cs, some n => bif (bif Nat.beq cs.length n then (bif Nat.ble (j + n) s then SX.bq o (.int 0) else false) else false) then (match takeArr b st.hp with
      | some (en, x, c, rest) => bif Nat.beq s en.stride then (match putCells (en.get x i) j cs with
        | some row => (match En.el st.asm en row with
          | some (ns, el) => (let ns := need st.asm (eLe (.int 0) i) (need st.asm (eLt i (en.lenX x)) ns)
            VC.needs ns (K (.tup []) { st with hp := .arr en b (en.setX x i el) c :: rest, asm := ns ++ st.asm }))
          | none => .ff 16)
        | none => .ff 16) else .ff 16
      | none => .ff 16) else .ff 16
    | _, _, _ => .ff 16)
  | .mapUpdate t m k v => (match P.underlying t, L m, L k, L v with
    | some (.map kt et), .one (.map b), .one (.int k1 ke), .one c => (match takeMap b st.hp, P.underlying kt with
      | some (kk, vd, mm, rest), some (.int _) => bif Nat.beq (kn kk) (kn k1) then (match vd.enc c with
        | some [e] => K (.tup []) { st with hp := .map kk vd b (.f3 142 mm ke e) :: rest }
        | _ => .ff 17) else .ff 17
      | _, _ => .ff 17)
    | _, _, _, _ => .ff 17)
  | .call c => (match c.callee, c.args.toList, c.argTypes.toList with
    | .builtin .append, [d, s], [t, t2] => (match appendIn P st.hp st.asm t (L d) (L s), (match P.underlying t2 with | some (.int _) => false | some _ => true | none => false) with
      | some (ns, hp, sv), true => VC.needs ns (K sv { st with hp := hp, asm := ns ++ st.asm })
      | _, _ => match appendX P st.hp st.asm t (L d) (L s), (match P.underlying t2 with | some (.int _) => false | some _ => true | none => false) with
      | some (ns, rest, en, x, n, c, sz), true =>
        let b' : SX := .at .int st.n
        let c' : SX := .at .int (st.n + 1)
        let facts := [eLe n c', posFact b' n]
        bif (bif x.lt st.n then (bif n.lt st.n then c.lt st.n else false) else false) then VC.needs ns (fresh (st.add ns) [.int, .int] facts (K (.one (.slice b' (.int 0) (.int 0) (.int 0) n c' sz))
          { st with hp := .arr en b' x c' :: rest, n := st.n + 2, asm := facts ++ (ns ++ st.asm) })) else .ff 18
      | _, _ => .ff 18)
    | .builtin .copy, [d, s], t :: _ => (match L d, P.underlying t, srcOf st.hp st.asm (L s) with
      | .one (.slice b o k z l c sz), some (.slice et), some (e2, n, y, ns) => (match takeArr b st.hp, szOf P et with
        | some (en, x, cap, rest), some sz' => bif (bif decide (e2 = en) then (bif SX.bq o (.int 0) then (bif Nat.beq sz sz' then Nat.beq sz en.stride else false) else false) else false) then
          (let m : SX := SX.mk2 51 n l
          let ns := need st.asm (eLe (.int 0) k) (need st.asm (eLe (.int 0) l) (need st.asm (eLe l c) (need st.asm (eLe (SX.mk2 40 k l) (en.lenX x)) ns)))
          VC.needs ns (K (.one (.int .i64 m)) { st with hp := .arr en b (en.appX (en.takeX x k) (en.appX (en.takeX y m) (en.dropX x (SX.mk2 40 k m)))) cap :: rest, asm := ns ++ st.asm })) else .ff 19
        | _, _ => .ff 19)
      | _, _, _ => .ff 19)
    | .builtin .clear, [x], t :: _ => (match L x, P.underlying t with
      | .one (.map b), some (.map _ _) => (match takeMap b st.hp with
        | some (kk, vd, mm, rest) => K (.tup []) { st with hp := .map kk vd b (.f1 155 (.int 0)) :: rest }
        | none => .ff 20)
      | .one (.slice b o k z l c sz), some (.slice et) => (match takeArr b st.hp, szOf P et with
        | some (en, x, cap, rest), some sz' => (match zeroEl P en et with
          | some ze => bif (bif SX.bq o (.int 0) then (bif Nat.beq sz sz' then Nat.beq sz en.stride else false) else false) then
            (let ns := need st.asm (eLe (.int 0) k) (need st.asm (eLe (.int 0) l) (need st.asm (eLe l c) (need st.asm (eLe (SX.mk2 40 k l) (en.lenX x)) [])))
            VC.needs ns (K (.tup []) { st with hp := .arr en b (en.appX (en.takeX x k) (en.appX (en.repX l ze) (en.dropX x (SX.mk2 40 k l)))) cap :: rest, asm := ns ++ st.asm })) else .ff 24
          | none => .ff 24)
        | _, _ => .ff 24)
      | _, _ => .ff 20)
    | .builtin .delete, [m, k], t :: _ => (match P.underlying t, L m, L k with
      | some (.map kt et), .one (.map b), .one (.int k1 ke) => (match takeMap b st.hp, P.underlying kt with
        | some (kk, vd, mm, rest), some (.int _) => bif Nat.beq (kn kk) (kn k1) then K (.tup []) { st with hp := .map kk vd b (.f2 143 mm ke) :: rest } else .ff 21
        | _, _ => .ff 21)
      | _, _, _ => .ff 21)
    | _, _, _ => .ff 22)
  | _ => .ff 23

/-- Does it surely leave the world alone, so that it may be taken first in a region that draws its order? -/
def quietOp (o : Op) : Bool :=
  match o with
  | .convert _ dst _ => (match P.underlying dst with | some (.slice _) => false | _ => true)
  | o => isQuiet o
end

/-! ### Code -/
structure Inv where
  ss : List Srt
  slots : List (Nat × SV)
  hp : List Ch
  facts : List SX
  meas : SX
  deriving Inhabited
inductive Ann where
  | inv (i : Inv)
  | ghost (sp : Ctr) (args : List Operand)
  deriving Inhabited
/-- What the run is told: contracts by function; what stands at loops and regions of each function, by the number of a region. -/
structure Cx where
  specs : List (Nat × List Ctr)
  anns : List (Nat × List (Nat × Ann))
  exts : List (Nat × List Ctr) := []
  deriving Inhabited
structure Kt where
  nrm : St → VC
  ext : Nat → St → VC
  ret : St → VC
def assoc {α : Type} : List (Nat × α) → Nat → Option α
  | [], _ => none
  | (i, a) :: l, n => bif Nat.beq i n then some a else assoc l n
def Code.key : Code → Option Nat
  | .region id _ _ => some id
  | .seq a b => (match Code.key a with | some k => some k | none => Code.key b)
  | .cond _ a b => (match Code.key a with | some k => some k | none => Code.key b)
  | .block _ b => Code.key b
  | .loop b => Code.key b
  | .scope b => Code.key b
  | _ => none
def Code.writes : Code → List Nat
  | .region _ ops _ => ops.toList.filterMap (·.dst)
  | .seq a b => Code.writes a ++ Code.writes b
  | .cond _ a b => Code.writes a ++ Code.writes b
  | .block _ b => Code.writes b
  | .loop b => Code.writes b
  | .scope b => Code.writes b
  | _ => []
def junks : List SV → List Nat → List SV
  | fr, [] => fr
  | fr, n :: l => junks (setSV fr n .junk) l
def setSlots (slots : List (Nat × SV)) : Nat → List SV → List SV
  | _, [] => []
  | i, h :: hs => (match assoc slots i with | some p => p | none => h) :: setSlots slots (i + 1) hs
/-- Slots that are told must be so; slots not told must be as in the frame at the loop's head; what is junk there may be anything. -/
def frOk (asm : List SX) (d : Nat) (th : List SX) (slots : List (Nat × SV)) : List SX → Nat → List SV → List SV → Option (List SX)
  | ns, _, [], [] => some ns
  | ns, i, h :: hs, v :: vs => (match assoc slots i with
      | some p => ob (eqV asm ns (p.sub d th) v) fun ns => frOk asm d th slots ns (i + 1) hs vs
      | none => ob (eqV asm ns h v) fun ns => frOk asm d th slots ns (i + 1) hs vs)
  | _, _, _, _ => none
def bdSlots (m : MS) (fr : List SV) : List (Nat × SV) → MS
  | [] => m
  | (n, p) :: l => bdSlots (bdV m p (getSV fr n)) fr l
/-- Base of an invariant's own atoms, where it is written. -/
def invD : Nat := 1000000
/-- An invariant, with its own atoms from 'n' on. -/
def Inv.at (iv : Inv) (n : Nat) : Inv :=
  let th := ats n iv.ss
  { iv with slots := iv.slots.map fun p => (p.1, p.2.sub invD th), hp := iv.hp.map (Ch.sub invD th), facts := iv.facts.map (SX.sub invD th), meas := iv.meas.sub invD th }
/-- An invariant met: what its atoms are, the obligations, what memory is left. -/
def meet (d : Nat) (st : St) (iv : Inv) (head : List SV) : Option (List SX × List SX × List Ch) :=
  let m := bdChs (bdSlots ⟨d, iv.ss, iv.ss.map fun _ => none⟩ st.fr iv.slots) st.hp iv.hp
  ob (allSome m.th) fun th =>
  bif thOk th iv.ss then
    ob (frOk st.asm d th iv.slots [] 0 head st.fr) fun ns =>
    ob (takeChs st.asm ns (iv.hp.map (Ch.sub d th)) st.hp) fun (ns, rest, ks) =>
    (match ks with
    | [] => some (th, (iv.facts.map (SX.sub d th)).foldr (need st.asm) ns, rest)
    | _ => none)
  else none
def Inv.wf (iv : Inv) (n : Nat) : Bool :=
  bif iv.meas.wf n iv.ss then (bif iv.facts.all (SX.wf n iv.ss) then (bif iv.hp.all (Ch.wf n iv.ss) then (bif iv.slots.all (fun p => p.2.wf n iv.ss) then iv.meas.lt (n + iv.ss.length) else false) else false) else false) else false
def Ch.bq : Ch → Ch → Bool
  | .cel b o cs, .cel b' o' cs' => bif Nat.beq o o' then (bif SX.bq b b' then SCs.bq cs cs' else false) else false
  | .arr e b x c, .arr e' b' x' c' => bif decide (e = e') then (bif SX.bq b b' then (bif SX.bq x x' then SX.bq c c' else false) else false) else false
  | .ro e b o x, .ro e' b' o' x' => bif decide (e = e') then (bif SX.bq b b' then (bif SX.bq o o' then SX.bq x x' else false) else false) else false
  | .rd i e b o x c, .rd j e' b' o' x' c' => bif (bif Nat.beq i j then decide (e = e') else false) then (bif SX.bq b b' then (bif SX.bq o o' then (bif SX.bq x x' then SX.bq c c' else false) else false) else false) else false
  | .map kk v b m, .map kk' v' b' m' => bif (bif Nat.beq (kn kk) (kn kk') then decide (v = v') else false) then (bif SX.bq b b' then SX.bq m m' else false) else false
  | .prd p k x, .prd p' k' x' => bif Nat.beq p p' then (bif SX.bq k k' then SX.bq x x' else false) else false
  | _, _ => false
def dropCh (c : Ch) : List Ch → Option (List Ch)
  | [] => none
  | d :: l => bif Ch.bq c d then some l else ob (dropCh c l) fun r => some (d :: r)
/-- All of these chunks stand there, as they are. -/
def holdAll : List Ch → List Ch → Option (List Ch)
  | [], hp => some hp
  | c :: l, hp => ob (dropCh c hp) fun hp => holdAll l hp
section
variable (P : Program) (C : Cx)
def annsOf (f : Nat) (id : Nat) : List Ann :=
  match assoc C.anns f with
  | some l => l.filterMap fun (i, a) => bif Nat.beq i id then some a else none
  | none => []
def invOf : List Ann → Option Inv
  | [] => none
  | .inv i :: _ => some i
  | _ :: l => invOf l
def ghosts (st : St) (K : St → VC) : List Ann → VC
  | [] => K st
  | .ghost sp args :: l => (match callSpec st sp (args.map (lk st.fr)) (fun _ st => ghosts st K l) with | some v => v | none => .ff 30)
  | _ :: l => ghosts st K l

/-- The value of an operation's guard: none: always. -/
inductive Gd where
  | go
  | skip
  | ask (slot : Nat) (e : SX) (want : Bool)
  | bad
def guardOf (ops : Array Oper) (fr : List SV) (o : Oper) : Gd :=
  match o.guard with
  | none => .go
  | some (j, want) => (match (ops[j]?).bind (·.dst) with
    | some d => (match getSV fr d with
      | .one (.bool (.bool b)) => bif bbq b want then .go else .skip
      | .one (.bool e) => .ask d e want
      | _ => .bad)
    | none => .bad)
def putDst (fr : List SV) (d : Option Nat) (v : SV) : List SV := match d with | some d => setSV fr d v | none => fr
def assume (st : St) (d : Nat) (e : SX) (b : Bool) (k : St → VC) : VC :=
  let e' := bif b then e else eNot e
  bif sq e.srt .bool then (bif inAsm (bif b then eNot e else e) st.asm then .tt else
  .imp e' (k { st with fr := setSV st.fr d (.one (.bool (.bool b))), asm := e' :: st.asm })) else .ff 39

/-- Calls: by contract, else by running the callee's body. -/
def callFn (body : Nat → List SV → St → (SV → St → VC) → VC) (st : St) (f : Nat) (args : List SV) (K : SV → St → VC) : VC :=
  match P.funcs[f]? with
  | none => .ff 51
  | some fn => bif fn.name == "runtime.NumGoroutine" then .ff 53 else bif fn.body.isSome then
    (match assoc C.specs f with
    | some sps => callSpecs st args K sps
    | none => bif st.ok then body f args st K else .ff 1) else
    (match assoc C.exts f with
    | some sps => callSpecs st args K sps
    | none => .ff 53)
def capsOf : SC → Option (Nat × List SC)
  | .fn f => some (f, [])
  | .cap g x => ob (capsOf g) fun (f, l) => some (f, l ++ [x])
  | _ => none
/-- One operation, whichever. -/
def doOp (body : Nat → List SV → St → (SV → St → VC) → VC) (st : St) (o : Oper) (K : SV → St → VC) : VC :=
  bif quietOp P o.op then
    (match qev P st.hp st.asm (lk st.fr) o.op with
    | some (ns, v) => VC.needs ns (K v (st.add ns))
    | none => .ff 31)
  else (match o.op with
    | .call c => (match c.callee with
      | .value f => (match lk st.fr f with
        | .one g => (match capsOf g with
          | some (f, caps) => callFn P C body st f (c.args.toList.map (lk st.fr) ++ caps.map SV.one) K
          | none => .ff 32)
        | _ => .ff 32)
      | _ => lop P st o.op K)
    | _ => lop P st o.op K)
/-- A region in the order of its text. -/
def seqR (body : Nat → List SV → St → (SV → St → VC) → VC) (ops : Array Oper) : List Oper → St → (St → VC) → VC
  | [], st, K => K st
  | o :: rest, st, K =>
    let go (st : St) : VC := doOp P C body st o fun v st => seqR body ops rest { st with fr := putDst st.fr o.dst v } K
    let skip (st : St) : VC := seqR body ops rest { st with fr := putDst st.fr o.dst .junk } K
    match guardOf ops st.fr o with
    | .go => go st
    | .skip => skip st
    | .ask d e want => .and (assume st d e want go) (assume st d e (!want) skip)
    | .bad => .ff 33

structure Rec where
  i : Nat
  o : Oper
  L : List (Nat × SV)
  v : SV
def lkA (l : List (Nat × SV)) : Operand → SV
  | .tmp t => (match assoc l t with | some v => v | none => .junk)
  | x => lk [] x
def snap (fr : List SV) (o : Op) : List (Nat × SV) := o.operands.toList.filterMap fun | .tmp t => some (t, getSV fr t) | _ => none
def SV.same (a b : SV) : Bool := match a with | .tup x => (match b with | .tup y => (match eqTs [] [] x y with | some [] => true | _ => false) | _ => false) | a => SV.bq a b
def waits (o : Oper) (i : Nat) : Bool := o.after.any fun e => Region.binds .any e && e.on == i
def recOk (hp : List Ch) (asm : List SX) (n : Nat) (r : Rec) : Bool :=
  bif (bif r.v.lt n then r.L.all (fun p => p.2.lt n) else false) then (match qev P hp asm (lkA r.L) r.o.op with
    | some ([], v) => SV.same r.v v
    | _ => false) else false
def quietAt (fr : List SV) (ops : Array Oper) (o : Oper) : Bool :=
  match guardOf ops fr o with | .skip => true | _ => quietOp P o.op
def firstQuiet (fr : List SV) (ops : Array Oper) : List Nat → Option (Nat × Oper)
  | [] => none
  | i :: l => (match ops[i]? with
    | some o => bif quietAt P fr ops o then some (i, o) else firstQuiet fr ops l
    | none => none)
def VC.conj : List VC → VC
  | [] => .tt
  | [a] => a
  | a :: l => .and a (VC.conj l)
/-- The first of these whose guard is open: its place, its condition. -/
def firstAsk (fr : List SV) (ops : Array Oper) : List Nat → Option (Nat × SX × Bool)
  | [] => none
  | i :: l => (match ops[i]? with
    | some o => (match guardOf ops fr o with | .ask d e want => some (d, e, want) | _ => firstAsk fr ops l)
    | none => none)
/-- A region that draws its order: what is quiet is taken first; what is not must come up alone, and what was taken first must still answer so behind it. -/
def drawR (body : Nat → List SV → St → (SV → St → VC) → VC) (ops : Array Oper) : Nat → Array Bool → List Rec → St → (St → VC) → VC
  | 0, listed, recs, st, K => (match Region.ready .any ops listed with | [] => K st | _ => .ff 34)
  | fuel + 1, listed, recs, st, K =>
    match Region.ready .any ops listed with
    | [] => K st
    | i :: rest =>
      match firstQuiet P st.fr ops (i :: rest) with
      | some (i, o) =>
        bif Region.free .any ops listed i then
          (let go (st : St) : VC := (match qev P st.hp st.asm (lkA (snap st.fr o.op)) o.op with
            | some (ns, v) => VC.needs ns (drawR body ops fuel (listed.setIfInBounds i true) (⟨i, o, snap st.fr o.op, v⟩ :: recs) { (st.add ns) with fr := putDst st.fr o.dst v } K)
            | none => .ff 35)
          let skip (st : St) : VC := drawR body ops fuel (listed.setIfInBounds i true) recs { st with fr := putDst st.fr o.dst .junk } K
          match guardOf ops st.fr o with
          | .go => go st
          | .skip => skip st
          | .ask d e want => .and (assume st d e want go) (assume st d e (!want) fun st => drawR body ops fuel listed recs st K)
          | .bad => .ff 33)
        else .ff 36
      | none => (match firstAsk st.fr ops (i :: rest) with
        | some (d, e, want) => .and (assume st d e want fun st => drawR body ops fuel listed recs st K) (assume st d e (!want) fun st => drawR body ops fuel listed recs st K)
        | none => VC.conj ((i :: rest).map fun j => match ops[j]? with
          | some o => (match guardOf ops st.fr o with
            | .go => doOp P C body st o fun v st1 =>
                let recs := recs.filter fun r => !(waits o r.i)
                bif recs.all (recOk P st1.hp st1.asm st.n) then drawR body ops fuel (listed.setIfInBounds j true) recs { st1 with fr := putDst st1.fr o.dst v } K else .ff 37
            | _ => .ff 33)
          | none => .ff 38))

def sx (body : Nat → List SV → St → (SV → St → VC) → VC) (f : Nat) : Nat → Code → St → Kt → VC
  | 0, _, _, _ => .ff 40
  | fuel + 1, c, st, K =>
    match c with
    | .skip => K.nrm st
    | .label _ => K.nrm st
    | .region id ops draw => ghosts st (fun st => bif draw then
        (bif (P.follows .mixedOrders && Region.noSelect ops) then drawR P C body ops (ops.size + (ops.size + 1)) (Array.replicate ops.size false) [] st K.nrm else .ff 41)
        else seqR P C body ops ops.toList st K.nrm) (annsOf C f id)
    | .seq a b => sx body f fuel a st { K with nrm := fun st => sx body f fuel b st K }
    | .cond x a b => (match lk st.fr x with
      | .one (.bool (.bool true)) => sx body f fuel a st K
      | .one (.bool (.bool false)) => sx body f fuel b st K
      | .one (.bool e) => bif sq e.srt .bool then
        .and (bif inAsm (eNot e) st.asm then .tt else .imp e (sx body f fuel a { st with asm := e :: st.asm } K))
             (bif inAsm e st.asm then .tt else .imp (eNot e) (sx body f fuel b { st with asm := eNot e :: st.asm } K)) else .ff 42
      | _ => .ff 42)
    | .block id b => sx body f fuel b st { K with ext := fun i st => bif Nat.beq i id then K.nrm st else K.ext i st }
    | .exit id => K.ext id st
    | .ret => K.ret st
    | .loop b => (match Code.key b with
      | none => .ff 43
      | some key => (match invOf (annsOf C f key) with
        | none => -- no invariant: the rounds are run one by one
          sx body f fuel b st { K with nrm := fun st => sx body f fuel (.loop b) st K }
        | some iv =>
          let head0 := junks st.fr (Code.writes b)
          let iv := iv.at st.n
          (match meet st.n st iv head0 with
          | none => .ff 44
          | some (_, ns, rest) =>
            bif (bif iv.wf st.n then (bif head0.all (SV.lt st.n) then rest.all (Ch.lt st.n) else false) else false) then
            VC.needs ns (fresh (st.add ns) iv.ss iv.facts (sx body f fuel b
              { fr := setSlots iv.slots 0 head0, hp := iv.hp ++ rest, n := st.n + iv.ss.length, asm := iv.facts ++ (ns ++ st.asm) }
              { K with nrm := fun st' => (match meet st.n st' iv head0 with
                | none => .ff 45
                | some (th1, ns, rest') => (match holdAll rest rest' with
                  | none => .ff 46
                  | some _ =>
                    let m1 := iv.meas.sub st.n th1
                    VC.needs (need st'.asm (eLe (.int 0) m1) (need st'.asm (eLt m1 iv.meas) ns)) .tt)) }))
            else .ff 47)))
    | _ => .ff 48

/-- The value of one result. -/
def oneRes (st : St) : ResultVar → Option (Bool × List SC)
  | .tmp t => (match getSV st.fr t with | .one c => some (false, [c]) | .agg cs => some (true, cs) | _ => none)
  | .cell a t => (match getSV st.fr a, P.underlying t, szOf P t with
      | .one (.ptr b o), some d, some n => (match loadAt st.hp st.asm (tyAgg d) (bif tyAgg d then n else 1) (.ptr b o) with
        | some ([], .one c) => bif held b st.hp then some (false, [c]) else none
        | some ([], .agg cs) => bif held b st.hp then some (true, cs) else none
        | _ => none)
      | _, _, _ => none)
/-- The value of the results. -/
def resOf (fn : Func) (st : St) : Option SV :=
  match fn.results.toList with
  | [] => some (.tup [])
  | [r] => (match oneRes P st r with | some (false, [c]) => some (.one c) | some (true, cs) => some (.agg cs) | _ => none)
  | [r1, r2] => ob (oneRes P st r1) fun a => ob (oneRes P st r2) fun b => some (.tup [a, b])
  | [r1, r2, r3] => ob (oneRes P st r1) fun a => ob (oneRes P st r2) fun b => ob (oneRes P st r3) fun c => some (.tup [a, b, c])
  | [r1, r2, r3, r4] => ob (oneRes P st r1) fun a => ob (oneRes P st r2) fun b => ob (oneRes P st r3) fun c => ob (oneRes P st r4) fun d => some (.tup [a, b, c, d])
  | _ => none
/-- The body of a function, from its arguments on. -/
def runBody : Nat → Nat → List SV → St → (SV → St → VC) → VC
  | 0, _, _, _, _ => .ff 50
  | fuel + 1, f, args, st, K =>
    match P.funcs[f]? with
    | none => .ff 51
    | some fn => (match fn.body with
      | none => .ff 52
      | some c =>
        let fin (st' : St) : VC := (match resOf P fn st' with | some v => K v { st' with fr := st.fr } | none => .ff 54)
        sx P C (runBody fuel) f 100000 c { st with fr := args ++ List.replicate (fn.ntmps - args.length) .junk }
          { nrm := fin, ret := fin, ext := fun _ _ => .ff 55 })
def backOk (p : Nat × RK) : Bool := match p.2 with | .rd j => Nat.beq p.1 j | _ => false
def preX : List SX → List SX → Bool
  | [], _ => true
  | a :: l, b :: m => bif SX.bq a b then preX l m else false
  | _ :: _, [] => false
/-- That a function keeps its contract. -/
def vcOf (fuel f : Nat) (sp : Ctr) : VC :=
  bif (bif sp.wf then St.ok { fr := [], hp := sp.pre, n := sp.ss.length, asm := sp.reqs } else false) then VC.imps sp.reqs <| runBody P C fuel f sp.args { fr := [], hp := sp.pre, n := sp.ss.length, asm := sp.reqs } fun v st =>
    let idth := ats 0 sp.ss
    let m := bdChs (bdV ⟨0, sp.ss ++ sp.ps, idth.map some ++ sp.ps.map fun _ => none⟩ sp.res v) st.hp sp.post
    (match allSome m.th with
    | none => .ff 60
    | some th => bif (bif thOk th (sp.ss ++ sp.ps) then preX idth th else false) then
        (match eqV st.asm [] (sp.res.sub 0 th) v with
        | none => .ff 61
        | some ns => (match takeChs st.asm ns (sp.post.map (Ch.sub 0 th)) st.hp with
          | none => .ff 62
          | some (ns, _, ks) => bif ks.all backOk then
              VC.needs ((sp.facts.map (SX.sub 0 th)).foldr (need st.asm) ns) .tt else .ff 63))
      else .ff 64)
  else .ff 65
end
end Go.Eng
