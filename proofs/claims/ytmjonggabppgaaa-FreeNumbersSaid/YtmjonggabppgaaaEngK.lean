/- Contracts, matching, the operations that write, regions, code: the symbolic run. -/
import Derived.Test.YtmjonggabppgaaaEngJ
set_option linter.unusedSimpArgs false
set_option linter.unusedVariables false
namespace Go.Eng

/-! ### Sorts and substitution -/
def SX.srt : SX → Srt
  | .int _ => .int | .bool _ => .bool | .byt _ => .bytes | .at s _ => s | .us s _ _ _ _ _ => s
  | .f1 f _ => (match f with
      | 2 | 20 | 21 | 22 | 23 | 24 | 25 | 26 | 27 => Srt.bool
      | 152 => Srt.ints
      | 153 => Srt.bytes
      | 154 => Srt.rows
      | 155 => Srt.amap
      | _ => Srt.int)
  | .f2 f _ _ => (match f with
      | 45 | 46 | 47 | 48 | 49 | 50 | 150 | 151 | 141 => Srt.bool
      | 113 | 116 | 119 | 122 | 125 => Srt.ints
      | 114 | 117 | 120 | 123 | 126 => Srt.bytes
      | 115 | 118 | 121 | 124 | 127 => Srt.rows
      | 143 => Srt.amap
      | _ => Srt.int)
  | .f3 f _ _ _ => (match f with
      | 130 => Srt.ints
      | 131 => Srt.bytes
      | 132 => Srt.rows
      | 134 => Srt.bool
      | 142 => Srt.amap
      | _ => Srt.int)
def sq (a b : Srt) : Bool := Nat.beq a.n b.n

def getTh : List SX → Nat → SX
  | [], _ => .int 0
  | e :: _, 0 => e
  | _ :: l, n + 1 => getTh l n
/-- Atoms below d stay; the others are what the list says. -/
def SX.sub (d : Nat) (th : List SX) : SX → SX
  | .at s i => bif Nat.blt i d then .at s i else getTh th (i - d)
  | .f1 f a => SX.mk1 f (a.sub d th)
  | .f2 f a b => SX.mkS2 f (a.sub d th) (b.sub d th)
  | .f3 f a b c => SX.mkS3 f (a.sub d th) (b.sub d th) (c.sub d th)
  | .us s f a b c e => .us s f (a.sub d th) (b.sub d th) (c.sub d th) (e.sub d th)
  | e => e
def SC.sub (d : Nat) (th : List SX) : SC → SC
  | .int k e => .int k (e.sub d th) | .bool e => .bool (e.sub d th)
  | .ptr b o => .ptr (b.sub d th) o
  | .ep b o i s j => .ep (b.sub d th) (o.sub d th) (i.sub d th) s j
  | .slice b o k z l c s => .slice (b.sub d th) (o.sub d th) (k.sub d th) (z.sub d th) (l.sub d th) (c.sub d th) s
  | .str e => .str (e.sub d th) | .map b => .map (b.sub d th)
  | .fn f => .fn f | .cap g x => .cap (g.sub d th) (x.sub d th)
  | .nilfn => .nilfn | .nilif => .nilif | .ifc t v => .ifc t (v.sub d th)
def SV.sub (d : Nat) (th : List SX) : SV → SV
  | .junk => .junk | .one c => .one (c.sub d th) | .agg cs => .agg (cs.map (SC.sub d th))
  | .tup vs => .tup (vs.map fun p => (p.1, p.2.map (SC.sub d th)))
def Ch.sub (d : Nat) (th : List SX) : Ch → Ch
  | .cel b o cs => .cel (b.sub d th) o (cs.map (SC.sub d th))
  | .arr e b x c => .arr e (b.sub d th) (x.sub d th) (c.sub d th)
  | .ro e b o x => .ro e (b.sub d th) (o.sub d th) (x.sub d th)
  | .rd i e b o x c => .rd i e (b.sub d th) (o.sub d th) (x.sub d th) (c.sub d th)
  | .map kk v b m => .map kk v (b.sub d th) (m.sub d th)
  | .prd p k x => .prd p (k.sub d th) (x.sub d th)

/-- Atoms from d on are within the list of sorts, of their sort. -/
def SX.wf (d : Nat) (ss : List Srt) : SX → Bool
  | .at s i => bif Nat.blt i d then true else (match ss[i - d]? with | some t => sq s t | none => false)
  | .f1 _ a => a.wf d ss
  | .f2 _ a b => bif a.wf d ss then b.wf d ss else false
  | .f3 _ a b c => bif a.wf d ss then (bif b.wf d ss then c.wf d ss else false) else false
  | .us _ _ a b c e => bif a.wf d ss then (bif b.wf d ss then (bif c.wf d ss then e.wf d ss else false) else false) else false
  | _ => true
def SC.wf (d : Nat) (ss : List Srt) : SC → Bool
  | .int _ e | .bool e | .str e | .map e => e.wf d ss
  | .ptr b _ => b.wf d ss
  | .ep b o i _ _ => bif b.wf d ss then (bif o.wf d ss then i.wf d ss else false) else false
  | .slice b o k z l c _ => bif b.wf d ss then (bif o.wf d ss then (bif k.wf d ss then (bif z.wf d ss then (bif l.wf d ss then c.wf d ss else false) else false) else false) else false) else false
  | .fn _ | .nilfn | .nilif => true
  | .cap g x => bif g.wf d ss then x.wf d ss else false
  | .ifc _ v => v.wf d ss
def SV.wf (d : Nat) (ss : List Srt) : SV → Bool
  | .junk => true | .one c => c.wf d ss | .agg cs => cs.all (SC.wf d ss)
  | .tup vs => vs.all fun p => p.2.all (SC.wf d ss)
def Ch.wf (d : Nat) (ss : List Srt) : Ch → Bool
  | .cel b _ cs => bif b.wf d ss then cs.all (SC.wf d ss) else false
  | .arr _ b x c => bif b.wf d ss then (bif x.wf d ss then c.wf d ss else false) else false
  | .ro _ b o x => bif b.wf d ss then (bif o.wf d ss then x.wf d ss else false) else false
  | .rd _ _ b o x c => bif b.wf d ss then (bif o.wf d ss then (bif x.wf d ss then c.wf d ss else false) else false) else false
  | .map _ _ b m => bif b.wf d ss then m.wf d ss else false
  | .prd _ k x => bif k.wf d ss then x.wf d ss else false
def thOk : List SX → List Srt → Bool
  | [], [] => true
  | e :: l, s :: m => bif sq e.srt s then thOk l m else false
  | _, _ => false

/-! ### Contracts -/
structure Ctr where
  ss : List Srt
  args : List SV
  pre : List Ch
  reqs : List SX
  ps : List Srt
  res : SV
  post : List Ch
  facts : List SX
  deriving Inhabited
def Ctr.wf (sp : Ctr) : Bool :=
  bif sp.args.all (SV.wf 0 sp.ss) then (bif sp.pre.all (Ch.wf 0 sp.ss) then (bif sp.reqs.all (SX.wf 0 sp.ss) then
    (bif sp.res.wf 0 (sp.ss ++ sp.ps) then (bif sp.post.all (Ch.wf 0 (sp.ss ++ sp.ps)) then sp.facts.all (SX.wf 0 (sp.ss ++ sp.ps)) else false) else false) else false) else false) else false

/-! ### Binding (no word of this part is leant on: what it finds is checked) -/
structure MS where
  d : Nat
  ss : List Srt
  th : List (Option SX)
  deriving Inhabited
def getO : List (Option SX) → Nat → Option (Option SX)
  | [], _ => none
  | e :: _, 0 => some e
  | _ :: l, n + 1 => getO l n
def setO : List (Option SX) → Nat → SX → List (Option SX)
  | [], _, _ => []
  | _ :: l, 0, v => some v :: l
  | s :: l, n + 1, v => s :: setO l n v
def bdX (m : MS) (p e : SX) : MS :=
  match p with
  | .at s i => bif Nat.blt i m.d then m else (match getO m.th (i - m.d) with
    | some none => bif sq s e.srt then { m with th := setO m.th (i - m.d) e } else m
    | _ => m)
  | .f2 40 a (.int n) => bdX m a (SX.mk2 40 e (.int (-n)))
  | .f2 124 a l => (match e with | .f2 124 a' l' => bdX (bdX m a a') l l' | _ => m)
  | .f2 122 a l => (match e with | .f2 122 a' l' => bdX (bdX m a a') l l' | _ => m)
  | _ => m
def bdC (m : MS) : SC → SC → MS
  | .int _ a, .int _ b => bdX m a b
  | .bool a, .bool b => bdX m a b
  | .ptr a _, .ptr b _ => bdX m a b
  | .ep b o i _ _, .ep b' o' i' _ _ => bdX (bdX (bdX m b b') o o') i i'
  | .slice b o k z l c _, .slice b' o' k' z' l' c' _ => bdX (bdX (bdX (bdX (bdX (bdX m b b') o o') k k') z z') l l') c c'
  | .str a, .str b => bdX m a b
  | .map a, .map b => bdX m a b
  | .cap g x, .cap g' x' => bdC (bdC m g g') x x'
  | .ifc _ v, .ifc _ v' => bdC m v v'
  | _, _ => m
def bdCs (m : MS) : List SC → List SC → MS
  | a :: l, b :: k => bdCs (bdC m a b) l k
  | _, _ => m
def bdTs (m : MS) : List (Bool × List SC) → List (Bool × List SC) → MS
  | a :: l, b :: k => bdTs (bdCs m a.2 b.2) l k
  | _, _ => m
def bdV (m : MS) : SV → SV → MS
  | .one a, .one b => bdC m a b
  | .agg a, .agg b => bdCs m a b
  | .tup a, .tup b => bdTs m a b
  | _, _ => m
def bdVs (m : MS) : List SV → List SV → MS
  | a :: l, b :: k => bdVs (bdV m a b) l k
  | _, _ => m
def thNow (m : MS) : List SX := m.th.map fun o => match o with | some e => e | none => .at .g 999999
/-- May a chunk that stands there be the one that is wanted? By kind and key alone. -/
def keyOk (m : MS) (p c : Ch) : Bool :=
  let s (e : SX) : SX := e.sub m.d (thNow m)
  match p, c with
  | .cel b o cs, .cel b' o' cs' => bif Nat.beq o o' then (bif Nat.beq cs.length cs'.length then SX.bq (s b) b' else false) else false
  | .arr e b _ _, .arr e' b' _ _ => bif decide (e = e') then SX.bq (s b) b' else false
  | .ro e b _ _, .ro e' b' _ _ => bif decide (e = e') then SX.bq (s b) b' else false
  | .rd _ e b _ _ _, .ro e' b' _ _ => bif decide (e = e') then SX.bq (s b) b' else false
  | .rd _ e b _ _ _, .arr e' b' _ _ => bif decide (e = e') then SX.bq (s b) b' else false
  | .rd _ e b _ _ _, .rd _ e' b' _ _ _ => bif decide (e = e') then SX.bq (s b) b' else false
  | .map _ _ b _, .map _ _ b' _ => SX.bq (s b) b'
  | .prd p k _, .prd p' k' _ => bif Nat.beq p p' then (match k with
      | .at _ i => bif Nat.blt i m.d then SX.bq k k' else (match getO m.th (i - m.d) with | some none => true | _ => SX.bq (s k) k')
      | k => SX.bq (s k) k') else false
  | _, _ => false
def nilX (e : En) : SX := .f1 (152 + e.t) (.int 0)
def bdCh (m : MS) (hp : List Ch) (p : Ch) : MS :=
  match hp.find? (keyOk m p), p with
  | some (.cel b' _ cs'), .cel b _ cs => bdCs (bdX m b b') cs cs'
  | some (.arr _ b' x' c'), .arr _ b x c => bdX (bdX (bdX m b b') x x') c c'
  | some (.ro _ b' o' x'), .ro _ b o x => bdX (bdX (bdX m b b') o o') x x'
  | some (.ro _ b' o' x'), .rd _ _ b o x c => bdX (bdX (bdX (bdX m b b') o o') x x') c (.int 0)
  | some (.arr _ b' x' c'), .rd _ _ b o x c => bdX (bdX (bdX (bdX m b b') o (.int 0)) x x') c c'
  | some (.rd _ _ b' o' x' c'), .rd _ _ b o x c => bdX (bdX (bdX (bdX m b b') o o') x x') c c'
  | some (.map _ _ b' k'), .map _ _ b k => bdX (bdX m b b') k k'
  | some (.prd _ k' x'), .prd _ k x => bdX (bdX m k k') x x'
  | none, .arr e b x c => bdX (bdX m x (nilX e)) c (.int 0)
  | none, .ro e b o x => bdX m x (nilX e)
  | none, .rd _ e b o x c => bdX (bdX (bdX m x (nilX e)) c (.int 0)) o (.int 0)
  | _, _ => m
def bdChs (m : MS) (hp : List Ch) : List Ch → MS
  | [] => m
  | p :: l => bdChs (bdCh m hp p) hp l
def allSome : List (Option SX) → Option (List SX)
  | [] => some []
  | some e :: l => (match allSome l with | some r => some (e :: r) | none => none)
  | none :: _ => none

/-! ### Checking what was found -/
def ob {α β : Type} (o : Option α) (f : α → Option β) : Option β := match o with | some a => f a | none => none
/-- Equal, or equal if these obligations hold. -/
def eqX (asm : List SX) (a b : SX) (ns : List SX) : Option (List SX) :=
  bif SX.bq a b then some ns else (bif (bif sq a.srt .int then sq b.srt .int else false) then some (need asm (SX.mk2 45 a b) ns) else none)
def eqC (asm : List SX) (ns : List SX) : SC → SC → Option (List SX)
  | .int k a, .int k' b => bif Nat.beq (kn k) (kn k') then eqX asm a b ns else none
  | .bool a, .bool b => eqX asm a b ns
  | .ptr b o, .ptr b' o' => bif Nat.beq o o' then eqX asm b b' ns else none
  | .ep b o i s j, .ep b' o' i' s' j' => bif (bif Nat.beq s s' then Nat.beq j j' else false) then
      ob (eqX asm b b' ns) fun ns => ob (eqX asm o o' ns) fun ns => eqX asm i i' ns else none
  | .slice b o k z l c s, .slice b' o' k' z' l' c' s' =>
      bif (bif Nat.beq s s' then true else (bif SX.bq k (.int 0) then (bif SX.bq z (.int 0) then (bif SX.bq k' (.int 0) then SX.bq z' (.int 0) else false) else false) else false)) then
      ob (eqX asm b b' ns) fun ns => ob (eqX asm o o' ns) fun ns => ob (eqX asm k k' ns) fun ns => ob (eqX asm z z' ns) fun ns => ob (eqX asm l l' ns) fun ns => eqX asm c c' ns else none
  | .str a, .str b => eqX asm a b ns
  | .map a, .map b => eqX asm a b ns
  | .fn f, .fn g => bif Nat.beq f g then some ns else none
  | .cap g x, .cap g' x' => ob (eqC asm ns g g') fun ns => eqC asm ns x x'
  | .nilfn, .nilfn => some ns
  | .nilif, .nilif => some ns
  | .ifc t v, .ifc t' v' => bif Nat.beq t t' then eqC asm ns v v' else none
  | _, _ => none
def eqCs (asm : List SX) : List SX → List SC → List SC → Option (List SX)
  | ns, [], [] => some ns
  | ns, a :: l, b :: m => ob (eqC asm ns a b) fun ns => eqCs asm ns l m
  | _, _, _ => none
def eqTs (asm : List SX) : List SX → List (Bool × List SC) → List (Bool × List SC) → Option (List SX)
  | ns, [], [] => some ns
  | ns, a :: l, b :: m => bif bbq a.1 b.1 then ob (eqCs asm ns a.2 b.2) fun ns => eqTs asm ns l m else none
  | _, _, _ => none
def eqV (asm : List SX) (ns : List SX) : SV → SV → Option (List SX)
  | .junk, _ => some ns
  | .one a, .one b => eqC asm ns a b
  | .agg a, .agg b => eqCs asm ns a b
  | .tup a, .tup b => eqTs asm ns a b
  | _, _ => none
def eqVs (asm : List SX) : List SX → List SV → List SV → Option (List SX)
  | ns, [], [] => some ns
  | ns, a :: l, b :: m => ob (eqV asm ns a b) fun ns => eqVs asm ns l m
  | _, _, _ => none

/-- How a readable array of a contract is paid: out of the base memory, by one that is held, by one that is readable here. -/
inductive RK where
  | ro
  | arr
  | rd (j : Nat)
  deriving Inhabited
/-- One chunk that is wanted, against one that stands there: the obligations; is it used up; how a readable one is paid. -/
def eqCh (asm ns : List SX) : Ch → Ch → Option (List SX × Bool × Option (Nat × RK))
  | .cel b o cs, .cel b' o' cs' => bif Nat.beq o o' then ob (eqX asm b b' ns) fun ns => ob (eqCs asm ns cs cs') fun ns => some (ns, true, none) else none
  | .arr e b x c, .arr e' b' x' c' => bif decide (e = e') then ob (eqX asm b b' ns) fun ns => ob (eqX asm x x' ns) fun ns => ob (eqX asm c c' ns) fun ns => some (ns, true, none) else none
  | .ro e b o x, .ro e' b' o' x' => bif decide (e = e') then ob (eqX asm b b' ns) fun ns => ob (eqX asm o o' ns) fun ns => ob (eqX asm x x' ns) fun ns => some (ns, false, none) else none
  | .rd i e b o x c, .ro e' b' o' x' => bif decide (e = e') then ob (eqX asm b b' ns) fun ns => ob (eqX asm o o' ns) fun ns => ob (eqX asm x x' ns) fun ns => some (ns, false, some (i, .ro)) else none
  | .rd i e b o x c, .arr e' b' x' c' => bif (bif decide (e = e') then SX.bq o (.int 0) else false) then
      ob (eqX asm b b' ns) fun ns => ob (eqX asm x x' ns) fun ns => ob (eqX asm c c' ns) fun ns => some (ns, true, some (i, .arr)) else none
  | .rd i e b o x c, .rd j e' b' o' x' c' => bif decide (e = e') then
      ob (eqX asm b b' ns) fun ns => ob (eqX asm o o' ns) fun ns => ob (eqX asm x x' ns) fun ns => ob (eqX asm c c' ns) fun ns => some (ns, true, some (i, .rd j)) else none
  | .map kk v b m, .map kk' v' b' m' => bif (bif Nat.beq (kn kk) (kn kk') then decide (v = v') else false) then ob (eqX asm b b' ns) fun ns => ob (eqX asm m m' ns) fun ns => some (ns, true, none) else none
  | .prd p k x, .prd p' k' x' => bif Nat.beq p p' then ob (eqX asm k k' ns) fun ns => ob (eqX asm x x' ns) fun ns => some (ns, true, none) else none
  | _, _ => none
/-- The keys alone, by letter. -/
def keyEq : Ch → Ch → Bool
  | .cel b o cs, .cel b' o' cs' => bif Nat.beq o o' then (bif Nat.beq cs.length cs'.length then SX.bq b b' else false) else false
  | .arr e b _ _, .arr e' b' _ _ => bif decide (e = e') then SX.bq b b' else false
  | .ro e b o _, .ro e' b' o' _ => bif decide (e = e') then (bif SX.bq b b' then SX.bq o o' else false) else false
  | .rd _ e b o _ _, .ro e' b' o' _ => bif decide (e = e') then (bif SX.bq b b' then SX.bq o o' else false) else false
  | .rd _ e b _ _ _, .arr e' b' _ _ => bif decide (e = e') then SX.bq b b' else false
  | .rd _ e b o _ _, .rd _ e' b' o' _ _ => bif decide (e = e') then (bif SX.bq b b' then SX.bq o o' else false) else false
  | .map _ _ b _, .map _ _ b' _ => SX.bq b b'
  | .prd p k _, .prd p' k' _ => bif Nat.beq p p' then SX.bq k k' else false
  | _, _ => false
/-- An array without places needs no memory. -/
def freeCh : Ch → Option (Option (Nat × RK))
  | .arr e b x c => bif SX.bq x (nilX e) then (bif SX.bq c (.int 0) then some none else none) else none
  | .ro e b o x => bif SX.bq x (nilX e) then some none else none
  | .rd i e b o x c => bif SX.bq x (nilX e) then (bif SX.bq c (.int 0) then (bif SX.bq o (.int 0) then some (some (i, .arr)) else none) else none) else none
  | .cel _ _ [] => none
  | _ => none
def takeCh (asm ns : List SX) (p : Ch) : List Ch → Option (List SX × List Ch × Option (Nat × RK))
  | [] => (match freeCh p with | some k => some (ns, [], k) | none => none)
  | c :: l => bif keyEq p c then (match eqCh asm ns p c with
        | some (ns, used, k) => some (ns, bif used then l else c :: l, k)
        | none => none)
      else (match takeCh asm ns p l with | some (ns, l', k) => some (ns, c :: l', k) | none => none)
def consO {α : Type} : Option α → List α → List α | some a, l => a :: l | none, l => l
def takeChs (asm : List SX) : List SX → List Ch → List Ch → Option (List SX × List Ch × List (Nat × RK))
  | ns, [], hp => some (ns, hp, [])
  | ns, p :: l, hp => (match takeCh asm ns p hp with
    | some (ns, hp, k) => (match takeChs asm ns l hp with | some (ns, hp, ks) => some (ns, hp, consO k ks) | none => none)
    | none => none)
def ksOk : List (Nat × RK) → Bool
  | [] => true
  | (i, _) :: l => bif l.any (fun p => Nat.beq p.1 i) then false else ksOk l
def getK : List (Nat × RK) → Nat → Option RK
  | [], _ => none
  | (i, k) :: l, j => bif Nat.beq i j then some k else getK l j
/-- A chunk that a contract hands back, in the caller's words. -/
def backCh (ks : List (Nat × RK)) : List Ch → Option (List Ch)
  | [] => some []
  | .rd i e b o x c :: l => (match getK ks i, backCh ks l with
    | some .ro, some r => some r
    | some .arr, some r => some (.arr e b x c :: r)
    | some (.rd j), some r => some (.rd j e b o x c :: r)
    | _, _ => none)
  | c :: l => (match backCh ks l with | some r => some (c :: r) | none => none)

/-! ### Verification conditions -/
def VC.needs : List SX → VC → VC
  | [], k => k
  | e :: l, k => .need e (VC.needs l k)
def VC.imps : List SX → VC → VC
  | [], k => k
  | e :: l, k => .imp e (VC.imps l k)
def VC.alls : Nat → List Srt → VC → VC
  | _, [], k => k
  | n, s :: l, k => .all n s (VC.alls (n + 1) l k)
def ats : Nat → List Srt → List SX
  | _, [] => []
  | n, s :: l => .at s n :: ats (n + 1) l
/-- Fresh atoms, with facts on them, in a state whose atoms are all old. -/
def fresh (st : St) (ss : List Srt) (facts : List SX) (k : VC) : VC :=
  bif st.ok then VC.alls st.n ss (VC.imps facts k) else .ff 1
def St.add (st : St) (ns : List SX) : St := { st with asm := ns ++ st.asm }

/-- A call by contract. -/
def callSpec (st : St) (sp : Ctr) (args : List SV) (K : SV → St → VC) : Option VC :=
  let m := bdChs (bdVs ⟨0, sp.ss, sp.ss.map fun _ => none⟩ sp.args args) st.hp sp.pre
  match allSome m.th with
  | none => none
  | some th => bif thOk th sp.ss then
      (match eqVs st.asm [] (sp.args.map (SV.sub 0 th)) args with
      | none => none
      | some ns => (match takeChs st.asm ns (sp.pre.map (Ch.sub 0 th)) st.hp with
        | none => none
        | some (ns, rest, ks) =>
          let ns := (sp.reqs.map (SX.sub 0 th)).foldr (need st.asm) ns
          let th' := th ++ ats st.n sp.ps
          let facts := sp.facts.map (SX.sub 0 th')
          match backCh ks (sp.post.map (Ch.sub 0 th')) with
          | none => none
          | some back => bif (bif th.all (SX.lt st.n) then ksOk ks else false) then
            some (VC.needs ns (fresh (st.add ns) sp.ps facts (K (sp.res.sub 0 th') { st with hp := back ++ rest, n := st.n + sp.ps.length, asm := facts ++ (ns ++ st.asm) })))
            else none))
    else none
def callSpecs (st : St) (args : List SV) (K : SV → St → VC) : List Ctr → VC
  | [] => .ff 2
  | sp :: l => (match callSpec st sp args K with | some v => v | none => callSpecs st args K l)

end Go.Eng
