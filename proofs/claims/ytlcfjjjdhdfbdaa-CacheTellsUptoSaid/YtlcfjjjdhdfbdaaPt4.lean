/- A cache in memory: opened and shut. -/
import Derived.Test.YtlcfjjjdhdfbdaaPt3
set_option linter.unusedSimpArgs false
set_option linter.unusedVariables false
namespace Go.Proofs.Ytlcfjjjdhdfbdaa
noncomputable section
open Go.Eng
def frD (r : List Int) (f : Fr) : HProp := fun h => (0 ≤ g0 r ∨ False) ∧ row (g0 r).toNat 2 [.int .i64 f.n, slV (g1 r) f.b.length (g2 r), .bool f.dirty, .int .i64 f.pins] true h
def itemF (r : List Int) (f : Fr) : HProp := star (frD r f) (bAD (g1 r) f.b (g2 r))
def frH : List (List Int) → List Fr → HProp
  | [], [] => emp
  | r :: rs, f :: fs => star (itemF r f) (frH rs fs)
  | _, _ => fun _ => False
def mapP (b : Int) (m : List (Int × Int)) : HProp := fun h => 0 ≤ b ∧ ∃ es clock, mapOk .i64 .ptr es clock m ∧ objAt b.toNat (.map es clock) h
def celK (c p hm H : Int) (s : Cs) : HProp := fun h => (0 ≤ c ∨ False) ∧ row c.toNat 0 [pV p, mapV hm, pV H, .int .i64 s.frames, .int .i64 0, .int .i64 0, .int .i64 0, .int .i64 s.hits, .int .i64 s.misses, .int .i64 s.evic] true h
def csP (c p : Int) (s : Cs) : HProp := fun h => GoodC s ∧ ∃ (hm H : Int) (R : List (List Int)) (m : List (Int × Int)), heldOk m R s.fr ∧
  star (celK c p hm H s) (star (mapP hm m) (star (ringH H (R.map g0)) (frH R s.fr))) h
def kp71 (k : List (List Int)) (s : Cs) : HProp := star (frH ((k.drop 1).take (g0 (k.getD 0 [])).toNat) (s.fr.take (g0 (k.getD 0 [])).toNat)) (frH ((k.drop 1).drop ((g0 (k.getD 0 [])).toNat + 1)) (s.fr.drop ((g0 (k.getD 0 [])).toNat + 1)))
def rowI (l : Int) : List (List Int) → Nat
  | [] => 0
  | r :: R => bif g0 r == l then 0 else rowI l R + 1
def Cs.addF (c : Cs) (n : Int) (b : List UInt8) : Cs := c.add ⟨n, b, false, 0⟩
def Cs.putF (c : Cs) (i : Int) (b : List UInt8) (d : List Int) : Cs := c.put i ⟨(c.at' i).n, b, d.getD 0 0 == 1, d.getD 1 0⟩
def setR (R : List (List Int)) (i : Int) (r : List Int) : List (List Int) := R.take i.toNat ++ r :: R.drop (i.toNat + 1)
def gonR (R : List (List Int)) (i : Int) : List (List Int) := R.take i.toNat ++ R.drop (i.toNat + 1)
def rotR (R : List (List Int)) (i : Int) : List (List Int) := gonR R i ++ [R.getD i.toNat []]
def oldP (R : List (List Int)) (c : Cs) : Int := if c.old < c.fr.length then g0 (R.getD c.old []) else -1
/-- What the words mean. -/
structure CsSig (S : Sig GG) : Prop where
  dv : DvSig S
  rg : RgSig S
  p70 : ∀ w0 k x, S.prd 70 w0 k x = frH k.toRows (csOf x).fr
  p71 : ∀ w0 k x, S.prd 71 w0 k x = kp71 k.toRows (csOf x)
  p72 : ∀ w0 k x, S.prd 72 w0 k x = csP (kRow k.toRows 0) (kRow k.toRows 1) (csOf x)
  u250 : ∀ a b c d, S.usr 250 a b c d = .int (rowI b.toInt a.toRows : Nat)
  u251 : ∀ a b c d, S.usr 251 a b c d = .bool (propB (heldOk a.toMap b.toRows (csOf c).fr))
  u252 : ∀ a b c d, S.usr 252 a b c d = .int ((csOf a).at' b.toInt).n
  u253 : ∀ a b c d, S.usr 253 a b c d = .bytes ((csOf a).at' b.toInt).b
  u254 : ∀ a b c d, S.usr 254 a b c d = .bool ((csOf a).at' b.toInt).dirty
  u255 : ∀ a b c d, S.usr 255 a b c d = .int ((csOf a).at' b.toInt).pins
  u256 : ∀ a b c d, S.usr 256 a b c d = .int ((csOf a).fr.length : Nat)
  u257 : ∀ a b c d, S.usr 257 a b c d = .int (csOf a).frames
  u258 : ∀ a b c d, S.usr 258 a b c d = .int (csOf a).hits
  u259 : ∀ a b c d, S.usr 259 a b c d = .int (csOf a).misses
  u260 : ∀ a b c d, S.usr 260 a b c d = .int (csOf a).evic
  u261 : ∀ a b c d, S.usr 261 a b c d = .int ((csOf a).old : Nat)
  u262 : ∀ a b c d, S.usr 262 a b c d = .int ((csOf a).idx b.toInt : Nat)
  u263 : ∀ a b c d, S.usr 263 a b c d = .g (.cs ((csOf a).touch b.toInt))
  u264 : ∀ a b c d, S.usr 264 a b c d = .g (.cs ((csOf a).gone b.toInt))
  u265 : ∀ a b c d, S.usr 265 a b c d = .g (.cs ((csOf a).addF b.toInt c.toBytes))
  u266 : ∀ a b c d, S.usr 266 a b c d = .g (.cs ((csOf a).putF b.toInt c.toBytes d.toInts))
  u267 : ∀ a b c d, S.usr 267 a b c d = .g (.cs { csOf a with hits := b.toInt, misses := c.toInt, evic := d.toInt })
  u268 : ∀ a b c d, S.usr 268 a b c d = .bool (propB (GoodC (csOf a)))
  u269 : ∀ a b c d, S.usr 269 a b c d = .rows (setR a.toRows b.toInt c.toInts)
  u270 : ∀ a b c d, S.usr 270 a b c d = .rows (rotR a.toRows b.toInt)
  u271 : ∀ a b c d, S.usr 271 a b c d = .rows (gonR a.toRows b.toInt)
  u272 : ∀ a b c d, S.usr 272 a b c d = .int (oldP a.toRows (csOf b))
  u273 : ∀ a b c d, S.usr 273 a b c d = .g (.cs (csOf a))
  u274 : ∀ a b c d, S.usr 274 a b c d = .bool (propB ((csOf a).fr = (csOf b).fr))
  u280 : ∀ a b c d, S.usr 280 a b c d = .g (.cs ((csOf a).roomC (dvOf b)))
  u281 : ∀ a b c d, S.usr 281 a b c d = .g (.dv ((csOf a).roomD (dvOf b)))
  u282 : ∀ a b c d, S.usr 282 a b c d = .int ((csOf a).roomE (dvOf b))
  u283 : ∀ a b c d, S.usr 283 a b c d = .g (.cs ((csOf a).holdC (dvOf b) c.toInt))
  u284 : ∀ a b c d, S.usr 284 a b c d = .g (.dv ((csOf a).holdD (dvOf b) c.toInt))
  u285 : ∀ a b c d, S.usr 285 a b c d = .int ((csOf a).holdE (dvOf b) c.toInt)
  u287 : ∀ a b c d, S.usr 287 a b c d = .g (.cs ((csOf a).pinC (dvOf b) c.toInt))
  u288 : ∀ a b c d, S.usr 288 a b c d = .bool (propB (∀ f ∈ (csOf a).fr, f.pins ≤ 4611686018427387904))
  u289 : ∀ a b c d, S.usr 289 a b c d = .g (.cs ((csOf a).unpC b.toInt))
  u290 : ∀ a b c d, S.usr 290 a b c d = .int ((csOf a).unpE b.toInt)
  u291 : ∀ a b c d, S.usr 291 a b c d = .int ((csOf a).dirN b.toMap : Nat)
  u292 : ∀ a b c d, S.usr 292 a b c d = .int ((csOf a).pinN b.toMap : Nat)
  u293 : ∀ a b c d, S.usr 293 a b c d = .g (.cs ((csOf a).clean b.toInt))
  u294 : ∀ a b c d, S.usr 294 a b c d = .g (.cs (flS c.toInts (csOf a) (dvOf b)).1)
  u295 : ∀ a b c d, S.usr 295 a b c d = .g (.dv (flS c.toInts (csOf a) (dvOf b)).2.1)
  u296 : ∀ a b c d, S.usr 296 a b c d = .int (flS c.toInts (csOf a) (dvOf b)).2.2
  u297 : ∀ a b c d, S.usr 297 a b c d = .ints ((csOf a).keys)
  u298 : ∀ a b c d, S.usr 298 a b c d = .ints (sortK (a.toMap.map (·.1)))
  u299 : ∀ a b c d, S.usr 299 a b c d = .g (.cs ((csOf a).putC (dvOf b) c.toInt d.toBytes))
  u300 : ∀ a b c d, S.usr 300 a b c d = .g (.dv ((csOf a).putD (dvOf b) c.toInt d.toBytes))
  u301 : ∀ a b c d, S.usr 301 a b c d = .int ((csOf a).putE (dvOf b) c.toInt d.toBytes)
  u302 : ∀ a b c d, S.usr 302 a b c d = .g (.cs ((csOf a).dropC b.toInt))
  u303 : ∀ a b c d, S.usr 303 a b c d = .int ((csOf a).dropE b.toInt)
  u304 : ∀ a b c d, S.usr 304 a b c d = .g (.cs (csNew a.toInt))
  u305 : ∀ a b c d, S.usr 305 a b c d = .bool (propB (∀ f ∈ (csOf a).fr, 0 ≤ f.n ∧ f.n < 65536))
  u306 : ∀ a b c d, S.usr 306 a b c d = .bool (propB (∀ p ∈ a.toMap, 0 ≤ p.1 ∧ p.1 < 65536))
  u307 : ∀ a b c d, S.usr 307 a b c d = .g (.dv (dvOn a.toInt b.toBytes))
  u308 : ∀ a b c d, S.usr 308 a b c d = .bytes (filledB a.toInt)
  u309 : ∀ a b c d, S.usr 309 a b c d = .g (.dv (dvNew a.toInt))
  u310 : ∀ a b c d, S.usr 310 a b c d = .bool (propB (fillS a.toBytes b.toInt c.toInt))
theorem CsSig.of {S T : Sig GG} (h : CsSig S) (hu : T.usr = S.usr) (hp : T.prd = S.prd) (hd : T.dg = S.dg) : CsSig T := by
  constructor
  · exact h.dv.of hu hp hd
  · exact h.rg.of hu hp
  all_goals first | (rw [hp]; first | exact h.p70 | exact h.p71 | exact h.p72) | (rw [hu]; first | exact h.u250 | exact h.u251 | exact h.u252 | exact h.u253 | exact h.u254 | exact h.u255 | exact h.u256 | exact h.u257 | exact h.u258 | exact h.u259 | exact h.u260 | exact h.u261 | exact h.u262 | exact h.u263 | exact h.u264 | exact h.u265 | exact h.u266 | exact h.u267 | exact h.u268 | exact h.u269 | exact h.u270 | exact h.u271 | exact h.u272 | exact h.u273 | exact h.u274 | exact h.u280 | exact h.u281 | exact h.u282 | exact h.u283 | exact h.u284 | exact h.u285 | exact h.u287 | exact h.u288 | exact h.u289 | exact h.u290 | exact h.u291 | exact h.u292 | exact h.u293 | exact h.u294 | exact h.u295 | exact h.u296 | exact h.u297 | exact h.u298 | exact h.u299 | exact h.u300 | exact h.u301 | exact h.u302 | exact h.u303 | exact h.u304 | exact h.u305 | exact h.u306 | exact h.u307 | exact h.u308 | exact h.u309 | exact h.u310)
def csC (c p g : SX) : Ch := .prd 72 (cons1 (ints2 c p) nilR) g
def frC (R g : SX) : Ch := .prd 70 R g
def frO (i R g : SX) : Ch := .prd 71 (cons1 (one1 i) R) g
def mpC (b m : SX) : Ch := .map .i64 .ptr b m
def celQ (p hm H g : SX) : List SC := [pC p, .map hm, pC H, .int .i64 (usI 257 g z0 z0), .int .i64 z0, .int .i64 z0, .int .i64 z0, .int .i64 (usI 258 g z0 z0), .int .i64 (usI 259 g z0 z0), .int .i64 (usI 260 g z0 z0)]
def fcQ (g i bb bc : SX) : List SC := [.int .i64 (usI 252 g i z0), sl1 bb (lenB (usY 253 g i z0)) bc, .bool (usB 254 g i z0), .int .i64 (usI 255 g i z0)]
def rgX (R : SX) : SX := usN 242 R z0 z0
/-- A cache, opened: 3 the map; 4 the row's end; 5 the frames' places; 6 the map's content. -/
def unCsC : Ctr := ⟨[.int, .int, .g], [.one (.ptr (ai 0) 0)], [csC (ai 0) (ai 1) (gA 2)], [], [.int, .int, .rows, .amap], .tup [],
  [.cel (ai 0) 0 (celQ (ai 1) (ai 3) (ai 4) (gA 2)), mpC (ai 3) (mA 6), rgC (ai 4) (rgX (rA 5)), frC (rA 5) (gA 2)],
  [usB 251 (mA 6) (rA 5) (gA 2), usB 268 (gA 2) z0 z0, .f2 45 (lenR (rA 5)) (usI 256 (gA 2) z0 z0), eLe z0 (ai 3)]⟩
/-- .. shut, as g stands. -/
def foCsC (g : SX) : Ctr := ⟨[.int, .int, .g, .int, .int, .rows, .amap, .ints], [.one (.ptr (ai 0) 0)],
  [.cel (ai 0) 0 (celQ (ai 1) (ai 3) (ai 4) g), mpC (ai 3) (mA 6), rgC (ai 4) (iA 7), frC (rA 5) (gA 2)],
  [eqS (iA 7) (rgX (rA 5)), usB 251 (mA 6) (rA 5) g, usB 268 g z0 z0, usB 274 g (gA 2) z0], [], .tup [], [csC (ai 0) (ai 1) g], []⟩
def ixX (R l : SX) : SX := usI 250 R l z0
/-- A frame, opened: 0 its link; 1 the places; 2 g. -/
def opFC : Ctr := ⟨[.int, .rows, .g], [.one (.ptr (ai 0) 0)], [frC (rA 1) (gA 2)], [eLt (ixX (rA 1) (ai 0)) (lenR (rA 1))], [], .tup [],
  [.cel (ai 0) 2 (fcQ (gA 2) (ixX (rA 1) (ai 0)) (nt (rA 1) (ixX (rA 1) (ai 0)) 1) (nt (rA 1) (ixX (rA 1) (ai 0)) 2)), bAr (nt (rA 1) (ixX (rA 1) (ai 0)) 1) (usY 253 (gA 2) (ixX (rA 1) (ai 0)) z0) (nt (rA 1) (ixX (rA 1) (ai 0)) 2), frO (ixX (rA 1) (ai 0)) (rA 1) (gA 2)], [eLe (lenB (usY 253 (gA 2) (ixX (rA 1) (ai 0)) z0)) (nt (rA 1) (ixX (rA 1) (ai 0)) 2), .f2 50 (eLe z0 (nt (rA 1) (ixX (rA 1) (ai 0)) 1)) (.f2 45 (lenB (usY 253 (gA 2) (ixX (rA 1) (ai 0)) z0)) z0)]⟩
/-- .. shut: 1 which; 4, 5, 6 its bytes, 7 what they hold; 8, 9 dirty, pins. -/
def shFC : Ctr := ⟨[.int, .int, .rows, .g, .int, .int, .int, .bytes, .bool, .int, .int], [.one (.ptr (ai 0) 0)],
  [.cel (ai 0) 2 [.int .i64 (ai 10), sl1 (ai 4) (ai 5) (ai 6), .bool (qA 8), .int .i64 (ai 9)], bAr (ai 4) (bA 7) (ai 6), frO (ai 1) (rA 2) (gA 3)],
  [eLe z0 (ai 1), eLt (ai 1) (lenR (rA 2)), .f2 45 (ai 10) (usI 252 (gA 3) (ai 1) z0), eLe z0 (ai 5), eLe (ai 5) (lenB (bA 7))], [], .tup [],
  [frC (usR 269 (rA 2) (ai 1) (ints3 (ai 0) (ai 4) (ai 6))) (.us .g 266 (gA 3) (ai 1) (tkB (bA 7) (ai 5)) (ints2 (.f1 3 (qA 8)) (ai 9)))], []⟩
/-- .. shut, as it was. -/
def rdFC : Ctr := ⟨[.int, .int, .rows, .g], [.one (.ptr (ai 0) 0)], [frO (ai 1) (rA 2) (gA 3), .cel (ai 0) 2 (fcQ (gA 3) (ai 1) (nt (rA 2) (ai 1) 1) (nt (rA 2) (ai 1) 2)), bAr (nt (rA 2) (ai 1) 1) (usY 253 (gA 3) (ai 1) z0) (nt (rA 2) (ai 1) 2)],
  [eLe z0 (ai 1), eLt (ai 1) (lenR (rA 2)), .f2 45 (ai 0) (nt (rA 2) (ai 1) 0), .f2 45 (lenR (rA 2)) (usI 256 (gA 3) z0 z0)], [], .tup [], [frC (rA 2) (gA 3)], []⟩
/-- .. gone. -/
def gnFC : Ctr := ⟨[.int, .rows, .g], [], [frO (ai 0) (rA 1) (gA 2)], [eLe z0 (ai 0)], [], .tup [], [frC (usR 271 (rA 1) (ai 0) z0) (usG 264 (gA 2) (ai 0) z0)], []⟩
/-- One goes to the end. -/
def rtFC : Ctr := ⟨[.int, .rows, .g], [.one (.ptr (ai 0) 0)], [frC (rA 1) (gA 2)], [eLt (ixX (rA 1) (ai 0)) (lenR (rA 1))], [], .tup [], [frC (usR 270 (rA 1) (ixX (rA 1) (ai 0)) z0) (usG 263 (gA 2) (ixX (rA 1) (ai 0)) z0)], []⟩
/-- One more. -/
def adFC : Ctr := ⟨[.int, .rows, .g, .int, .int, .int, .int, .bytes], [.one (.ptr (ai 0) 0)],
  [.cel (ai 0) 2 [.int .i64 (ai 3), sl1 (ai 4) (ai 5) (ai 6), .bool (.bool false), .int .i64 z0], bAr (ai 4) (bA 7) (ai 6), frC (rA 1) (gA 2)], [eLe z0 (ai 5), eLe (ai 5) (lenB (bA 7))], [], .tup [],
  [frC (.f2 121 (rA 1) (.f2 124 (ints3 (ai 0) (ai 4) (ai 6)) nilR)) (usG 265 (gA 2) (ai 3) (tkB (bA 7) (ai 5)))], []⟩
/-- A new link, in two. -/
def spFC : Ctr := ⟨[.int, .int, .int, .int, .int, .int, .int, .bool, .int], [.one (.ptr (ai 0) 0)], [.cel (ai 0) 0 [pC (ai 1), pC (ai 2), .int .i64 (ai 3), sl1 (ai 4) (ai 5) (ai 6), .bool (qA 7), .int .i64 (ai 8)]], [], [], .tup [],
  [ndC (ai 0) (ai 1) (ai 2), .cel (ai 0) 2 [.int .i64 (ai 3), sl1 (ai 4) (ai 5) (ai 6), .bool (qA 7), .int .i64 (ai 8)]], []⟩
/-- A cache, shut as its numbers stand. -/
def foKC : Ctr := ⟨[.int, .int, .g, .int, .int, .rows, .amap, .ints, .int, .int, .int], [.one (.ptr (ai 0) 0)],
  [.cel (ai 0) 0 [pC (ai 1), .map (ai 3), pC (ai 4), .int .i64 (usI 257 (gA 2) z0 z0), .int .i64 z0, .int .i64 z0, .int .i64 z0, .int .i64 (ai 8), .int .i64 (ai 9), .int .i64 (ai 10)], mpC (ai 3) (mA 6), rgC (ai 4) (iA 7), frC (rA 5) (gA 2)],
  [eqS (iA 7) (rgX (rA 5)), usB 251 (mA 6) (rA 5) (gA 2), usB 268 (.us .g 267 (gA 2) (ai 8) (ai 9) (ai 10)) z0 z0], [], .tup [], [csC (ai 0) (ai 1) (.us .g 267 (gA 2) (ai 8) (ai 9) (ai 10))], []⟩
def nrPC : Ctr := ⟨[.int, .g], [], [plC (ai 0) (gA 1)], [], [], .tup [], [plC (ai 0) (usG 234 (gA 1) z0 z0)], []⟩
def celN : List SC := [pC (ai 1), .map (ai 3), pC (ai 4), .int .i64 (usI 257 (gA 2) z0 z0), .int .i64 z0, .int .i64 z0, .int .i64 z0, .int .i64 (ai 6), .int .i64 (ai 7), .int .i64 (ai 8)]
/-- An opened cache, by another word: its numbers as they stand in memory. -/
def rwKC : Ctr := ⟨[.int, .int, .g, .int, .int, .rows, .int, .int, .int], [.one (.ptr (ai 0) 0)], [.cel (ai 0) 0 celN, frC (rA 5) (gA 2)], [], [], .tup [],
  [.cel (ai 0) 0 (celQ (ai 1) (ai 3) (ai 4) (.us .g 267 (gA 2) (ai 6) (ai 7) (ai 8))), frC (rA 5) (.us .g 267 (gA 2) (ai 6) (ai 7) (ai 8))], []⟩
/-- What is known of a device. -/
def gdPC : Ctr := ⟨[.int, .g], [], [plC (ai 0) (gA 1)], [], [], .tup [], [plC (ai 0) (gA 1)], [usB 215 (gA 1) z0 z0]⟩
end
end Go.Proofs.Ytlcfjjjdhdfbdaa

/- A cache in memory: proofs. -/
set_option linter.unusedSimpArgs false
set_option linter.unusedVariables false
namespace Go.Proofs.Ytlcfjjjdhdfbdaa
noncomputable section
open Go.Eng
theorem frH_len : ∀ {k : List (List Int)} {q : List Fr} {h : Hl}, frH k q h → k.length = q.length
  | [], [], _, _ => rfl
  | r :: k, p :: q, h, hx => by
    obtain ⟨a, b, _, _, _, hb⟩ := hx
    rw [List.length_cons, List.length_cons, frH_len hb]
  | [], _ :: _, _, hx => hx.elim
  | _ :: _, [], _, hx => hx.elim
theorem frH_app : ∀ {a : List (List Int)} {c : List Fr} (b : List (List Int)) (d : List Fr), a.length = c.length → frH (a ++ b) (c ++ d) = star (frH a c) (frH b d)
  | [], [], b, d, _ => by rw [List.nil_append, List.nil_append]; show _ = star emp _; rw [emp_star]
  | r :: a, p :: c, b, d, h => by
    rw [List.cons_append, List.cons_append]
    show star _ (frH (a ++ b) (c ++ d)) = star (star _ (frH a c)) (frH b d)
    rw [frH_app b d (by simpa using h), star_assoc]
  | [], _ :: _, _, _, h => by simp at h
  | _ :: _, [], _, _, h => by simp at h
theorem frH_one (r : List Int) (p : Fr) : frH [r] [p] = itemF r p := by
  show star _ emp = _
  rw [star_emp]
theorem frH_pick {k : List (List Int)} {m : List Fr} {i : Nat} (hl : k.length = m.length) (hi : i < k.length) :
    frH k m = star (star (frH (k.take i) (m.take i)) (frH (k.drop (i + 1)) (m.drop (i + 1)))) (itemF (k.getD i []) (m.getD i fr0)) := by
  conv => lhs; rw [split_at (d := []) hi, split_at (d := fr0) (show i < m.length by omega)]
  rw [frH_app _ _ (by rw [List.length_take, List.length_take]; omega), frH_app _ _ (show [k.getD i []].length = [m.getD i fr0].length from rfl), frH_one, star_assoc, star_comm (itemF _ _)]
theorem kp71_mk (i : Int) (R : List (List Int)) (s : Cs) : kp71 ([i] :: R) s = star (frH (R.take i.toNat) (s.fr.take i.toNat)) (frH (R.drop (i.toNat + 1)) (s.fr.drop (i.toNat + 1))) := rfl
theorem rowI_at {l : Int} : ∀ {R : List (List Int)}, rowI l R < R.length → g0 (R.getD (rowI l R) []) = l
  | [], h => absurd h (Nat.not_lt_zero _)
  | r :: R, h => by
    unfold rowI at h ⊢
    cases hp : g0 r == l
    · rw [hp] at h
      have h : rowI l R + 1 < R.length + 1 := h
      show g0 (R.getD (rowI l R) []) = l
      exact rowI_at (by omega)
    · exact beq_iff_eq.1 hp
theorem celQ_den {T : Sig GG} (hT : CsSig T) (ρ : Go.Eng.Env GG) (w0 : World) (c p hm H g : SX) : (Ch.cel c 0 (celQ p hm H g)).den T ρ w0 = celK (c.den T ρ).toInt (p.den T ρ).toInt (hm.den T ρ).toInt (H.den T ρ).toInt (csOf (g.den T ρ)) := by
  simp only [celQ, pC, Ch.den, List.map_cons, List.map_nil, SC.den, usI, z0, SX.den, hT.u257, hT.u258, hT.u259, hT.u260, co_int, U.toInt_int, reduceCtorEq]
  rfl
theorem fcel_den (T : Sig GG) (ρ : Go.Eng.Env GG) (w0 : World) (c n bb bl bc d p : SX) : (Ch.cel c 2 [.int .i64 n, sl1 bb bl bc, .bool d, .int .i64 p]).den T ρ w0 =
    fun h => (0 ≤ (c.den T ρ).toInt ∨ False) ∧ row (c.den T ρ).toInt.toNat 2 [.int .i64 (n.den T ρ).toInt, slV (bb.den T ρ).toInt (bl.den T ρ).toInt (bc.den T ρ).toInt, .bool (d.den T ρ).toBool, .int .i64 (p.den T ρ).toInt] true h := by
  simp only [Ch.den, List.map_cons, List.map_nil, sl1, slC_den, SC.den, reduceCtorEq]
theorem mpC_den (T : Sig GG) (ρ : Go.Eng.Env GG) (w0 : World) (b m : SX) : (mpC b m).den T ρ w0 = mapP (b.den T ρ).toInt (m.den T ρ).toMap := rfl
theorem rgX_den {T : Sig GG} (hT : CsSig T) (ρ : Go.Eng.Env GG) (R : SX) : ((rgX R).den T ρ).toInts = (R.den T ρ).toRows.map g0 := by
  simp only [rgX, usN, SX.den, hT.rg.u242, co_ints, U.toInts_ints]
theorem unCs_gh (S : Sig GG) (hS : CsSig S) : GhOk S unCsC := by
  refine gh_mk S fun T w0 ρ h hu hp hd hr hpre => ?_
  have hT := hS.of hu hp hd
  have e1 : hpDen T ρ w0 unCsC.pre = star (T.prd 72 w0 ((cons1 (ints2 (ai 0) (ai 1)) nilR).den T ρ) ((gA 2).den T ρ)) emp := rfl
  rw [e1, star_emp, hT.p72] at hpre
  generalize hd' : csOf ((gA 2).den T ρ) = s at hpre
  obtain ⟨hg, hm, H, R, m, hh, hst⟩ := hpre
  let ρ' : Go.Eng.Env GG := (((ρ.upd 3 (.int hm)).upd 4 (.int H)).upd 5 (.rows R)).upd 6 (.amap m)
  have hgd : csOf ((gA 2).den T ρ') = s := by rw [← hd']; rfl
  refine ⟨ρ', ?_, ?_, ?_⟩
  · intro i hi
    have hi : i < 3 := hi
    show ((((ρ.upd 3 (.int hm)).upd 4 (.int H)).upd 5 (.rows R)).upd 6 (.amap m)) i = ρ i
    simp only [Env.upd]
    repeat rw [if_neg (by omega)]
  · have e2 : hpDen T ρ' w0 unCsC.post = star ((Ch.cel (ai 0) 0 (celQ (ai 1) (ai 3) (ai 4) (gA 2))).den T ρ' w0) (star ((mpC (ai 3) (mA 6)).den T ρ' w0) (star (T.prd 60 w0 ((ai 4).den T ρ') ((rgX (rA 5)).den T ρ')) (star (T.prd 70 w0 ((rA 5).den T ρ') ((gA 2).den T ρ')) emp))) := rfl
    rw [e2, star_emp, celQ_den hT, mpC_den, hT.rg.p60, hT.p70, rgX_den hT, hgd]
    exact hst
  · obtain ⟨_, _, _, hq⟩ := star_take hst
    obtain ⟨_, _, hmp, _⟩ := star_take hq
    intro q hq
    simp only [unCsC, List.mem_cons, List.not_mem_nil, or_false] at hq
    rcases hq with rfl | rfl | rfl | rfl
    · have : ((usB 251 (mA 6) (rA 5) (gA 2)).den T ρ').toProp ↔ heldOk m R s.fr := by
        simp only [usB, SX.den, hT.u251, co_bool, U.toProp_bool, U.toBool_bool, propB_iff]
        rw [hgd]; exact Iff.rfl
      exact this.2 hh
    · have : ((usB 268 (gA 2) z0 z0).den T ρ').toProp ↔ GoodC s := by
        simp only [usB, SX.den, hT.u268, co_bool, U.toProp_bool, U.toBool_bool, propB_iff]
        rw [hgd]
      exact this.2 hg
    · have : ((Go.Eng.SX.f2 45 (lenR (rA 5)) (usI 256 (gA 2) z0 z0)).den T ρ').toProp ↔ (R.length : Int) = (s.fr.length : Nat) := by
        simp only [usI, lenR, SX.den, hT.u256, co_int, U.toInt_int, p45, ap1_32]
        rw [hgd]; exact Iff.rfl
      rw [this, hh.1]
    · rw [eLe_den]; exact hmp.1
theorem foCs_gh (S : Sig GG) (hS : CsSig S) (g : SX) : GhOk S (foCsC g) := by
  refine gh_mk S fun T w0 ρ h hu hp hd hr hpre => ⟨ρ, Ext.refl _ _, ?_, by intro x hx; exact nomatch hx⟩
  have hT := hS.of hu hp hd
  have e1 : hpDen T ρ w0 (foCsC g).pre = star ((Ch.cel (ai 0) 0 (celQ (ai 1) (ai 3) (ai 4) g)).den T ρ w0) (star ((mpC (ai 3) (mA 6)).den T ρ w0) (star (T.prd 60 w0 ((ai 4).den T ρ) ((iA 7).den T ρ)) (star (T.prd 70 w0 ((rA 5).den T ρ) ((gA 2).den T ρ)) emp))) := rfl
  have e2 : hpDen T ρ w0 (foCsC g).post = star (T.prd 72 w0 ((cons1 (ints2 (ai 0) (ai 1)) nilR).den T ρ) (g.den T ρ)) emp := rfl
  rw [e1, star_emp, celQ_den hT, mpC_den, hT.rg.p60, hT.p70] at hpre
  rw [e2, star_emp, hT.p72]
  have r1 := hr (eqS (iA 7) (rgX (rA 5))) (by simp [foCsC])
  have r2 := hr (usB 251 (mA 6) (rA 5) g) (by simp [foCsC])
  have r3 := hr (usB 268 g z0 z0) (by simp [foCsC])
  have r4 := hr (usB 274 g (gA 2) z0) (by simp [foCsC])
  simp only [eqS, rgX, usB, usN, SX.den, hT.rg.u242, hT.u251, hT.u268, hT.u274, co_bool, co_ints, co_rows, co_map, p155, rA, iA, mA, U.toInts_ints, U.toRows_rows, U.toMap_amap, U.toProp_bool, U.toBool_bool, propB_iff, U.ints.injEq] at r1 r2 r3 r4
  have k1 : ((iA 7).den T ρ).toInts = (ρ 5).toRows.map g0 := r1
  rw [k1, ← r4] at hpre
  exact ⟨r3, (ρ 3).toInt, (ρ 4).toInt, (ρ 5).toRows, (ρ 6).toMap, r2, hpre⟩
theorem nrP_gh (S : Sig GG) (hS : CsSig S) : GhOk S nrPC := by
  refine gh_mk S fun T w0 ρ h hu hp hd hr hpre => ⟨ρ, Ext.refl _ _, ?_, by intro x hx; exact nomatch hx⟩
  have hT := hS.of hu hp hd
  have e1 : hpDen T ρ w0 nrPC.pre = star (T.prd 50 w0 ((ai 0).den T ρ) ((gA 1).den T ρ)) emp := rfl
  have e2 : hpDen T ρ w0 nrPC.post = star (T.prd 50 w0 ((ai 0).den T ρ) ((usG 234 (gA 1) z0 z0).den T ρ)) emp := rfl
  rw [e1, star_emp, hT.dv.p50] at hpre
  rw [e2, star_emp, hT.dv.p50]
  have e : dvOf ((usG 234 (gA 1) z0 z0).den T ρ) = dvOf ((gA 1).den T ρ) := by simp only [usG, SX.den, hT.dv.u234, co_g, dvOf_g]
  rw [e]; exact hpre
theorem foK_gh (S : Sig GG) (hS : CsSig S) : GhOk S foKC := by
  refine gh_mk S fun T w0 ρ h hu hp hd hr hpre => ⟨ρ, Ext.refl _ _, ?_, by intro x hx; exact nomatch hx⟩
  have hT := hS.of hu hp hd
  have e1 : hpDen T ρ w0 foKC.pre = star ((Ch.cel (ai 0) 0 [pC (ai 1), .map (ai 3), pC (ai 4), .int .i64 (usI 257 (gA 2) z0 z0), .int .i64 z0, .int .i64 z0, .int .i64 z0, .int .i64 (ai 8), .int .i64 (ai 9), .int .i64 (ai 10)]).den T ρ w0) (star ((mpC (ai 3) (mA 6)).den T ρ w0) (star (T.prd 60 w0 ((ai 4).den T ρ) ((iA 7).den T ρ)) (star (T.prd 70 w0 ((rA 5).den T ρ) ((gA 2).den T ρ)) emp))) := rfl
  have e2 : hpDen T ρ w0 foKC.post = star (T.prd 72 w0 ((cons1 (ints2 (ai 0) (ai 1)) nilR).den T ρ) ((Go.Eng.SX.us .g 267 (gA 2) (ai 8) (ai 9) (ai 10)).den T ρ)) emp := rfl
  have k3 : csOf ((Go.Eng.SX.us .g 267 (gA 2) (ai 8) (ai 9) (ai 10)).den T ρ) = { csOf ((gA 2).den T ρ) with hits := (ρ 8).toInt, misses := (ρ 9).toInt, evic := (ρ 10).toInt } := by
    simp only [SX.den, hT.u267, co_g, csOf_g]; rfl
  have k4 : (Ch.cel (ai 0) 0 [pC (ai 1), .map (ai 3), pC (ai 4), .int .i64 (usI 257 (gA 2) z0 z0), .int .i64 z0, .int .i64 z0, .int .i64 z0, .int .i64 (ai 8), .int .i64 (ai 9), .int .i64 (ai 10)]).den T ρ w0 =
      celK (ρ 0).toInt (ρ 1).toInt (ρ 3).toInt (ρ 4).toInt { csOf ((gA 2).den T ρ) with hits := (ρ 8).toInt, misses := (ρ 9).toInt, evic := (ρ 10).toInt } := by
    simp only [pC, Ch.den, List.map_cons, List.map_nil, SC.den, usI, z0, SX.den, hT.u257, co_int, U.toInt_int, reduceCtorEq]
    rfl
  rw [e1, star_emp, k4, mpC_den, hT.rg.p60, hT.p70] at hpre
  rw [e2, star_emp, hT.p72, k3]
  have r1 := hr (eqS (iA 7) (rgX (rA 5))) (by simp [foKC])
  have r2 := hr (usB 251 (mA 6) (rA 5) (gA 2)) (by simp [foKC])
  have r3 := hr (usB 268 (.us .g 267 (gA 2) (ai 8) (ai 9) (ai 10)) z0 z0) (by simp [foKC])
  have r3 : GoodC (csOf ((Go.Eng.SX.us .g 267 (gA 2) (ai 8) (ai 9) (ai 10)).den T ρ)) := by
    simpa only [usB, SX.den, hT.u268, co_bool, U.toProp_bool, U.toBool_bool, propB_iff] using r3
  rw [k3] at r3
  simp only [eqS, rgX, usB, usN, SX.den, hT.rg.u242, hT.u251, co_bool, co_ints, co_rows, co_map, p155, rA, iA, mA, U.toInts_ints, U.toRows_rows, U.toMap_amap, U.toProp_bool, U.toBool_bool, propB_iff, U.ints.injEq] at r1 r2
  have k1 : ((iA 7).den T ρ).toInts = (ρ 5).toRows.map g0 := r1
  rw [k1] at hpre
  exact ⟨r3, (ρ 3).toInt, (ρ 4).toInt, (ρ 5).toRows, (ρ 6).toMap, r2, hpre⟩
theorem gdP_gh (S : Sig GG) (hS : CsSig S) : GhOk S gdPC := by
  refine gh_mk S fun T w0 ρ h hu hp hd hr hpre => ⟨ρ, Ext.refl _ _, hpre, ?_⟩
  have hT := hS.of hu hp hd
  have e1 : hpDen T ρ w0 gdPC.pre = star (T.prd 50 w0 ((ai 0).den T ρ) ((gA 1).den T ρ)) emp := rfl
  rw [e1, star_emp, hT.dv.p50] at hpre
  intro q hq
  simp only [gdPC, List.mem_singleton] at hq
  subst hq
  have : ((usB 215 (gA 1) z0 z0).den T ρ).toProp ↔ GoodD (dvOf ((gA 1).den T ρ)) := by
    simp only [usB, SX.den, hT.dv.u215, co_bool, U.toProp_bool, U.toBool_bool, propB_iff]
  exact this.2 hpre.1
theorem rwK_gh (S : Sig GG) (hS : CsSig S) : GhOk S rwKC := by
  refine gh_mk S fun T w0 ρ h hu hp hd hr hpre => ⟨ρ, Ext.refl _ _, ?_, (fun x hx => nomatch hx)⟩
  have hT := hS.of hu hp hd
  have e1 : hpDen T ρ w0 rwKC.pre = star ((Ch.cel (ai 0) 0 celN).den T ρ w0) (star (T.prd 70 w0 ((rA 5).den T ρ) ((gA 2).den T ρ)) emp) := rfl
  have e2 : hpDen T ρ w0 rwKC.post = star ((Ch.cel (ai 0) 0 (celQ (ai 1) (ai 3) (ai 4) (.us .g 267 (gA 2) (ai 6) (ai 7) (ai 8)))).den T ρ w0) (star (T.prd 70 w0 ((rA 5).den T ρ) ((Go.Eng.SX.us .g 267 (gA 2) (ai 6) (ai 7) (ai 8)).den T ρ)) emp) := rfl
  have k3 : csOf ((Go.Eng.SX.us .g 267 (gA 2) (ai 6) (ai 7) (ai 8)).den T ρ) = { csOf ((gA 2).den T ρ) with hits := (ρ 6).toInt, misses := (ρ 7).toInt, evic := (ρ 8).toInt } := by
    simp only [SX.den, hT.u267, co_g, csOf_g]; rfl
  have k4 : (Ch.cel (ai 0) 0 celN).den T ρ w0 = celK (ρ 0).toInt (ρ 1).toInt (ρ 3).toInt (ρ 4).toInt { csOf ((gA 2).den T ρ) with hits := (ρ 6).toInt, misses := (ρ 7).toInt, evic := (ρ 8).toInt } := by
    simp only [celN, pC, Ch.den, List.map_cons, List.map_nil, SC.den, usI, z0, SX.den, hT.u257, co_int, U.toInt_int, reduceCtorEq]
    rfl
  rw [e1, star_emp, k4, hT.p70] at hpre
  rw [e2, star_emp, celQ_den hT, hT.p70, k3]
  exact hpre
end
end Go.Proofs.Ytlcfjjjdhdfbdaa

/- Frames in memory: proofs. -/
set_option linter.unusedSimpArgs false
set_option linter.unusedVariables false
namespace Go.Proofs.Ytlcfjjjdhdfbdaa
noncomputable section
open Go.Eng
theorem fcQ_den {T : Sig GG} (hT : CsSig T) (ρ : Go.Eng.Env GG) (w0 : World) (c g i bb bc : SX) : (Ch.cel c 2 (fcQ g i bb bc)).den T ρ w0 =
    frD [(c.den T ρ).toInt, (bb.den T ρ).toInt, (bc.den T ρ).toInt] ((csOf (g.den T ρ)).at' (i.den T ρ).toInt) := by
  unfold fcQ
  rw [fcel_den]
  simp only [usI, usY, usB, z0, lenB, SX.den, hT.u252, hT.u253, hT.u254, hT.u255, co_int, co_bytes, co_bool, U.toInt_int, U.toBool_bool, U.toBytes_bytes, ap1_31]
  rfl
theorem frD_row {r s : List Int} (h0 : g0 r = g0 s) (h1 : g1 r = g1 s) (h2 : g2 r = g2 s) (f : Fr) : frD r f = frD s f := by unfold frD; rw [h0, h1, h2]
theorem itemF_row {r s : List Int} (h0 : g0 r = g0 s) (h1 : g1 r = g1 s) (h2 : g2 r = g2 s) (f : Fr) : itemF r f = itemF s f := by unfold itemF; rw [frD_row h0 h1 h2, h1, h2]
theorem opF_gh (S : Sig GG) (hS : CsSig S) : GhOk S opFC := by
  refine gh_mk S fun T w0 ρ h hu hp hd hr hpre => ⟨ρ, Ext.refl _ _, ?_⟩
  have hT := hS.of hu hp hd
  have e1 : hpDen T ρ w0 opFC.pre = star (T.prd 70 w0 ((rA 1).den T ρ) ((gA 2).den T ρ)) emp := rfl
  have e2 : hpDen T ρ w0 opFC.post = star ((Ch.cel (ai 0) 2 (fcQ (gA 2) (ixX (rA 1) (ai 0)) (nt (rA 1) (ixX (rA 1) (ai 0)) 1) (nt (rA 1) (ixX (rA 1) (ai 0)) 2))).den T ρ w0) (star (arrDen T .bytes ((nt (rA 1) (ixX (rA 1) (ai 0)) 1).den T ρ) ((usY 253 (gA 2) (ixX (rA 1) (ai 0)) z0).den T ρ) ((nt (rA 1) (ixX (rA 1) (ai 0)) 2).den T ρ)) (star (T.prd 71 w0 ((cons1 (one1 (ixX (rA 1) (ai 0))) (rA 1)).den T ρ) ((gA 2).den T ρ)) emp)) := rfl
  have r1 := hr (eLt (ixX (rA 1) (ai 0)) (lenR (rA 1))) (by simp [opFC])
  have hix : ((ixX (rA 1) (ai 0)).den T ρ) = .int (rowI (ρ 0).toInt (ρ 1).toRows : Nat) := by
    simp only [ixX, usI, SX.den, hT.u250, co_int, rA, ai, co_rows, U.toInt_int, U.toRows_rows]
  rw [eLt_den, hix] at r1
  have r1 : ((rowI (ρ 0).toInt (ρ 1).toRows : Nat) : Int) < ((ρ 1).toRows.length : Nat) := r1
  have hi : rowI (ρ 0).toInt (ρ 1).toRows < (ρ 1).toRows.length := by omega
  have hl := rowI_at hi
  have hn : ∀ k, ((nt (rA 1) (ixX (rA 1) (ai 0)) k).den T ρ) = .int (((ρ 1).toRows.getD (rowI (ρ 0).toInt (ρ 1).toRows) []).getD k 0) := by
    intro k
    show (ap3 112 ((rA 1).den T ρ) ((ixX (rA 1) (ai 0)).den T ρ) (U.int (k : Int))) = _
    rw [hix, ap3_112]; rfl
  have hb : ((usY 253 (gA 2) (ixX (rA 1) (ai 0)) z0).den T ρ) = .bytes ((csOf ((gA 2).den T ρ)).at' (rowI (ρ 0).toInt (ρ 1).toRows : Nat)).b := by
    simp only [usY, SX.den, hT.u253, hix, co_bytes, co_int, U.toInt_int, U.toBytes_bytes]
  rw [e1, star_emp, hT.p70] at hpre
  have k1 : ((rA 1).den T ρ).toRows = (ρ 1).toRows := rfl
  rw [k1] at hpre
  rw [e2, star_emp, fcQ_den hT, hn, hn, hb, hT.p71, hix]
  have k2 : ((cons1 (one1 (ixX (rA 1) (ai 0))) (rA 1)).den T ρ).toRows = [((ixX (rA 1) (ai 0)).den T ρ).toInt] :: (ρ 1).toRows := rfl
  rw [k2, hix, kp71_mk]
  have hlen := frH_len hpre
  generalize csOf ((gA 2).den T ρ) = s at *
  rw [frH_pick hlen hi] at hpre
  generalize hI : rowI (ρ 0).toInt (ρ 1).toRows = I at *
  rw [star_comm] at hpre
  unfold itemF at hpre
  rw [star_assoc] at hpre
  have hk : (ρ 0).toInt = g0 ((ρ 1).toRows.getD I []) := hl.symm
  have ea : frD [((ai 0).den T ρ).toInt, (U.int (((ρ 1).toRows.getD I []).getD 1 0) : U GG).toInt, (U.int (((ρ 1).toRows.getD I []).getD 2 0) : U GG).toInt] (s.at' (U.int (I : Nat) : U GG).toInt) = frD ((ρ 1).toRows.getD I []) (s.fr.getD I fr0) :=
    frD_row (show g0 [(ρ 0).toInt, _, _] = _ from hk) rfl rfl _
  rw [ea]
  refine ⟨hpre, ?_⟩
  obtain ⟨_, _, _, hq⟩ := star_take hpre
  obtain ⟨_, _, hba, _⟩ := star_take hq
  have hle := bAD_le hba
  obtain ⟨_, _, _, hb0, _⟩ := hba
  intro q hq
  simp only [opFC, List.mem_cons, List.not_mem_nil, or_false] at hq
  rcases hq with rfl | rfl
  · rw [eLe_den, hn]
    have e : ((lenB (usY 253 (gA 2) (ixX (rA 1) (ai 0)) z0)).den T ρ).toInt = ((s.at' (I : Nat)).b.length : Nat) := by
      show (ap1 31 ((usY 253 (gA 2) (ixX (rA 1) (ai 0)) z0).den T ρ)).toInt = _
      rw [hb]; rfl
    rw [e]; exact hle
  · have e : ((lenB (usY 253 (gA 2) (ixX (rA 1) (ai 0)) z0)).den T ρ).toInt = ((s.at' (I : Nat)).b.length : Nat) := by
      show (ap1 31 ((usY 253 (gA 2) (ixX (rA 1) (ai 0)) z0).den T ρ)).toInt = _
      rw [hb]; rfl
    have goal : 0 ≤ ((ρ 1).toRows.getD I []).getD 1 0 ∨ (((s.at' (I : Nat)).b.length : Nat) : Int) = 0 := by
      rcases hb0 with h | h
      · exact .inl h
      · have h : g2 ((ρ 1).toRows.getD I []) = 0 := h
        rw [h] at hle
        exact .inr (by have hle : (((s.fr.getD I fr0).b.length : Nat) : Int) ≤ 0 := hle; show (((s.fr.getD I fr0).b.length : Nat) : Int) = 0; omega)
    simp only [SX.den, p50]
    rcases goal with g | g
    · left
      show ((eLe z0 (nt (rA 1) (ixX (rA 1) (ai 0)) 1)).den T ρ).toProp
      rw [eLe_den, hn]; exact g
    · right
      show (ap2 45 ((lenB (usY 253 (gA 2) (ixX (rA 1) (ai 0)) z0)).den T ρ) (z0.den T ρ)).toProp
      rw [p45, e]; exact g
theorem shF_gh (S : Sig GG) (hS : CsSig S) : GhOk S shFC := by
  refine gh_mk S fun T w0 ρ h hu hp hd hr hpre => ⟨ρ, Ext.refl _ _, ?_, (fun x hx => nomatch hx)⟩
  have hT := hS.of hu hp hd
  have e1 : hpDen T ρ w0 shFC.pre = star ((Ch.cel (ai 0) 2 [.int .i64 (ai 10), sl1 (ai 4) (ai 5) (ai 6), .bool (qA 8), .int .i64 (ai 9)]).den T ρ w0) (star (bAD (ρ 4).toInt (ρ 7).toBytes (ρ 6).toInt) (star (T.prd 71 w0 ((cons1 (one1 (ai 1)) (rA 2)).den T ρ) ((gA 3).den T ρ)) emp)) := rfl
  have e2 : hpDen T ρ w0 shFC.post = star (T.prd 70 w0 ((usR 269 (rA 2) (ai 1) (ints3 (ai 0) (ai 4) (ai 6))).den T ρ) ((Go.Eng.SX.us .g 266 (gA 3) (ai 1) (tkB (bA 7) (ai 5)) (ints2 (.f1 3 (qA 8)) (ai 9))).den T ρ)) emp := rfl
  have r0 := hr (eLe z0 (ai 1)) (by simp [shFC])
  have r1 := hr (eLt (ai 1) (lenR (rA 2))) (by simp [shFC])
  have r2 := hr (.f2 45 (ai 10) (usI 252 (gA 3) (ai 1) z0)) (by simp [shFC])
  have r3 := hr (eLe z0 (ai 5)) (by simp [shFC])
  have r4 := hr (eLe (ai 5) (lenB (bA 7))) (by simp [shFC])
  rw [eLe_den] at r0 r3 r4
  rw [eLt_den] at r1
  simp only [usI, SX.den, hT.u252, co_int, U.toInt_int, p45, ai] at r2
  have r0 : 0 ≤ (ρ 1).toInt := r0
  have r1 : (ρ 1).toInt < ((ρ 2).toRows.length : Nat) := r1
  have r3 : 0 ≤ (ρ 5).toInt := r3
  have r4 : (ρ 5).toInt ≤ ((ρ 7).toBytes.length : Nat) := r4
  have k1 : ((cons1 (one1 (ai 1)) (rA 2)).den T ρ).toRows = [(ρ 1).toInt] :: (ρ 2).toRows := rfl
  rw [e1, star_emp, fcel_den, hT.p71, k1, kp71_mk] at hpre
  have k2 : ((usR 269 (rA 2) (ai 1) (ints3 (ai 0) (ai 4) (ai 6))).den T ρ).toRows = setR (ρ 2).toRows (ρ 1).toInt [(ρ 0).toInt, (ρ 4).toInt, (ρ 6).toInt] := by
    simp only [usR, SX.den, hT.u269, co_rows, U.toRows_rows]; try rfl
  have k3 : csOf ((Go.Eng.SX.us .g 266 (gA 3) (ai 1) (tkB (bA 7) (ai 5)) (ints2 (.f1 3 (qA 8)) (ai 9))).den T ρ) = (csOf ((gA 3).den T ρ)).putF (ρ 1).toInt ((ρ 7).toBytes.take (ρ 5).toInt.toNat) [(ap1 3 (U.bool (ρ 8).toBool : U GG)).toInt, (ρ 9).toInt] := by
    simp only [SX.den, hT.u266, co_g, csOf_g]; rfl
  rw [e2, star_emp, hT.p70, k2, k3]
  generalize csOf ((gA 3).den T ρ) = s at hpre r2 ⊢
  obtain ⟨a, b1, d1, rfl, ⟨ha1, ha2⟩, b, c1, d2, rfl, hb, hc⟩ := hpre
  obtain ⟨c, e, d3, rfl, hc1, hc2⟩ := hc
  have hl1 := frH_len hc1
  have hl2 := frH_len hc2
  rw [List.length_take, List.length_take] at hl1
  rw [List.length_drop, List.length_drop] at hl2
  unfold setR Cs.putF Cs.put
  show frH (_ ++ [_, _, _] :: _) (_ ++ _ :: _) _
  rw [← List.singleton_append, ← List.singleton_append (l := s.fr.drop _), frH_app _ _ (by rw [List.length_take, List.length_take]; omega), frH_app _ _ (show [_].length = [_].length from rfl), frH_one]
  have hlen : (((ρ 7).toBytes.take (ρ 5).toInt.toNat).length : Int) = (ρ 5).toInt := by rw [List.length_take]; omega
  have hdirty : ((ap1 3 (U.bool (ρ 8).toBool : U GG)).toInt == 1) = (ρ 8).toBool := by cases (ρ 8).toBool <;> rfl
  have hh : star (frD [(ρ 0).toInt, (ρ 4).toInt, (ρ 6).toInt] ⟨(s.at' (ρ 1).toInt).n, (ρ 7).toBytes.take (ρ 5).toInt.toNat, (ap1 3 (U.bool (ρ 8).toBool : U GG)).toInt == 1, (ρ 9).toInt⟩)
      (star (bAD (ρ 4).toInt ((ρ 7).toBytes.take (ρ 5).toInt.toNat) (ρ 6).toInt) (star (frH ((ρ 2).toRows.take (ρ 1).toInt.toNat) (s.fr.take (ρ 1).toInt.toNat)) (frH ((ρ 2).toRows.drop ((ρ 1).toInt.toNat + 1)) (s.fr.drop ((ρ 1).toInt.toNat + 1))))) _ :=
    ⟨a, _, d1, rfl, ⟨ha1, by
      show row (ρ 0).toInt.toNat 2 [.int .i64 (s.at' (ρ 1).toInt).n, slV (ρ 4).toInt (((ρ 7).toBytes.take (ρ 5).toInt.toNat).length : Nat) (ρ 6).toInt, .bool _, .int .i64 (ρ 9).toInt] true a
      rw [hlen, hdirty, ← r2]; exact ha2⟩, b, _, d2, rfl, bAD_take _ hb, c, e, d3, rfl, hc1, hc2⟩
  rw [← star_assoc, star_left_comm] at hh
  exact hh
theorem rdF_gh (S : Sig GG) (hS : CsSig S) : GhOk S rdFC := by
  refine gh_mk S fun T w0 ρ h hu hp hd hr hpre => ⟨ρ, Ext.refl _ _, ?_, (fun x hx => nomatch hx)⟩
  have hT := hS.of hu hp hd
  have e1 : hpDen T ρ w0 rdFC.pre = star (T.prd 71 w0 ((cons1 (one1 (ai 1)) (rA 2)).den T ρ) ((gA 3).den T ρ)) (star ((Ch.cel (ai 0) 2 (fcQ (gA 3) (ai 1) (nt (rA 2) (ai 1) 1) (nt (rA 2) (ai 1) 2))).den T ρ w0) (star (arrDen T .bytes ((nt (rA 2) (ai 1) 1).den T ρ) ((usY 253 (gA 3) (ai 1) z0).den T ρ) ((nt (rA 2) (ai 1) 2).den T ρ)) emp)) := rfl
  have e2 : hpDen T ρ w0 rdFC.post = star (T.prd 70 w0 ((rA 2).den T ρ) ((gA 3).den T ρ)) emp := rfl
  have r0 := hr (eLe z0 (ai 1)) (by simp [rdFC])
  have r1 := hr (eLt (ai 1) (lenR (rA 2))) (by simp [rdFC])
  have r2 := hr (.f2 45 (ai 0) (nt (rA 2) (ai 1) 0)) (by simp [rdFC])
  have r3 := hr (.f2 45 (lenR (rA 2)) (usI 256 (gA 3) z0 z0)) (by simp [rdFC])
  simp only [lenR, usI, SX.den, hT.u256, p45, ap1_32, U.toInt_int, co_int] at r3
  have r3 : ((ρ 2).toRows.length : Int) = ((csOf ((gA 3).den T ρ)).fr.length : Nat) := r3
  rw [eLe_den] at r0
  rw [eLt_den] at r1
  have r0 : 0 ≤ (ρ 1).toInt := r0
  have r1 : (ρ 1).toInt < ((ρ 2).toRows.length : Nat) := r1
  have hn : ∀ k, ((nt (rA 2) (ai 1) k).den T ρ) = .int (((ρ 2).toRows.getD (ρ 1).toInt.toNat []).getD k 0) := by
    intro k
    show (ap3 112 ((rA 2).den T ρ) ((ai 1).den T ρ) (U.int (k : Int))) = _
    rw [ap3_112]; rfl
  have r2 : (ρ 0).toInt = g0 ((ρ 2).toRows.getD (ρ 1).toInt.toNat []) := by
    simp only [SX.den, hn, p45, U.toInt_int, ai, co_int] at r2; exact r2
  have hb : ((usY 253 (gA 3) (ai 1) z0).den T ρ) = .bytes ((csOf ((gA 3).den T ρ)).at' (ρ 1).toInt).b := by
    simp only [usY, SX.den, hT.u253, co_bytes, co_int, U.toInt_int, U.toBytes_bytes, ai]
  have k2 : ((cons1 (one1 (ai 1)) (rA 2)).den T ρ).toRows = [(ρ 1).toInt] :: (ρ 2).toRows := rfl
  rw [e1, star_emp, fcQ_den hT, hn, hn, hb, hT.p71, k2, kp71_mk] at hpre
  rw [e2, star_emp, hT.p70]
  have k1 : ((rA 2).den T ρ).toRows = (ρ 2).toRows := rfl
  have k3 : ((ai 1).den T ρ).toInt = (ρ 1).toInt := rfl
  rw [k1]
  rw [k3] at hpre
  generalize csOf ((gA 3).den T ρ) = s at *
  have hlen : (ρ 2).toRows.length = s.fr.length := by
    omega
  rw [frH_pick hlen (show (ρ 1).toInt.toNat < _ by omega)]
  have ea : frD [((ai 0).den T ρ).toInt, (U.int (((ρ 2).toRows.getD (ρ 1).toInt.toNat []).getD 1 0) : U GG).toInt, (U.int (((ρ 2).toRows.getD (ρ 1).toInt.toNat []).getD 2 0) : U GG).toInt] (s.at' (ρ 1).toInt) = frD ((ρ 2).toRows.getD (ρ 1).toInt.toNat []) (s.fr.getD (ρ 1).toInt.toNat fr0) :=
    frD_row (show g0 [(ρ 0).toInt, _, _] = _ from r2) rfl rfl _
  rw [ea] at hpre
  exact hpre
theorem gnF_gh (S : Sig GG) (hS : CsSig S) : GhOk S gnFC := by
  refine gh_mk S fun T w0 ρ h hu hp hd hr hpre => ⟨ρ, Ext.refl _ _, ?_, (fun x hx => nomatch hx)⟩
  have hT := hS.of hu hp hd
  have e1 : hpDen T ρ w0 gnFC.pre = star (T.prd 71 w0 ((cons1 (one1 (ai 0)) (rA 1)).den T ρ) ((gA 2).den T ρ)) emp := rfl
  have e2 : hpDen T ρ w0 gnFC.post = star (T.prd 70 w0 ((usR 271 (rA 1) (ai 0) z0).den T ρ) ((usG 264 (gA 2) (ai 0) z0).den T ρ)) emp := rfl
  have k1 : ((cons1 (one1 (ai 0)) (rA 1)).den T ρ).toRows = [(ρ 0).toInt] :: (ρ 1).toRows := rfl
  rw [e1, star_emp, hT.p71, k1, kp71_mk] at hpre
  have k2 : ((usR 271 (rA 1) (ai 0) z0).den T ρ).toRows = gonR (ρ 1).toRows (ρ 0).toInt := by
    simp only [usR, SX.den, hT.u271, co_rows, U.toRows_rows]; try rfl
  have k3 : csOf ((usG 264 (gA 2) (ai 0) z0).den T ρ) = (csOf ((gA 2).den T ρ)).gone (ρ 0).toInt := by
    simp only [usG, SX.den, hT.u264, co_g, csOf_g]; rfl
  rw [e2, star_emp, hT.p70, k2, k3]
  generalize csOf ((gA 2).den T ρ) = s at hpre ⊢
  have hl : ((ρ 1).toRows.take (ρ 0).toInt.toNat).length = (s.fr.take (ρ 0).toInt.toNat).length := by
    obtain ⟨_, _, h1, _⟩ := star_take hpre
    exact frH_len h1
  unfold gonR Cs.gone
  show frH (_ ++ _) (_ ++ _) h
  rw [frH_app _ _ hl]
  exact hpre
theorem rtF_gh (S : Sig GG) (hS : CsSig S) : GhOk S rtFC := by
  refine gh_mk S fun T w0 ρ h hu hp hd hr hpre => ⟨ρ, Ext.refl _ _, ?_, (fun x hx => nomatch hx)⟩
  have hT := hS.of hu hp hd
  have e1 : hpDen T ρ w0 rtFC.pre = star (T.prd 70 w0 ((rA 1).den T ρ) ((gA 2).den T ρ)) emp := rfl
  have e2 : hpDen T ρ w0 rtFC.post = star (T.prd 70 w0 ((usR 270 (rA 1) (ixX (rA 1) (ai 0)) z0).den T ρ) ((usG 263 (gA 2) (ixX (rA 1) (ai 0)) z0).den T ρ)) emp := rfl
  have r1 := hr (eLt (ixX (rA 1) (ai 0)) (lenR (rA 1))) (by simp [rtFC])
  have hix : ((ixX (rA 1) (ai 0)).den T ρ) = .int (rowI (ρ 0).toInt (ρ 1).toRows : Nat) := by
    simp only [ixX, usI, SX.den, hT.u250, co_int, rA, ai, co_rows, U.toInt_int, U.toRows_rows]
  rw [eLt_den, hix] at r1
  have r1 : ((rowI (ρ 0).toInt (ρ 1).toRows : Nat) : Int) < ((ρ 1).toRows.length : Nat) := r1
  have hi : rowI (ρ 0).toInt (ρ 1).toRows < (ρ 1).toRows.length := by omega
  rw [e1, star_emp, hT.p70] at hpre
  have k1 : ((rA 1).den T ρ).toRows = (ρ 1).toRows := rfl
  rw [k1] at hpre
  have k2 : ((usR 270 (rA 1) (ixX (rA 1) (ai 0)) z0).den T ρ).toRows = rotR (ρ 1).toRows (rowI (ρ 0).toInt (ρ 1).toRows : Nat) := by
    simp only [usR, SX.den, hT.u270, hix, co_rows, U.toRows_rows, co_int, U.toInt_int]; try rfl
  have k3 : csOf ((usG 263 (gA 2) (ixX (rA 1) (ai 0)) z0).den T ρ) = (csOf ((gA 2).den T ρ)).touch (rowI (ρ 0).toInt (ρ 1).toRows : Nat) := by
    simp only [usG, SX.den, hT.u263, hix, co_g, csOf_g, co_int, U.toInt_int]; try rfl
  rw [e2, star_emp, hT.p70, k2, k3]
  have hlen := frH_len hpre
  generalize csOf ((gA 2).den T ρ) = s at *
  generalize rowI (ρ 0).toInt (ρ 1).toRows = I at *
  rw [frH_pick hlen hi] at hpre
  unfold rotR gonR Cs.touch Cs.add Cs.gone Cs.at'
  show frH (_ ++ _ ++ [_]) (_ ++ _ ++ [_]) h
  simp only [Int.toNat_natCast]
  rw [frH_app _ _ (by simp only [List.length_append, List.length_take, List.length_drop]; omega), frH_app _ _ (by simp only [List.length_take]; omega), frH_one]
  exact hpre
theorem adF_gh (S : Sig GG) (hS : CsSig S) : GhOk S adFC := by
  refine gh_mk S fun T w0 ρ h hu hp hd hr hpre => ⟨ρ, Ext.refl _ _, ?_, (fun x hx => nomatch hx)⟩
  have hT := hS.of hu hp hd
  have e1 : hpDen T ρ w0 adFC.pre = star ((Ch.cel (ai 0) 2 [.int .i64 (ai 3), sl1 (ai 4) (ai 5) (ai 6), .bool (.bool false), .int .i64 z0]).den T ρ w0) (star (bAD (ρ 4).toInt (ρ 7).toBytes (ρ 6).toInt) (star (T.prd 70 w0 ((rA 1).den T ρ) ((gA 2).den T ρ)) emp)) := rfl
  have e2 : hpDen T ρ w0 adFC.post = star (T.prd 70 w0 ((Go.Eng.SX.f2 121 (rA 1) (.f2 124 (ints3 (ai 0) (ai 4) (ai 6)) nilR)).den T ρ) ((usG 265 (gA 2) (ai 3) (tkB (bA 7) (ai 5))).den T ρ)) emp := rfl
  have r3 := hr (eLe z0 (ai 5)) (by simp [adFC])
  have r4 := hr (eLe (ai 5) (lenB (bA 7))) (by simp [adFC])
  rw [eLe_den] at r3 r4
  have r3 : 0 ≤ (ρ 5).toInt := r3
  have r4 : (ρ 5).toInt ≤ ((ρ 7).toBytes.length : Nat) := r4
  rw [e1, star_emp, fcel_den, hT.p70] at hpre
  have k1 : ((rA 1).den T ρ).toRows = (ρ 1).toRows := rfl
  rw [k1] at hpre
  have k2 : ((Go.Eng.SX.f2 121 (rA 1) (.f2 124 (ints3 (ai 0) (ai 4) (ai 6)) nilR)).den T ρ).toRows = (ρ 1).toRows ++ [[(ρ 0).toInt, (ρ 4).toInt, (ρ 6).toInt]] := rfl
  have k3 : csOf ((usG 265 (gA 2) (ai 3) (tkB (bA 7) (ai 5))).den T ρ) = (csOf ((gA 2).den T ρ)).addF (ρ 3).toInt ((ρ 7).toBytes.take (ρ 5).toInt.toNat) := by
    simp only [usG, SX.den, hT.u265, co_g, csOf_g]; rfl
  rw [e2, star_emp, hT.p70, k2, k3]
  generalize csOf ((gA 2).den T ρ) = s at hpre ⊢
  obtain ⟨a, b1, d1, rfl, ⟨ha1, ha2⟩, b, c, d2, rfl, hb, hc⟩ := hpre
  have hl := frH_len hc
  unfold Cs.addF Cs.add
  show frH (_ ++ [_]) (_ ++ [_]) _
  rw [frH_app _ _ hl, frH_one]
  have hlen : (((ρ 7).toBytes.take (ρ 5).toInt.toNat).length : Int) = (ρ 5).toInt := by rw [List.length_take]; omega
  have hh : star (frD [(ρ 0).toInt, (ρ 4).toInt, (ρ 6).toInt] ⟨(ρ 3).toInt, (ρ 7).toBytes.take (ρ 5).toInt.toNat, false, 0⟩)
      (star (bAD (ρ 4).toInt ((ρ 7).toBytes.take (ρ 5).toInt.toNat) (ρ 6).toInt) (frH (ρ 1).toRows s.fr)) _ :=
    ⟨a, _, d1, rfl, ⟨ha1, by
      show row (ρ 0).toInt.toNat 2 [.int .i64 (ρ 3).toInt, slV (ρ 4).toInt (((ρ 7).toBytes.take (ρ 5).toInt.toNat).length : Nat) (ρ 6).toInt, .bool false, .int .i64 0] true a
      rw [hlen]; exact ha2⟩, b, c, d2, rfl, bAD_take _ hb, hc⟩
  rw [← star_assoc, star_comm] at hh
  exact hh
theorem spF_gh (S : Sig GG) : GhOk S spFC := by
  refine gh_mk S fun T w0 ρ h hu hp hd hr hpre => ⟨ρ, Ext.refl _ _, ?_, (fun x hx => nomatch hx)⟩
  have e1 : hpDen T ρ w0 spFC.pre = star ((Ch.cel (ai 0) 0 [pC (ai 1), pC (ai 2), .int .i64 (ai 3), sl1 (ai 4) (ai 5) (ai 6), .bool (qA 7), .int .i64 (ai 8)]).den T ρ w0) emp := rfl
  have e2 : hpDen T ρ w0 spFC.post = star ((ndC (ai 0) (ai 1) (ai 2)).den T ρ w0) (star ((Ch.cel (ai 0) 2 [.int .i64 (ai 3), sl1 (ai 4) (ai 5) (ai 6), .bool (qA 7), .int .i64 (ai 8)]).den T ρ w0) emp) := rfl
  have e3 : (Ch.cel (ai 0) 0 [pC (ai 1), pC (ai 2), .int .i64 (ai 3), sl1 (ai 4) (ai 5) (ai 6), .bool (qA 7), .int .i64 (ai 8)]).den T ρ w0 =
      fun h => (0 ≤ (ρ 0).toInt ∨ False) ∧ row (ρ 0).toInt.toNat 0 ([pV (ρ 1).toInt, pV (ρ 2).toInt] ++ [.int .i64 (ρ 3).toInt, slV (ρ 4).toInt (ρ 5).toInt (ρ 6).toInt, .bool (ρ 7).toBool, .int .i64 (ρ 8).toInt]) true h := by
    simp only [Ch.den, pC, List.map_cons, List.map_nil, sl1, slC_den, SC.den, reduceCtorEq]
    rfl
  rw [e1, star_emp, e3] at hpre
  obtain ⟨h0, hrow⟩ := hpre
  rw [row_append] at hrow
  obtain ⟨a, b, d, e, ha, hb⟩ := hrow
  rw [e2, star_emp, ndC_den, fcel_den]
  exact ⟨a, b, d, e, ⟨h0, ha⟩, h0, hb⟩
end
end Go.Proofs.Ytlcfjjjdhdfbdaa

/- A row of links: out, last. -/
set_option linter.unusedSimpArgs false
set_option linter.unusedVariables false
namespace Go.Proofs.Ytlcfjjjdhdfbdaa
noncomputable section
open Go.Eng
def outA : SX := .f2 45 (lenI (iA 2)) (.int 1)
def outCtr : Ctr := ⟨[.int, .int, .ints], [.one (.ptr (ai 0) 0)], [rgC (ai 1) (iA 2)], [hasX (iA 2) (ai 0)], [.int, .int], .tup [], [rgC (ai 1) (erX (iA 2) (ai 0)), ndC (ai 0) (ai 3) (ai 4)], []⟩
def outCx : Cx := { specs := [], anns := [(22, [(0, .split outA), (0, .iff outA), (0, .ghost op1C [.tmp 0]), (0, .iff (eNot outA)), (0, .ghost op2C [.tmp 0]), (500000, .iff outA), (500000, .ghost sh1C [.tmp 5]), (500000, .iff (eNot outA)), (500000, .ghost sh2C [.tmp 5, .tmp 9])])] }
def lstA : SX := .f2 45 (lenI (iA 2)) z0
def lstCtr : Ctr := ⟨[.int, .int, .ints, .int, .int], [.one (.ptr (ai 0) 0), .one (.ptr (ai 1) 0)], [rgC (ai 1) (iA 2), ndC (ai 0) (ai 3) (ai 4)], [], [], .tup [], [rgC (ai 1) (snX (iA 2) (ai 0))], []⟩
def lstCx : Cx := { specs := [], anns := [(23, [(0, .split lstA), (0, .iff lstA), (0, .ghost oe1C [.tmp 1]), (0, .iff (eNot lstA)), (0, .ghost oe2C [.tmp 1]), (500002, .iff lstA), (500002, .ghost se1C [.tmp 0, .tmp 1]), (500002, .iff (eNot lstA)), (500002, .ghost se2C [.tmp 0, .tmp 1, .tmp 18])])] }
-- BEGIN VC out
def outVc : VC := (.imp (.us .bool 241 (.at .ints 2) (.at .int 0) (.int 0) (.int 0)) (.and (.imp (.f2 45 (.f1 30 (.at .ints 2)) (.int 1)) (.imp (.f2 155 (.at .ints 2)
    (.us .ints 243 (.f1 152 (.int 0)) (.at .int 0) (.int 0) (.int 0))) (.need (.f2 155 (.us .ints 240 (.at .ints 2) (.at .int 0) (.int 0) (.int 0))
    (.f1 152 (.int 0))) .tt))) (.imp (.f1 2 (.f2 45 (.f1 30 (.at .ints 2)) (.int 1))) (.all 3 .int (.all 4 .int (.all 5 .int (.all 6 .int .tt)))))))
theorem out_vc : vcOf Try.prog outCx 12 22 outCtr = outVc := by kernel_rfl
-- END VC out
-- BEGIN VC lst
def lstVc : VC := (.and (.imp (.f2 45 (.f1 30 (.at .ints 2)) (.int 0)) (.imp (.f2 155 (.at .ints 2) (.f1 152 (.int 0))) (.need (.f2 155 (.us .ints 243 (.at .ints 2) (.at
    .int 0) (.int 0) (.int 0)) (.us .ints 243 (.f1 152 (.int 0)) (.at .int 0) (.int 0) (.int 0))) .tt))) (.imp (.f1 2 (.f2 45 (.f1 30 (.at .ints 2))
    (.int 0))) (.all 5 .int (.all 6 .int (.all 7 .int .tt)))))
theorem lst_vc : vcOf Try.prog lstCx 12 23 lstCtr = lstVc := by kernel_rfl
-- END VC lst
-- PROOFS
theorem out_ok (S : Sig GG) (hS : RgSig S) : CtrOk S Try.prog 22 outCtr := by
  refine vcOf_sound S (C := outCx) (fuel := 12) (cx_of trivial ⟨⟨trivial, trivial, ⟨by decide, op1_gh S hS⟩, trivial, ⟨by decide, op2_gh S hS⟩, trivial, ⟨by decide, sh1_gh S hS⟩, trivial, ⟨by decide, sh2_gh S hS⟩, trivial⟩, trivial⟩ trivial) fun ρ => ?_
  rw [out_vc]
  simp only [outVc, hS.u240, hS.u241, hS.u242, hS.u243, hS.u244, hS.u245, VC.den, SX.den, co_int, co_bool, co_bytes, co_ints, co_rows, co_map, Env.upd, p155, p153, p23, p45, p46, p47, p50, b46, b47, t46, t47, p2_45, ap1_2, ap1_30, ap1_31, ap1_32, ap1_152, ap1_153, ap1_154, ap2_40, ap2_41, ap2_42, ap2_43, ap2_45, p48_b, ap2_51i, ap2_52i, ap2_110, ap2_111, ap2_113, ap2_114, ap2_115, ap2_117, ap2_120, ap2_126, ap2_141, ap3_112, ap3_140, beq_iff_eq, Bool.not_eq_true', beq_eq_false_iff_ne, ne_eq, Bool.not_not, U.toProp_bool, U.toBool_bool, i64lo, i64hi, U.toInt_int, U.toInts_ints, U.toBytes_bytes, U.toRows_rows, U.toMap_amap, Int.toNat_zero, Nat.reduceEqDiff, reduceIte, propB_iff, leB_iff, ltB_iff, U.int.injEq, U.bool.injEq, U.bytes.injEq, U.ints.injEq, U.rows.injEq, U.ints.injEq]
  intro hm
  refine ⟨fun h1 h2 => ?_, fun h1 _ _ _ _ => trivial⟩
  rw [h2]
  simp
theorem lst_ok (S : Sig GG) (hS : RgSig S) : CtrOk S Try.prog 23 lstCtr := by
  refine vcOf_sound S (C := lstCx) (fuel := 12) (cx_of trivial ⟨⟨trivial, trivial, ⟨by decide, oe1_gh S hS⟩, trivial, ⟨by decide, oe2_gh S hS⟩, trivial, ⟨by decide, se1_gh S hS⟩, trivial, ⟨by decide, se2_gh S hS⟩, trivial⟩, trivial⟩ trivial) fun ρ => ?_
  rw [lst_vc]
  simp only [lstVc, hS.u240, hS.u241, hS.u242, hS.u243, hS.u244, hS.u245, VC.den, SX.den, co_int, co_bool, co_bytes, co_ints, co_rows, co_map, Env.upd, p155, p153, p23, p45, p46, p47, p50, b46, b47, t46, t47, p2_45, ap1_2, ap1_30, ap1_31, ap1_32, ap1_152, ap1_153, ap1_154, ap2_40, ap2_41, ap2_42, ap2_43, ap2_45, p48_b, ap2_51i, ap2_52i, ap2_110, ap2_111, ap2_113, ap2_114, ap2_115, ap2_117, ap2_120, ap2_126, ap2_141, ap3_112, ap3_140, beq_iff_eq, Bool.not_eq_true', beq_eq_false_iff_ne, ne_eq, Bool.not_not, U.toProp_bool, U.toBool_bool, i64lo, i64hi, U.toInt_int, U.toInts_ints, U.toBytes_bytes, U.toRows_rows, U.toMap_amap, Int.toNat_zero, Nat.reduceEqDiff, reduceIte, propB_iff, leB_iff, ltB_iff, U.int.injEq, U.bool.injEq, U.bytes.injEq, U.ints.injEq, U.rows.injEq, U.ints.injEq]
  refine ⟨fun h1 h2 => ?_, fun h1 _ _ _ => trivial⟩
  rw [h2]
  exact ⟨rfl, trivial⟩
end
end Go.Proofs.Ytlcfjjjdhdfbdaa

/- A cache: full, oldest. -/
set_option linter.unusedSimpArgs false
set_option linter.unusedVariables false
namespace Go.Proofs.Ytlcfjjjdhdfbdaa
noncomputable section
open Go.Eng
-- atoms of a cache, opened: 0 block, 1 device, 2 g, 3 map, 4 row's end, 5 places, 6 map's content, 7 row
def opT : List Srt := [.int, .int, .g, .int, .int, .rows, .amap, .ints]
def opS (g : SX) : List Ch := [.cel (ai 0) 0 (celQ (ai 1) (ai 3) (ai 4) g), mpC (ai 3) (mA 6), rgC (ai 4) (iA 7), frC (rA 5) g]
def opR (g : SX) : List SX := [eqS (iA 7) (rgX (rA 5)), usB 251 (mA 6) (rA 5) g, usB 268 g z0 z0]
def fullCtr : Ctr := ⟨opT, [.one (.ptr (ai 0) 0)], opS (gA 2), opR (gA 2), [], .one (.bool (eLe (usI 257 (gA 2) z0 z0) (usI 256 (gA 2) z0 z0))), opS (gA 2), []⟩
def fullCx : Cx := { specs := [], anns := [] }
def oldCtr : Ctr := ⟨opT, [.one (.ptr (ai 0) 0)], opS (gA 2), opR (gA 2), [], .one (.ptr (usI 272 (rA 5) (gA 2) z0) 0), opS (gA 2), []⟩
def oldW : SX := usI 245 (ai 4) (iA 7) (di 0)
def oldI : Inv := ⟨[.int], [(3, .one (.ptr (di 0) 0))], [], [usB 248 (ai 4) (iA 7) (di 0), eLe oldW (usI 261 (gA 2) z0 z0)], .f2 41 (lenR (rA 5)) oldW⟩
def oldE : SX := .f2 45 (ai 9) (ai 4)
def oldCx : Cx := { specs := [], anns := [(33, [(1, .ghost ndRC []), (1, .ghost onHC [.tmp 0]), (500001, .ghost shNC []), (2, .inv oldI), (2, .split oldE), (2, .iff (eNot oldE)), (2, .ghost on2C [.tmp 3]), (500002, .iff (eNot oldE)), (500002, .ghost sn2C []), (4, .ghost opFC [.tmp 3]), (5, .ghost rdFC [.tmp 3]), (3, .ghost rdFC [.tmp 3]), (3, .ghost onC [.tmp 3]), (500003, .ghost shNC [])])] }
-- BEGIN VC full
def fullVc : VC := (.imp (.f2 155 (.at .ints 7) (.us .ints 242 (.at .rows 5) (.int 0) (.int 0) (.int 0))) (.imp (.us .bool 251 (.at .amap 6) (.at .rows 5) (.at .g 2)
    (.int 0)) (.imp (.us .bool 268 (.at .g 2) (.int 0) (.int 0) (.int 0)) (.need (.f2 155 (.f2 47 (.us .int 257 (.at .g 2) (.int 0) (.int 0) (.int 0))
    (.us .int 256 (.at .g 2) (.int 0) (.int 0) (.int 0))) (.f2 47 (.us .int 257 (.at .g 2) (.int 0) (.int 0) (.int 0)) (.f1 33 (.at .amap 6)))) .tt))))
theorem full_vc : vcOf Try.prog fullCx 12 32 fullCtr = fullVc := by kernel_rfl
-- END VC full
-- BEGIN VC old
def oldVc : VC := (.imp (.f2 155 (.at .ints 7) (.us .ints 242 (.at .rows 5) (.int 0) (.int 0) (.int 0))) (.imp (.us .bool 251 (.at .amap 6) (.at .rows 5) (.at .g 2)
    (.int 0)) (.imp (.us .bool 268 (.at .g 2) (.int 0) (.int 0) (.int 0)) (.imp (.us .bool 246 (.at .int 4) (.at .ints 7) (.int 0) (.int 0)) (.imp (.us
    .bool 249 (.at .int 4) (.at .ints 7) (.int 0) (.int 0)) (.all 8 .int (.need (.us .bool 248 (.at .int 4) (.at .ints 7) (.us .int 247 (.at .int 4)
    (.at .ints 7) (.at .int 4) (.int 0)) (.int 0)) (.need (.f2 47 (.us .int 245 (.at .int 4) (.at .ints 7) (.us .int 247 (.at .int 4) (.at .ints 7)
    (.at .int 4) (.int 0)) (.int 0)) (.us .int 261 (.at .g 2) (.int 0) (.int 0) (.int 0))) (.all 9 .int (.imp (.us .bool 248 (.at .int 4) (.at .ints 7)
    (.at .int 9) (.int 0)) (.imp (.f2 47 (.us .int 245 (.at .int 4) (.at .ints 7) (.at .int 9) (.int 0)) (.us .int 261 (.at .g 2) (.int 0) (.int 0)
    (.int 0))) (.and (.imp (.f2 45 (.at .int 9) (.at .int 4)) (.need (.f2 47 (.int 0) (.at .int 9)) (.need (.f2 45 (.us .int 272 (.at .rows 5) (.at .g
    2) (.int 0) (.int 0)) (.int (-(0 + 1)))) .tt))) (.imp (.f1 2 (.f2 45 (.at .int 9) (.at .int 4))) (.all 10 .int (.all 11 .int (.all 12 .int (.all 13
    .int (.need (.f2 46 (.us .int 250 (.at .rows 5) (.at .int 9) (.int 0) (.int 0)) (.f1 32 (.at .rows 5))) (.imp (.f2 47 (.f1 31 (.us .bytes 253 (.at
    .g 2) (.us .int 250 (.at .rows 5) (.at .int 9) (.int 0) (.int 0)) (.int 0) (.int 0))) (.f3 112 (.at .rows 5) (.us .int 250 (.at .rows 5) (.at .int
    9) (.int 0) (.int 0)) (.int 2))) (.imp (.f2 50 (.f2 47 (.int 0) (.f3 112 (.at .rows 5) (.us .int 250 (.at .rows 5) (.at .int 9) (.int 0) (.int 0))
    (.int 1))) (.f2 45 (.f1 31 (.us .bytes 253 (.at .g 2) (.us .int 250 (.at .rows 5) (.at .int 9) (.int 0) (.int 0)) (.int 0) (.int 0))) (.int 0)))
    (.and (.imp (.f2 45 (.us .int 255 (.at .g 2) (.us .int 250 (.at .rows 5) (.at .int 9) (.int 0) (.int 0)) (.int 0) (.int 0)) (.int 0)) (.need (.f2
    47 (.int 0) (.us .int 250 (.at .rows 5) (.at .int 9) (.int 0) (.int 0))) (.need (.f2 45 (.at .int 9) (.f3 112 (.at .rows 5) (.us .int 250 (.at
    .rows 5) (.at .int 9) (.int 0) (.int 0)) (.int 0))) (.need (.f2 45 (.f1 32 (.at .rows 5)) (.us .int 256 (.at .g 2) (.int 0) (.int 0) (.int 0)))
    (.need (.f2 45 (.us .int 272 (.at .rows 5) (.at .g 2) (.int 0) (.int 0)) (.at .int 9)) .tt))))) (.imp (.f1 2 (.f2 45 (.us .int 255 (.at .g 2) (.us
    .int 250 (.at .rows 5) (.at .int 9) (.int 0) (.int 0)) (.int 0) (.int 0)) (.int 0))) (.need (.f2 47 (.int 0) (.us .int 250 (.at .rows 5) (.at .int
    9) (.int 0) (.int 0))) (.need (.f2 45 (.at .int 9) (.f3 112 (.at .rows 5) (.us .int 250 (.at .rows 5) (.at .int 9) (.int 0) (.int 0)) (.int 0)))
    (.need (.f2 45 (.f1 32 (.at .rows 5)) (.us .int 256 (.at .g 2) (.int 0) (.int 0) (.int 0))) (.all 14 .int (.need (.f2 47 (.int 0) (.f2 41 (.f1 32
    (.at .rows 5)) (.us .int 245 (.at .int 4) (.at .ints 7) (.us .int 247 (.at .int 4) (.at .ints 7) (.at .int 9) (.int 0)) (.int 0)))) (.need (.f2 46
    (.f2 41 (.f1 32 (.at .rows 5)) (.us .int 245 (.at .int 4) (.at .ints 7) (.us .int 247 (.at .int 4) (.at .ints 7) (.at .int 9) (.int 0)) (.int 0)))
    (.f2 41 (.f1 32 (.at .rows 5)) (.us .int 245 (.at .int 4) (.at .ints 7) (.at .int 9) (.int 0)))) (.need (.us .bool 248 (.at .int 4) (.at .ints 7)
    (.us .int 247 (.at .int 4) (.at .ints 7) (.at .int 9) (.int 0)) (.int 0)) (.need (.f2 47 (.us .int 245 (.at .int 4) (.at .ints 7) (.us .int 247
    (.at .int 4) (.at .ints 7) (.at .int 9) (.int 0)) (.int 0)) (.us .int 261 (.at .g 2) (.int 0) (.int 0) (.int 0))) .tt))))))))))))))))))))))))))))))
theorem old_vc : vcOf Try.prog oldCx 12 33 oldCtr = oldVc := by kernel_rfl
-- END VC old
-- PROOFS
theorem full_ok (S : Sig GG) (hS : CsSig S) : CtrOk S Try.prog 32 fullCtr := by
  refine vcOf_sound S (C := fullCx) (fuel := 12) (cx_of trivial trivial trivial) fun ρ => ?_
  rw [full_vc]
  simp only [fullVc, co_g, csOf_g, hS.rg.u240, hS.rg.u241, hS.rg.u242, hS.rg.u243, hS.rg.u244, hS.rg.u245, hS.rg.u246, hS.rg.u247, hS.rg.u248, hS.rg.u249, hS.u250, hS.u251, hS.u252, hS.u253, hS.u254, hS.u255, hS.u256, hS.u257, hS.u258, hS.u259, hS.u260, hS.u261, hS.u262, hS.u263, hS.u264, hS.u265, hS.u266, hS.u267, hS.u268, hS.u269, hS.u270, hS.u271, hS.u272, hS.u273, hS.u274, VC.den, SX.den, co_int, co_bool, co_bytes, co_ints, co_rows, co_map, Env.upd, p155, p153, p23, p45, p46, p47, p50, b46, b47, t46, t47, p2_45, ap1_2, ap1_30, ap1_31, ap1_32, ap1_152, ap1_153, ap1_154, ap2_40, ap2_41, ap2_42, ap2_43, ap2_45, p48_b, ap2_51i, ap2_52i, ap2_110, ap2_111, ap2_113, ap2_114, ap2_115, ap2_117, ap2_120, ap2_126, ap2_141, ap3_112, ap3_140, beq_iff_eq, Bool.not_eq_true', beq_eq_false_iff_ne, ne_eq, Bool.not_not, U.toProp_bool, U.toBool_bool, i64lo, i64hi, U.toInt_int, U.toInts_ints, U.toBytes_bytes, U.toRows_rows, U.toMap_amap, Int.toNat_zero, Nat.reduceEqDiff, reduceIte, propB_iff, leB_iff, ltB_iff, U.int.injEq, U.bool.injEq, U.bytes.injEq, U.ints.injEq, U.rows.injEq]
  intro _ h2 _
  refine ⟨?_, trivial⟩
  rw [show ap1 33 (U.amap (ρ 6).toMap) = (.int ((ρ 6).toMap.length : Nat) : U GG) from rfl, h2.len]
theorem idx_ne {y l : Int} {L : List Int} (h : y ≠ l) : (y :: L).idxOf l = L.idxOf l + 1 := by
  rw [List.idxOf_cons, beq_eq_false_iff_ne.2 h]; rfl
theorem idx_nod : ∀ {L : List Int}, L.Nodup → ∀ {k : Nat}, k < L.length → L.idxOf (L.getD k 0) = k
  | [], _, k, h => absurd h (Nat.not_lt_zero _)
  | y :: L, hn, 0, _ => List.idxOf_cons_self
  | y :: L, hn, k + 1, h => by
    rw [List.nodup_cons] at hn
    have hk : k < L.length := by simpa using h
    have hm : L.getD k 0 ∈ L := by rw [List.getD_eq_getElem?_getD, List.getElem?_eq_getElem hk]; exact List.getElem_mem _
    show (y :: L).idxOf (L.getD k 0) = k + 1
    rw [idx_ne (fun e => hn.1 (by rw [e]; exact hm)), idx_nod hn.2 hk]
theorem rowI_idx (l : Int) : ∀ R : List (List Int), rowI l R = (R.map g0).idxOf l
  | [] => rfl
  | r :: R => by
    unfold rowI
    rw [List.map_cons, List.idxOf_cons]
    cases g0 r == l
    · show rowI l R + 1 = _; rw [rowI_idx l R]; rfl
    · rfl
theorem pos_end {H : Int} {xs : List Int} (hn : (H :: xs).Nodup) : (xs ++ [H]).idxOf H = xs.length := by
  rw [List.nodup_cons] at hn
  rw [List.idxOf_append, if_neg hn.1, List.idxOf_cons_self, Nat.zero_add]
theorem pos_in {H l : Int} {xs : List Int} (hm : l ∈ xs) : (xs ++ [H]).idxOf l = xs.idxOf l := by rw [List.idxOf_append, if_pos hm]
theorem nod_end {H : Int} {xs : List Int} (hn : (H :: xs).Nodup) : (xs ++ [H]).Nodup := (List.perm_append_comm (l₁ := [H]) (l₂ := xs)).nodup_iff.1 hn
theorem pos_nxt {H l : Int} {xs : List Int} (hn : (H :: xs).Nodup) (hm : l ∈ xs) : (xs ++ [H]).idxOf ((xs ++ [H]).getD ((H :: xs).idxOf l) 0) = xs.idxOf l + 1 := by
  have hi := List.idxOf_lt_length_of_mem hm
  have hl : H ≠ l := by rintro rfl; exact (List.nodup_cons.1 hn).1 hm
  rw [idx_ne hl, idx_nod (nod_end hn) (by rw [List.length_append]; show _ < _ + 1; omega)]
theorem nxt_mem {H l : Int} {xs : List Int} (hm : l ∈ xs) : (xs ++ [H]).getD ((H :: xs).idxOf l) 0 ∈ H :: xs := by
  have hi := List.idxOf_lt_length_of_mem hm
  have hle : (H :: xs).idxOf l ≤ xs.idxOf l + 1 := by
    rw [List.idxOf_cons]
    cases H == l
    · exact Nat.le_refl _
    · exact Nat.zero_le _
  have hk : (H :: xs).idxOf l < (xs ++ [H]).length := by rw [List.length_append]; show _ < _ + 1; omega
  have : (xs ++ [H]).getD ((H :: xs).idxOf l) 0 ∈ xs ++ [H] := by rw [List.getD_eq_getElem?_getD, List.getElem?_eq_getElem hk]; exact List.getElem_mem _
  rcases List.mem_append.1 this with h | h
  · exact List.mem_cons_of_mem _ h
  · rw [List.mem_singleton.1 h]; exact List.mem_cons_self
theorem old_ok (S : Sig GG) (hS : CsSig S) : CtrOk S Try.prog 33 oldCtr := by
  refine vcOf_sound S (C := oldCx) (fuel := 12) (cx_of trivial ⟨⟨⟨by decide, ndR_gh S hS.rg⟩, ⟨by decide, onH_gh S hS.rg⟩, ⟨by decide, shN_gh S hS.rg⟩, trivial, trivial, trivial, ⟨by decide, on2_gh S hS.rg⟩, trivial, ⟨by decide, sn2_gh S hS.rg⟩, ⟨by decide, opF_gh S hS⟩, ⟨by decide, rdF_gh S hS⟩, ⟨by decide, rdF_gh S hS⟩, ⟨by decide, on_gh S hS.rg⟩, ⟨by decide, shN_gh S hS.rg⟩, trivial⟩, trivial⟩ trivial) fun ρ => ?_
  rw [old_vc]
  simp only [oldVc, co_g, csOf_g, hS.rg.u240, hS.rg.u241, hS.rg.u242, hS.rg.u243, hS.rg.u244, hS.rg.u245, hS.rg.u246, hS.rg.u247, hS.rg.u248, hS.rg.u249, hS.u250, hS.u251, hS.u252, hS.u253, hS.u254, hS.u255, hS.u256, hS.u257, hS.u258, hS.u259, hS.u260, hS.u261, hS.u262, hS.u263, hS.u264, hS.u265, hS.u266, hS.u267, hS.u268, hS.u269, hS.u270, hS.u271, hS.u272, hS.u273, hS.u274, VC.den, SX.den, co_int, co_bool, co_bytes, co_ints, co_rows, co_map, Env.upd, p155, p153, p23, p45, p46, p47, p50, b46, b47, t46, t47, p2_45, ap1_2, ap1_30, ap1_31, ap1_32, ap1_152, ap1_153, ap1_154, ap2_40, ap2_41, ap2_42, ap2_43, ap2_45, p48_b, ap2_51i, ap2_52i, ap2_110, ap2_111, ap2_113, ap2_114, ap2_115, ap2_117, ap2_120, ap2_126, ap2_141, ap3_112, ap3_140, beq_iff_eq, Bool.not_eq_true', beq_eq_false_iff_ne, ne_eq, Bool.not_not, U.toProp_bool, U.toBool_bool, i64lo, i64hi, U.toInt_int, U.toInts_ints, U.toBytes_bytes, U.toRows_rows, U.toMap_amap, Int.toNat_zero, Nat.reduceEqDiff, reduceIte, propB_iff, leB_iff, ltB_iff, U.int.injEq, U.bool.injEq, U.bytes.injEq, U.ints.injEq, U.rows.injEq]
  generalize csOf (U.co S .g (ρ 2)) = c
  generalize (ρ 5).toRows = R
  generalize (ρ 4).toInt = H
  generalize (ρ 6).toMap = m
  intro hx hh hg
  rw [hx]
  intro hn hp _
  have hlen := hh.1
  have hidx : ∀ l, rowI l R = (R.map g0).idxOf l := fun l => rowI_idx l R
  have hxl : (R.map g0).length = c.fr.length := by rw [List.length_map]; exact hlen
  have hEnd := pos_end hn
  -- the first one behind the end
  have hH0 : (H :: R.map g0).idxOf H = 0 := List.idxOf_cons_self
  refine ⟨?_, ?_, fun l hl hi => ⟨fun hlH => ⟨?_, ?_, trivial⟩, fun hlH _ _ _ _ => ?_⟩⟩
  · rw [hH0]
    cases hR : R.map g0 with
    | nil => exact List.mem_cons_self
    | cons y ys => exact List.mem_cons_of_mem _ List.mem_cons_self
  · rw [hH0, idx_nod (nod_end hn) (by rw [List.length_append]; show 0 < _ + 1; omega)]
    omega
  · exact hp l hl
  · rw [hlH, hEnd, hxl] at hi
    unfold oldP
    rw [if_neg (by omega)]; rfl
  · have hm : l ∈ R.map g0 := by
      rcases List.mem_cons.1 hl with e | e
      · exact absurd e hlH
      · exact e
    have hj := List.idxOf_lt_length_of_mem hm
    rw [pos_in hm] at hi
    have hjl := rowI_at (l := l) (R := R) (by rw [hidx]; rw [List.length_map] at hj; exact hj)
    rw [hidx] at hjl
    have hnx := pos_nxt hn hm
    have hnm := nxt_mem (H := H) hm
    simp only [hidx, Int.toNat_natCast]
    generalize hJ : (R.map g0).idxOf l = J at *
    have hJR : J < R.length := by rw [List.length_map] at hj; exact hj
    refine ⟨by omega, fun _ _ => ⟨fun hpin => ⟨by omega, hjl.symm, by omega, ?_, trivial⟩, fun hpin => ⟨by omega, hjl.symm, by omega, fun _ => ⟨?_, ?_, hnm, ?_, trivial⟩⟩⟩⟩
    · have hold : c.old = J := by
        rcases Nat.lt_or_ge J c.old with h | h
        · have := (idxL_lt h).2
          have hp0 : (c.fr.getD J fr0).pins = 0 := hpin
          rw [hp0] at this; cases this
        · omega
      unfold oldP
      rw [hold, if_pos (by omega)]
      exact hjl
    · omega
    · rw [pos_in hm, hJ]; omega
    · rw [hnx]
      rcases Nat.lt_or_ge J c.old with h | h
      · omega
      · have hold : c.old = J := by omega
        have h1 : c.old < c.fr.length := by omega
        have h2 := idxL_at h1
        have h2 : (c.fr.getD c.old fr0).pins = 0 := beq_iff_eq.1 h2
        rw [hold] at h2
        exact absurd h2 hpin
end
end Go.Proofs.Ytlcfjjjdhdfbdaa

/- A cache: goes, comes. -/
set_option linter.unusedSimpArgs false
set_option linter.unusedVariables false
namespace Go.Proofs.Ytlcfjjjdhdfbdaa
noncomputable section
open Go.Eng
def linkS : List (Nat × List Ctr) := [(22, [outCtr]), (23, [lstCtr])]
def idL : SX := ixX (rA 5) (ai 8)
def mdX (m k : SX) : SX := .f2 143 m k
def msX (m k v : SX) : SX := .f3 142 m k v
/-- 8: the link; its place is told by the places. -/
def goesCtr : Ctr := ⟨opT ++ [.int], [.one (.ptr (ai 0) 0), .one (.ptr (ai 8) 0)], opS (gA 2), opR (gA 2) ++ [eLt idL (lenR (rA 5))], [.amap], .tup [],
  [.cel (ai 0) 0 (celQ (ai 1) (ai 3) (ai 4) (usG 264 (gA 2) idL z0)), mpC (ai 3) (mA 9), rgC (ai 4) (rgX (usR 271 (rA 5) idL z0)), frC (usR 271 (rA 5) idL z0) (usG 264 (gA 2) idL z0)],
  [usB 251 (mA 9) (usR 271 (rA 5) idL z0) (usG 264 (gA 2) idL z0), usB 268 (usG 264 (gA 2) idL z0) z0 z0]⟩
def goesCx : Cx := { specs := linkS, anns := [(34, [(1, .ghost opFC [.tmp 1]), (500001, .ghost gnFC [])])] }
/-- 8, 9, 10, 11: page, bytes; 12 what they hold. -/
def comesCtr : Ctr := ⟨opT ++ [.int, .int, .int, .int, .bytes], [.one (.ptr (ai 0) 0), .agg [.int .i64 (ai 8), sl1 (ai 9) (ai 10) (ai 11), .bool (.bool false), .int .i64 z0]],
  opS (gA 2) ++ [bAr (ai 9) (bA 12) (ai 11)], opR (gA 2) ++ [eLe z0 (ai 10), eLe (ai 10) (lenB (bA 12)), eLe (ai 10) (.int 65536), eLe (usI 256 (gA 2) z0 z0) (usI 262 (gA 2) (ai 8) z0), eLt (usI 256 (gA 2) z0 z0) (usI 257 (gA 2) z0 z0)], [.int, .rows, .amap], .one (.ptr (ai 13) 0),
  [.cel (ai 0) 0 (celQ (ai 1) (ai 3) (ai 4) (usG 265 (gA 2) (ai 8) (tkB (bA 12) (ai 10)))), mpC (ai 3) (mA 15), rgC (ai 4) (rgX (rA 14)), frC (rA 14) (usG 265 (gA 2) (ai 8) (tkB (bA 12) (ai 10)))],
  [usB 251 (mA 15) (rA 14) (usG 265 (gA 2) (ai 8) (tkB (bA 12) (ai 10))), usB 268 (usG 265 (gA 2) (ai 8) (tkB (bA 12) (ai 10))) z0 z0, .f2 45 (lenR (rA 14)) (add1 (lenR (rA 5))), .f2 45 (nt (rA 14) (lenR (rA 5)) 0) (ai 13), usB 246 (ai 4) (rgX (rA 14)) z0]⟩
def comesCx : Cx := { specs := linkS, anns := [(25, [(2, .ghost spFC [.tmp 5]), (3, .ghost ndRC []), (3, .ghost adFC [.tmp 5])])] }
-- BEGIN VC goes
def goesVc : VC := (.imp (.f2 155 (.at .ints 7) (.us .ints 242 (.at .rows 5) (.int 0) (.int 0) (.int 0))) (.imp (.us .bool 251 (.at .amap 6) (.at .rows 5) (.at .g 2)
    (.int 0)) (.imp (.us .bool 268 (.at .g 2) (.int 0) (.int 0) (.int 0)) (.imp (.f2 46 (.us .int 250 (.at .rows 5) (.at .int 8) (.int 0) (.int 0))
    (.f1 32 (.at .rows 5))) (.need (.us .bool 241 (.at .ints 7) (.at .int 8) (.int 0) (.int 0)) (.all 9 .int (.all 10 .int (.imp (.f2 47 (.f1 31 (.us
    .bytes 253 (.at .g 2) (.us .int 250 (.at .rows 5) (.at .int 8) (.int 0) (.int 0)) (.int 0) (.int 0))) (.f3 112 (.at .rows 5) (.us .int 250 (.at
    .rows 5) (.at .int 8) (.int 0) (.int 0)) (.int 2))) (.imp (.f2 50 (.f2 47 (.int 0) (.f3 112 (.at .rows 5) (.us .int 250 (.at .rows 5) (.at .int 8)
    (.int 0) (.int 0)) (.int 1))) (.f2 45 (.f1 31 (.us .bytes 253 (.at .g 2) (.us .int 250 (.at .rows 5) (.at .int 8) (.int 0) (.int 0)) (.int 0) (.int
    0))) (.int 0))) (.need (.f2 47 (.int 0) (.us .int 250 (.at .rows 5) (.at .int 8) (.int 0) (.int 0))) (.need (.us .bool 251 (.f2 143 (.at .amap 6)
    (.us .int 252 (.at .g 2) (.us .int 250 (.at .rows 5) (.at .int 8) (.int 0) (.int 0)) (.int 0) (.int 0))) (.us .rows 271 (.at .rows 5) (.us .int 250
    (.at .rows 5) (.at .int 8) (.int 0) (.int 0)) (.int 0) (.int 0)) (.us .g 264 (.at .g 2) (.us .int 250 (.at .rows 5) (.at .int 8) (.int 0) (.int 0))
    (.int 0) (.int 0)) (.int 0)) (.need (.us .bool 268 (.us .g 264 (.at .g 2) (.us .int 250 (.at .rows 5) (.at .int 8) (.int 0) (.int 0)) (.int 0)
    (.int 0)) (.int 0) (.int 0) (.int 0)) (.need (.f2 155 (.us .ints 242 (.us .rows 271 (.at .rows 5) (.us .int 250 (.at .rows 5) (.at .int 8) (.int 0)
    (.int 0)) (.int 0) (.int 0)) (.int 0) (.int 0) (.int 0)) (.us .ints 240 (.at .ints 7) (.at .int 8) (.int 0) (.int 0))) (.need (.f2 45 (.us .int 260
    (.us .g 264 (.at .g 2) (.us .int 250 (.at .rows 5) (.at .int 8) (.int 0) (.int 0)) (.int 0) (.int 0)) (.int 0) (.int 0) (.int 0)) (.us .int 260
    (.at .g 2) (.int 0) (.int 0) (.int 0))) (.need (.f2 45 (.us .int 259 (.us .g 264 (.at .g 2) (.us .int 250 (.at .rows 5) (.at .int 8) (.int 0) (.int
    0)) (.int 0) (.int 0)) (.int 0) (.int 0) (.int 0)) (.us .int 259 (.at .g 2) (.int 0) (.int 0) (.int 0))) (.need (.f2 45 (.us .int 258 (.us .g 264
    (.at .g 2) (.us .int 250 (.at .rows 5) (.at .int 8) (.int 0) (.int 0)) (.int 0) (.int 0)) (.int 0) (.int 0) (.int 0)) (.us .int 258 (.at .g 2)
    (.int 0) (.int 0) (.int 0))) (.need (.f2 45 (.us .int 257 (.us .g 264 (.at .g 2) (.us .int 250 (.at .rows 5) (.at .int 8) (.int 0) (.int 0)) (.int
    0) (.int 0)) (.int 0) (.int 0) (.int 0)) (.us .int 257 (.at .g 2) (.int 0) (.int 0) (.int 0))) .tt)))))))))))))))))
theorem goes_vc : vcOf Try.prog goesCx 12 34 goesCtr = goesVc := by kernel_rfl
-- END VC goes
-- BEGIN VC comes
def comesVc : VC := (.imp (.f2 155 (.at .ints 7) (.us .ints 242 (.at .rows 5) (.int 0) (.int 0) (.int 0))) (.imp (.us .bool 251 (.at .amap 6) (.at .rows 5) (.at .g 2)
    (.int 0)) (.imp (.us .bool 268 (.at .g 2) (.int 0) (.int 0) (.int 0)) (.imp (.f2 47 (.int 0) (.at .int 10)) (.imp (.f2 47 (.at .int 10) (.f1 31
    (.at .bytes 12))) (.imp (.f2 47 (.at .int 10) (.int 65536)) (.imp (.f2 47 (.us .int 256 (.at .g 2) (.int 0) (.int 0) (.int 0)) (.us .int 262 (.at
    .g 2) (.at .int 8) (.int 0) (.int 0))) (.imp (.f2 46 (.us .int 256 (.at .g 2) (.int 0) (.int 0) (.int 0)) (.us .int 257 (.at .g 2) (.int 0) (.int
    0) (.int 0))) (.all 13 .int (.imp (.f2 47 (.int 0) (.at .int 13)) (.all 14 .int (.imp (.f2 47 (.int 0) (.at .int 14)) (.imp (.us .bool 246 (.at
    .int 4) (.us .ints 243 (.at .ints 7) (.at .int 14) (.int 0) (.int 0)) (.int 0) (.int 0)) (.imp (.us .bool 249 (.at .int 4) (.us .ints 243 (.at
    .ints 7) (.at .int 14) (.int 0) (.int 0)) (.int 0) (.int 0)) (.need (.us .bool 251 (.f3 142 (.at .amap 6) (.at .int 8) (.at .int 14)) (.f2 121 (.at
    .rows 5) (.f2 124 (.f2 122 (.at .int 14) (.f2 122 (.at .int 9) (.f2 122 (.at .int 11) (.f1 152 (.int 0))))) (.f1 154 (.int 0)))) (.us .g 265 (.at
    .g 2) (.at .int 8) (.f2 114 (.at .bytes 12) (.at .int 10)) (.int 0)) (.int 0)) (.need (.us .bool 268 (.us .g 265 (.at .g 2) (.at .int 8) (.f2 114
    (.at .bytes 12) (.at .int 10)) (.int 0)) (.int 0) (.int 0) (.int 0)) (.need (.f2 45 (.f2 40 (.f1 32 (.at .rows 5)) (.int 1)) (.f2 40 (.f1 32 (.at
    .rows 5)) (.int 1))) (.need (.f2 45 (.f3 112 (.f2 121 (.at .rows 5) (.f2 124 (.f2 122 (.at .int 14) (.f2 122 (.at .int 9) (.f2 122 (.at .int 11)
    (.f1 152 (.int 0))))) (.f1 154 (.int 0)))) (.f1 32 (.at .rows 5)) (.int 0)) (.at .int 14)) (.need (.us .bool 246 (.at .int 4) (.us .ints 242 (.f2
    121 (.at .rows 5) (.f2 124 (.f2 122 (.at .int 14) (.f2 122 (.at .int 9) (.f2 122 (.at .int 11) (.f1 152 (.int 0))))) (.f1 154 (.int 0)))) (.int 0)
    (.int 0) (.int 0)) (.int 0) (.int 0)) (.need (.f2 155 (.us .ints 242 (.f2 121 (.at .rows 5) (.f2 124 (.f2 122 (.at .int 14) (.f2 122 (.at .int 9)
    (.f2 122 (.at .int 11) (.f1 152 (.int 0))))) (.f1 154 (.int 0)))) (.int 0) (.int 0) (.int 0)) (.us .ints 243 (.at .ints 7) (.at .int 14) (.int 0)
    (.int 0))) (.need (.f2 45 (.us .int 260 (.us .g 265 (.at .g 2) (.at .int 8) (.f2 114 (.at .bytes 12) (.at .int 10)) (.int 0)) (.int 0) (.int 0)
    (.int 0)) (.us .int 260 (.at .g 2) (.int 0) (.int 0) (.int 0))) (.need (.f2 45 (.us .int 259 (.us .g 265 (.at .g 2) (.at .int 8) (.f2 114 (.at
    .bytes 12) (.at .int 10)) (.int 0)) (.int 0) (.int 0) (.int 0)) (.us .int 259 (.at .g 2) (.int 0) (.int 0) (.int 0))) (.need (.f2 45 (.us .int 258
    (.us .g 265 (.at .g 2) (.at .int 8) (.f2 114 (.at .bytes 12) (.at .int 10)) (.int 0)) (.int 0) (.int 0) (.int 0)) (.us .int 258 (.at .g 2) (.int 0)
    (.int 0) (.int 0))) (.need (.f2 45 (.us .int 257 (.us .g 265 (.at .g 2) (.at .int 8) (.f2 114 (.at .bytes 12) (.at .int 10)) (.int 0)) (.int 0)
    (.int 0) (.int 0)) (.us .int 257 (.at .g 2) (.int 0) (.int 0) (.int 0))) .tt))))))))))))))))))))))))
theorem comes_vc : vcOf Try.prog comesCx 12 25 comesCtr = comesVc := by kernel_rfl
-- END VC comes
-- PROOFS
theorem link_specs {S : Sig GG} (hS : CsSig S) : SpecsOk S Try.prog linkS := ⟨one_spec (by decide) (out_ok S hS.rg), one_spec (by decide) (lst_ok S hS.rg), trivial⟩
theorem erase_row (l : Int) : ∀ R : List (List Int), (R.map g0).erase l = (R.take (rowI l R) ++ R.drop (rowI l R + 1)).map g0
  | [] => rfl
  | r :: R => by
    unfold rowI
    rw [List.map_cons, List.erase_cons]
    cases hb : g0 r == l
    · show (if false = true then _ else _) = _
      rw [if_neg (by decide), erase_row l R]; rfl
    · rfl
theorem rowI_lt {l : Int} {R : List (List Int)} (h : l ∈ R.map g0) : rowI l R < R.length := by
  rw [rowI_idx]
  have := List.idxOf_lt_length_of_mem h
  rwa [List.length_map] at this
theorem rowI_mem {l : Int} {R : List (List Int)} (h : rowI l R < R.length) : l ∈ R.map g0 := by
  have h1 := rowI_at h
  rw [← h1]
  refine List.mem_map.2 ⟨_, ?_, rfl⟩
  rw [List.getD_eq_getElem?_getD, List.getElem?_eq_getElem h]; exact List.getElem_mem _
theorem GoodC.gone {c : Cs} (h : GoodC c) (i : Int) : GoodC (c.gone i) := by
  have hsub : (c.fr.take i.toNat ++ c.fr.drop (i.toNat + 1)).Sublist c.fr := by
    conv => rhs; rw [← List.take_append_drop i.toNat c.fr]
    refine List.Sublist.append_left ?_ _
    rw [← List.drop_drop]
    exact List.drop_sublist _ _
  have hl := hsub.length_le
  have hlen := h.len
  exact ⟨h.frames, show ((c.fr.take i.toNat ++ c.fr.drop (i.toNat + 1)).length : Int) ≤ c.frames by omega, (hsub.map _).nodup h.nod, fun f hf => h.pins f (hsub.subset hf), h.cnt, fun f hf => h.b f (hsub.subset hf)⟩
theorem goes_ok (S : Sig GG) (hS : CsSig S) : CtrOk S Try.prog 34 goesCtr := by
  refine vcOf_sound S (C := goesCx) (fuel := 12) (cx_of (link_specs hS) ⟨⟨⟨by decide, opF_gh S hS⟩, ⟨by decide, gnF_gh S hS⟩, trivial⟩, trivial⟩ trivial) fun ρ => ?_
  rw [goes_vc]
  simp only [goesVc, co_g, csOf_g, hS.rg.u240, hS.rg.u241, hS.rg.u242, hS.rg.u243, hS.rg.u244, hS.rg.u245, hS.rg.u246, hS.rg.u247, hS.rg.u248, hS.rg.u249, hS.u250, hS.u251, hS.u252, hS.u253, hS.u254, hS.u255, hS.u256, hS.u257, hS.u258, hS.u259, hS.u260, hS.u261, hS.u262, hS.u263, hS.u264, hS.u265, hS.u266, hS.u267, hS.u268, hS.u269, hS.u270, hS.u271, hS.u272, hS.u273, hS.u274, VC.den, SX.den, co_int, co_bool, co_bytes, co_ints, co_rows, co_map, Env.upd, p155, p153, p23, p45, p46, p47, p50, b46, b47, t46, t47, p2_45, ap1_2, ap1_30, ap1_31, ap1_32, ap1_152, ap1_153, ap1_154, ap2_40, ap2_41, ap2_42, ap2_43, ap2_45, p48_b, ap2_51i, ap2_52i, ap2_110, ap2_111, ap2_113, ap2_114, ap2_115, ap2_117, ap2_120, ap2_126, ap2_141, ap3_112, ap3_140, beq_iff_eq, Bool.not_eq_true', beq_eq_false_iff_ne, ne_eq, Bool.not_not, U.toProp_bool, U.toBool_bool, i64lo, i64hi, U.toInt_int, U.toInts_ints, U.toBytes_bytes, U.toRows_rows, U.toMap_amap, Int.toNat_zero, Nat.reduceEqDiff, reduceIte, propB_iff, leB_iff, ltB_iff, U.int.injEq, U.bool.injEq, U.bytes.injEq, U.ints.injEq, U.rows.injEq]
  generalize csOf (U.co S .g (ρ 2)) = c
  generalize (ρ 5).toRows = R
  generalize (ρ 4).toInt = H
  generalize (ρ 6).toMap = m
  generalize (ρ 8).toInt = l
  intro hx hh hg hl
  have hl' : rowI l R < R.length := by omega
  have hlen := hh.1
  refine ⟨by rw [hx]; exact rowI_mem hl', fun _ _ _ _ => ⟨by omega, hh.gone (i := rowI l R) (by omega), hg.gone _, ?_, rfl, rfl, rfl, rfl, trivial⟩⟩
  rw [hx, erase_row]; rfl
theorem comes_ok (S : Sig GG) (hS : CsSig S) : CtrOk S Try.prog 25 comesCtr := by
  refine vcOf_sound S (C := comesCx) (fuel := 12) (cx_of (link_specs hS) ⟨⟨⟨by decide, spF_gh S⟩, ⟨by decide, ndR_gh S hS.rg⟩, ⟨by decide, adF_gh S hS⟩, trivial⟩, trivial⟩ trivial) fun ρ => ?_
  rw [comes_vc]
  simp only [comesVc, co_g, csOf_g, hS.rg.u240, hS.rg.u241, hS.rg.u242, hS.rg.u243, hS.rg.u244, hS.rg.u245, hS.rg.u246, hS.rg.u247, hS.rg.u248, hS.rg.u249, hS.u250, hS.u251, hS.u252, hS.u253, hS.u254, hS.u255, hS.u256, hS.u257, hS.u258, hS.u259, hS.u260, hS.u261, hS.u262, hS.u263, hS.u264, hS.u265, hS.u266, hS.u267, hS.u268, hS.u269, hS.u270, hS.u271, hS.u272, hS.u273, hS.u274, VC.den, SX.den, co_int, co_bool, co_bytes, co_ints, co_rows, co_map, Env.upd, p155, p153, p23, p45, p46, p47, p50, b46, b47, t46, t47, p2_45, ap1_2, ap1_30, ap1_31, ap1_32, ap1_152, ap1_153, ap1_154, ap2_40, ap2_41, ap2_42, ap2_43, ap2_45, p48_b, ap2_51i, ap2_52i, ap2_110, ap2_111, ap2_113, ap2_114, ap2_115, ap2_117, ap2_120, ap2_126, ap2_141, ap3_112, ap3_140, beq_iff_eq, Bool.not_eq_true', beq_eq_false_iff_ne, ne_eq, Bool.not_not, U.toProp_bool, U.toBool_bool, i64lo, i64hi, U.toInt_int, U.toInts_ints, U.toBytes_bytes, U.toRows_rows, U.toMap_amap, Int.toNat_zero, Nat.reduceEqDiff, reduceIte, propB_iff, leB_iff, ltB_iff, U.int.injEq, U.bool.injEq, U.bytes.injEq, U.ints.injEq, U.rows.injEq]
  generalize csOf (U.co S .g (ρ 2)) = c
  generalize (ρ 5).toRows = R
  generalize (ρ 4).toInt = H
  generalize (ρ 6).toMap = m
  generalize (ρ 8).toInt = n
  intro hx hh hg _ _ hb16 hni hfu _ _ a _ hn hp
  have hlen := hh.1
  have h2 := hh.add (f := ⟨n, (ρ 12).toBytes.take (ρ 10).toInt.toNat, false, 0⟩) (show ¬ c.idx n < c.fr.length by omega) [a, (ρ 9).toInt, (ρ 11).toInt]
  refine ⟨h2, ⟨hg.frames, ?_, h2.2.1, ?_, hg.cnt, ?_⟩, ?_, ?_, ?_, ?_, rfl, rfl, rfl, rfl, trivial⟩
  · show ((c.fr ++ [_]).length : Int) ≤ c.frames
    rw [List.length_append]; show ((c.fr.length + 1 : Nat) : Int) ≤ _; omega
  · intro f hf
    rcases List.mem_append.1 hf with h | h
    · exact hg.pins f h
    · rw [List.mem_singleton.1 h]; exact Int.le_refl _
  · intro f hf
    rcases List.mem_append.1 hf with h | h
    · exact hg.b f h
    · rw [List.mem_singleton.1 h]; show ((ρ 12).toBytes.take (ρ 10).toInt.toNat).length ≤ 65536; rw [List.length_take]; omega
  · exact trivial
  · show ((R ++ [[a, (ρ 9).toInt, (ρ 11).toInt]]).getD ((R.length : Nat) : Int).toNat []).getD 0 0 = a
    have e : (R ++ [[a, (ρ 9).toInt, (ρ 11).toInt]]).getD R.length [] = [a, (ρ 9).toInt, (ρ 11).toInt] := by rw [List.getD_eq_getElem?_getD, List.getElem?_append_right (Nat.le_refl _), Nat.sub_self]; rfl
    rw [Int.toNat_natCast, e]; rfl
  · rw [hx] at hn
    show (H :: (R ++ [[a, (ρ 9).toInt, (ρ 11).toInt]]).map g0).Nodup
    rw [List.map_append]; exact hn
  · show (R ++ [[a, (ρ 9).toInt, (ρ 11).toInt]]).map g0 = _
    rw [hx, List.map_append]; rfl
end
end Go.Proofs.Ytlcfjjjdhdfbdaa

/- A device in memory: proofs. -/
set_option linter.unusedSimpArgs false
set_option linter.unusedVariables false
namespace Go.Proofs.Ytlcfjjjdhdfbdaa
noncomputable section
open Go.Eng
theorem lsH_len : ∀ {k : List (List Int)} {q : List (Int × List UInt8)} {h : Hl}, lsH k q h → k.length = q.length
  | [], [], _, _ => rfl
  | r :: k, p :: q, h, hx => by
    obtain ⟨a, b, _, _, _, hb⟩ := hx
    rw [List.length_cons, List.length_cons, lsH_len hb]
  | [], _ :: _, _, hx => hx.elim
  | _ :: _, [], _, hx => hx.elim
theorem lsH_app : ∀ {a : List (List Int)} {c : List (Int × List UInt8)} (b : List (List Int)) (d : List (Int × List UInt8)), a.length = c.length → lsH (a ++ b) (c ++ d) = star (lsH a c) (lsH b d)
  | [], [], b, d, _ => by rw [List.nil_append, List.nil_append]; show _ = star emp _; rw [emp_star]
  | r :: a, p :: c, b, d, h => by
    rw [List.cons_append, List.cons_append]
    show star _ (lsH (a ++ b) (c ++ d)) = star (star _ (lsH a c)) (lsH b d)
    rw [lsH_app b d (by simpa using h), star_assoc]
  | [], _ :: _, _, _, h => by simp at h
  | _ :: _, [], _, _, h => by simp at h
theorem lsH_one (r : List Int) (p : Int × List UInt8) : lsH [r] [p] = itemL r p := by
  show star _ emp = _
  rw [star_emp]
theorem lsH_pick {k : List (List Int)} {m : List (Int × List UInt8)} {i : Nat} (hl : k.length = m.length) (hi : i < k.length) :
    lsH k m = star (star (lsH (k.take i) (m.take i)) (lsH (k.drop (i + 1)) (m.drop (i + 1)))) (itemL (k.getD i []) (m.getD i (0, []))) := by
  conv => lhs; rw [split_at (d := []) hi, split_at (d := (0, [])) (show i < m.length by omega)]
  rw [lsH_app _ _ (by rw [List.length_take, List.length_take]; omega), lsH_app _ _ (show [k.getD i []].length = [m.getD i (0, [])].length from rfl), lsH_one, star_assoc, star_comm (itemL _ _)]
theorem hpDen_cel_un (T : Sig GG) (ρ : Go.Eng.Env GG) (w0 : World) (g : SX) (l : List Ch) : hpDen T ρ w0 (.cel (ai 0) 0 (celP g) :: arrP g ++ l) =
    star ((Ch.cel (ai 0) 0 (celP g)).den T ρ w0) (star (arrDen T .bytes ((ai 2).den T ρ) ((sfX g).den T ρ) ((ai 3).den T ρ)) (star (arrDen T lsT ((ai 4).den T ρ) ((rA 11).den T ρ) ((ai 6).den T ρ))
      (star ((Ch.map .i64 (.int .i64) (ai 7) (mA 12)).den T ρ w0) (star (arrDen T iE ((ai 8).den T ρ) ((iA 13).den T ρ) ((ai 10).den T ρ)) (hpDen T ρ w0 l))))) := rfl
theorem map_den (T : Sig GG) (ρ : Go.Eng.Env GG) (w0 : World) (b m : SX) : (Ch.map .i64 (.int .i64) b m).den T ρ w0 = mapH (b.den T ρ).toInt (m.den T ρ).toMap := rfl
theorem sfX_den {T : Sig GG} (hT : DvSig T) (ρ : Go.Eng.Env GG) (g : SX) : (sfX g).den T ρ = .bytes (dvOf (g.den T ρ)).safe := by
  simp only [sfX, usY, SX.den, hT.u208, co_bytes, U.toBytes_bytes]
theorem unP_gh (S : Sig GG) (hS : DvSig S) : GhOk S unPC := by
  refine gh_mk S fun T w0 ρ h hu hp hd hr hpre => ?_
  have hT := hS.of hu hp hd
  have e1 : hpDen T ρ w0 unPC.pre = star (T.prd 50 w0 ((ai 0).den T ρ) ((gA 1).den T ρ)) emp := rfl
  rw [e1, star_emp, hT.p50] at hpre
  have hK : ((ai 0).den T ρ).toInt = (ρ 0).toInt := rfl
  rw [hK] at hpre
  generalize hd' : dvOf ((gA 1).den T ρ) = d at hpre
  obtain ⟨hg, sb, sc, lb, ln, lc, mb, fb, fl, fc, y, m, z, ⟨f1, f2, f3, f4, f5, f6, f7⟩, hst⟩ := hpre
  let ρ' : Go.Eng.Env GG := (((((((((((ρ.upd 2 (.int sb)).upd 3 (.int sc)).upd 4 (.int lb)).upd 5 (.int ln)).upd 6 (.int lc)).upd 7 (.int mb)).upd 8 (.int fb)).upd 9 (.int fl)).upd 10 (.int fc)).upd 11 (.rows y)).upd 12 (.amap m)).upd 13 (.ints z)
  have hlow : ∀ i, i < 2 → ρ' i = ρ i := fun i hi => by
    show ((((((((((((ρ.upd 2 (.int sb)).upd 3 (.int sc)).upd 4 (.int lb)).upd 5 (.int ln)).upd 6 (.int lc)).upd 7 (.int mb)).upd 8 (.int fb)).upd 9 (.int fl)).upd 10 (.int fc)).upd 11 (.rows y)).upd 12 (.amap m)).upd 13 (.ints z)) i = ρ i
    simp only [Env.upd]
    repeat rw [if_neg (by omega)]
  have hgd : dvOf ((gA 1).den T ρ') = d := by rw [← hd']; rfl
  refine ⟨ρ', hlow, ?_, ?_⟩
  · have e2 : hpDen T ρ' w0 unPC.post = hpDen T ρ' w0 (.cel (ai 0) 0 (celP (gA 1)) :: arrP (gA 1) ++ [lsC (ai 5) (rA 11) (gA 1)]) := rfl
    have e3 : hpDen T ρ' w0 [lsC (ai 5) (rA 11) (gA 1)] = star (T.prd 51 w0 ((cons1 (one1 (ai 5)) (rA 11)).den T ρ') ((gA 1).den T ρ')) emp := rfl
    rw [e2, hpDen_cel_un, e3, star_emp, hT.p51, celP_den rfl hT, sfX_den hT, map_den, hgd]
    have k1 : ((cons1 (one1 (ai 5)) (rA 11)).den T ρ').toRows = [ln] :: y := rfl
    rw [k1, kp51_mk]
    exact hst
  · have hlen : (y.take ln.toNat).length = d.w.length := by
      obtain ⟨_, _, _, hq⟩ := star_take hst
      obtain ⟨_, _, _, hq⟩ := star_take hq
      obtain ⟨_, _, _, hq⟩ := star_take hq
      obtain ⟨_, _, _, hq⟩ := star_take hq
      obtain ⟨_, _, _, hq⟩ := star_take hq
      exact lsH_len hq
    obtain ⟨_, _, _, hq⟩ := star_take hst
    obtain ⟨_, _, hsa, hq⟩ := star_take hq
    obtain ⟨_, _, hla, hq⟩ := star_take hq
    obtain ⟨_, _, hma, _⟩ := star_take hq
    obtain ⟨_, es, clk, hmo, _⟩ := hma
    have hb0 : 0 ≤ sb ∨ sc = 0 := by obtain ⟨_, _, _, h3, _⟩ := hsa; exact h3
    have hsl := bAD_le hsa
    have hll := rAD_le (fs := [.int .i64, .slice 1]) (by decide) hla
    have q2 : ((sfX (gA 1)).den T ρ') = .bytes d.safe := by rw [sfX_den hT, hgd]
    intro q hq
    simp only [unPC, List.mem_cons, List.not_mem_nil, or_false] at hq
    rcases hq with rfl | rfl | rfl | rfl | rfl | rfl | rfl | rfl | rfl | rfl | rfl | rfl
    · show ((eLe (.int 0) (ai 5)).den T ρ').toProp
      rw [eLe_den]; exact f1
    · rw [eLe_den]; exact f2
    · have : ((Go.Eng.SX.f2 45 (ai 5) (usI 211 (gA 1) z0 z0)).den T ρ').toProp ↔ ln = (d.w.length : Nat) := by
        simp only [usI, SX.den, hT.u211, co_int, U.toInt_int, p45]
        rw [hgd]; exact Iff.rfl
      rw [this]; rw [← hlen, List.length_take]; omega
    · rw [eLe_den]; exact Int.le_trans f2 hll
    · rw [eLe_den]; exact f3
    · rw [eLe_den]; exact f4
    · have : ((Go.Eng.SX.f2 153 (tkI (iA 13) (ai 9)) (usN 209 (gA 1) z0 z0)).den T ρ').toProp ↔ z.take fl.toNat = d.keep := by
        simp only [usN, tkI, SX.den, hT.u209, co_ints, U.toInts_ints, p153, ap2_113]
        rw [hgd]; exact Iff.rfl
      rw [this]; exact f5
    · have : ((usB 214 (mA 12) (gA 1) z0).den T ρ').toProp ↔ (lastOk m d.w ∧ posM m) := by
        simp only [usB, SX.den, hT.u214, co_bool, U.toProp_bool, U.toBool_bool, propB_iff]
        rw [hgd]; exact Iff.rfl
      rw [this]; exact ⟨f6, f7⟩
    · have : ((usB 215 (gA 1) z0 z0).den T ρ').toProp ↔ GoodD d := by
        simp only [usB, SX.den, hT.u215, co_bool, U.toProp_bool, U.toBool_bool, propB_iff]
        rw [hgd]
      rw [this]; exact hg
    · rw [eLe_den]
      have : ((lenB (sfX (gA 1))).den T ρ').toInt = (d.safe.length : Nat) := by
        show (ap1 31 ((sfX (gA 1)).den T ρ')).toInt = _
        rw [q2]; rfl
      rw [this]; exact hsl
    · rw [eLe_den]
      show 0 ≤ sb
      have hgp := hg.pages
      have hgs := size_le hg.size
      obtain ⟨k, k1, k2, k3, k4⟩ := hg.pgs
      have : 4 * d.page.toNat ≤ k * d.page.toNat := Nat.mul_le_mul_right _ k1
      rcases hb0 with h | h
      · exact h
      · omega
    · have : ((usB 237 (mA 12) z0 z0).den T ρ').toProp ↔ (m.map (·.1)).Nodup := by
        simp only [usB, SX.den, hT.u237, co_bool, U.toProp_bool, U.toBool_bool, propB_iff]
        exact Iff.rfl
      rw [this]; exact hmo.2.1
theorem foP_gh (S : Sig GG) (hS : DvSig S) (more : List Srt) (args : List SV) (g : SX) : GhOk S (foPC more args g) := by
  refine gh_mk S fun T w0 ρ h hu hp hd hr hpre => ⟨ρ, Ext.refl _ _, ?_, by intro x hx; exact nomatch hx⟩
  have hT := hS.of hu hp hd
  have e1 : hpDen T ρ w0 (foPC more args g).pre = hpDen T ρ w0 (.cel (ai 0) 0 (celP g) :: arrP g ++ [lsC (ai 5) (rA 14) (gA 1)]) := rfl
  have e2 : hpDen T ρ w0 (foPC more args g).post = star (T.prd 50 w0 ((ai 0).den T ρ) (g.den T ρ)) emp := rfl
  have e3 : hpDen T ρ w0 [lsC (ai 5) (rA 14) (gA 1)] = star (T.prd 51 w0 ((cons1 (one1 (ai 5)) (rA 14)).den T ρ) ((gA 1).den T ρ)) emp := rfl
  rw [e1, hpDen_cel_un, e3, star_emp, hT.p51, celP_den rfl hT, sfX_den hT, map_den] at hpre
  rw [e2, star_emp, hT.p50]
  have k1 : ((cons1 (one1 (ai 5)) (rA 14)).den T ρ).toRows = [(ρ 5).toInt] :: (ρ 14).toRows := rfl
  rw [k1, kp51_mk] at hpre
  have r1 := hr (eLe (.int 0) (ai 5)) (by simp [foPC])
  have r2 := hr (eLe (ai 5) (lenR (rA 11))) (by simp [foPC])
  have r3 := hr (eqS (tk (rA 11) (ai 5)) (tk (rA 14) (ai 5))) (by simp [foPC])
  have r4 := hr (eLe (.int 0) (ai 9)) (by simp [foPC])
  have r5 := hr (eLe (ai 9) (lenI (iA 13))) (by simp [foPC])
  have r6 := hr (.f2 153 (tkI (iA 13) (ai 9)) (usN 209 g z0 z0)) (by simp [foPC])
  have r7 := hr (usB 214 (mA 12) g z0) (by simp [foPC])
  have r8 := hr (usB 215 g z0 z0) (by simp [foPC])
  have r9 := hr (usB 216 g (gA 1) z0) (by simp [foPC])
  rw [eLe_den] at r1 r2 r4 r5
  simp only [eqS, tk, tkI, usN, usB, SX.den, hT.u209, hT.u214, hT.u215, hT.u216, co_bool, co_ints, co_rows, co_map, p153, p155, ap2_113, ap2_115, rA, iA, ai, mA, co_int, U.toInt_int, U.toInts_ints, U.toRows_rows, U.toMap_amap, U.toProp_bool, U.toBool_bool, propB_iff, U.rows.injEq] at r3 r6 r7 r8 r9
  have hK : ((ai 0).den T ρ).toInt = (ρ 0).toInt := rfl
  rw [hK]
  rw [← r9, ← r3] at hpre
  exact ⟨r8, (ρ 2).toInt, (ρ 3).toInt, (ρ 4).toInt, (ρ 5).toInt, (ρ 6).toInt, (ρ 7).toInt, (ρ 8).toInt, (ρ 9).toInt, (ρ 10).toInt, (ρ 11).toRows, (ρ 12).toMap, (ρ 13).toInts, ⟨r1, r2, r4, r5, r6, r7.1, r7.2⟩, hpre⟩
theorem toL_gh (S : Sig GG) (hS : DvSig S) : GhOk S toLC := by
  refine gh_mk S fun T w0 ρ h hu hp hd hr hpre => ?_
  have hT := hS.of hu hp hd
  have e1 : hpDen T ρ w0 toLC.pre = star (T.prd 51 w0 ((cons1 (one1 (ai 0)) (rA 1)).den T ρ) ((gA 2).den T ρ)) emp := rfl
  have e2 : ∀ ρ', hpDen T ρ' w0 toLC.post = star (T.prd 52 w0 ((cons1 (ints2 (ai 3) (ai 0)) (rA 1)).den T ρ') ((gA 2).den T ρ')) (star (arrDen T .bytes ((nt (rA 1) (ai 3) 1).den T ρ') ((bA 4).den T ρ') ((nt (rA 1) (ai 3) 3).den T ρ')) emp) := fun _ => rfl
  rw [e1, star_emp, hT.p51] at hpre
  have r0 := hr (eLe (.int 0) (ai 3)) (by simp [toLC])
  have r1 := hr (eLt (ai 3) (ai 0)) (by simp [toLC])
  have r2 := hr (eLe (ai 0) (lenR (rA 1))) (by simp [toLC])
  simp only [eLe, eLt, SX.mk2, lenR, SX.den, ai, rA, co_int, co_rows, U.toInt_int, U.toRows_rows, p46, p47, ap1_32] at r0 r1 r2
  have k1 : ((cons1 (one1 (ai 0)) (rA 1)).den T ρ).toRows = [(ρ 0).toInt] :: (ρ 1).toRows := rfl
  rw [k1, kp51_mk] at hpre
  generalize hd' : dvOf ((gA 2).den T ρ) = d at hpre
  have hl := lsH_len hpre
  have hi : (ρ 3).toInt.toNat < ((ρ 1).toRows.take (ρ 0).toInt.toNat).length := by rw [List.length_take]; omega
  rw [lsH_pick hl hi] at hpre
  obtain ⟨a, b, dd, rfl, ha, x, ⟨q0, q1, q2, q3⟩, hb⟩ := hpre
  rw [nth_take (by omega)] at q0 q1 q2 q3 hb
  refine ⟨ρ.upd 4 (.bytes x), Ext.upd _ _, ?_, ?_⟩
  · rw [e2, star_emp, hT.p52]
    have k2 : ((cons1 (ints2 (ai 3) (ai 0)) (rA 1)).den T (ρ.upd 4 (.bytes x))).toRows = [(ρ 3).toInt, (ρ 0).toInt] :: (ρ 1).toRows := rfl
    have k3 : dvOf ((gA 2).den T (ρ.upd 4 (.bytes x))) = d := by rw [← hd']; rfl
    rw [k2, kp52_mk, k3]
    exact ⟨a, b, dd, rfl, ha, hb⟩
  · intro q hq
    simp only [toLC, List.mem_cons, List.not_mem_nil, or_false] at hq
    have k3 : dvOf (U.co T .g ((ρ.upd 4 (.bytes x)) 2)) = d := by rw [← hd']; rfl
    rcases hq with rfl | rfl | rfl | rfl | rfl
    · rw [eLe_den]; exact q1
    · rw [eLe_den]; exact q2
    · simp only [eqS, tkB, usY, nt, SX.den, ai, rA, gA, bA, hT.u212, co_bytes, co_int, co_rows, U.toInt_int, U.toBytes_bytes, U.toRows_rows, p155, ap2_114, ap3_112, U.bytes.injEq]
      rw [k3]
      exact q3
    · simp only [usI, nt, SX.den, ai, rA, gA, hT.u217, co_int, co_rows, U.toInt_int, U.toRows_rows, p45, ap3_112]
      rw [k3]
      exact q0
    · rw [eLe_den]
      have hc : (x.length : Int) ≤ _ := bAD_le hb
      exact Int.le_trans q2 hc
theorem pbL_gh (S : Sig GG) (hS : DvSig S) : GhOk S pbLC := by
  refine gh_mk S fun T w0 ρ h hu hp hd hr hpre => ⟨ρ, Ext.refl _ _, ?_, by intro x hx; exact nomatch hx⟩
  have hT := hS.of hu hp hd
  have e1 : hpDen T ρ w0 pbLC.pre = star (T.prd 52 w0 ((cons1 (ints2 (ai 0) (ai 1)) (rA 2)).den T ρ) ((gA 3).den T ρ)) (star (arrDen T .bytes ((nt (rA 2) (ai 0) 1).den T ρ) ((bA 4).den T ρ) ((nt (rA 2) (ai 0) 3).den T ρ)) emp) := rfl
  have e2 : hpDen T ρ w0 pbLC.post = star (T.prd 51 w0 ((cons1 (one1 (ai 1)) (rA 2)).den T ρ) ((gA 3).den T ρ)) emp := rfl
  rw [e1, star_emp, hT.p52] at hpre
  rw [e2, star_emp, hT.p51]
  have r0 := hr (eLe (.int 0) (ai 0)) (by simp [pbLC])
  have r1 := hr (eLt (ai 0) (ai 1)) (by simp [pbLC])
  have r2 := hr (eLe (ai 1) (lenR (rA 2))) (by simp [pbLC])
  have r3 := hr (.f2 45 (ai 1) (usI 211 (gA 3) z0 z0)) (by simp [pbLC])
  have s1 := hr (eLe (.int 0) (nt (rA 2) (ai 0) 2)) (by simp [pbLC])
  have s2 := hr (eLe (nt (rA 2) (ai 0) 2) (lenB (bA 4))) (by simp [pbLC])
  have s3 := hr (eqS (tkB (bA 4) (nt (rA 2) (ai 0) 2)) (usY 212 (gA 3) (ai 0) z0)) (by simp [pbLC])
  have s4 := hr (.f2 45 (nt (rA 2) (ai 0) 0) (usI 217 (gA 3) (ai 0) z0)) (by simp [pbLC])
  simp only [eLe, eLt, eqS, SX.mk2, lenR, lenB, tkB, usI, usY, nt, SX.den, ai, rA, bA, hT.u211, hT.u212, hT.u217, co_int, co_bytes, co_rows, U.toInt_int, U.toBytes_bytes, U.toRows_rows, p45, p46, p47, p155, ap1_31, ap1_32, ap2_114, ap3_112, U.bytes.injEq] at r0 r1 r2 r3 s1 s2 s3 s4
  have k1 : ((cons1 (ints2 (ai 0) (ai 1)) (rA 2)).den T ρ).toRows = [(ρ 0).toInt, (ρ 1).toInt] :: (ρ 2).toRows := rfl
  have k2 : ((cons1 (one1 (ai 1)) (rA 2)).den T ρ).toRows = [(ρ 1).toInt] :: (ρ 2).toRows := rfl
  rw [k1, kp52_mk] at hpre
  rw [k2, kp51_mk]
  generalize dvOf ((gA 3).den T ρ) = d at hpre r3 s3 s4 ⊢
  have hl : ((ρ 2).toRows.take (ρ 1).toInt.toNat).length = d.w.length := by rw [List.length_take]; omega
  have hi : (ρ 0).toInt.toNat < ((ρ 2).toRows.take (ρ 1).toInt.toNat).length := by rw [List.length_take]; omega
  rw [lsH_pick hl hi, nth_take (by omega)]
  obtain ⟨a, b, dd, rfl, ha, hb⟩ := hpre
  exact ⟨a, b, dd, rfl, ha, (ρ 4).toBytes, ⟨s4, s1, s2, s3⟩, hb⟩
theorem puL_gh (S : Sig GG) (hS : DvSig S) : GhOk S puLC := by
  refine gh_mk S fun T w0 ρ h hu hp hd hr hpre => ⟨ρ, Ext.refl _ _, ?_, by intro x hx; exact nomatch hx⟩
  have hT := hS.of hu hp hd
  have e1 : hpDen T ρ w0 puLC.pre = star (T.prd 51 w0 ((cons1 (one1 (ai 0)) (rA 1)).den T ρ) ((gA 2).den T ρ)) (star (arrDen T .bytes ((ai 4).den T ρ) ((bA 7).den T ρ) ((ai 6).den T ρ)) emp) := rfl
  have e2 : hpDen T ρ w0 puLC.post = star (T.prd 51 w0 ((cons1 (one1 (add1 (ai 0))) (.f2 121 (tk (rA 1) (ai 0)) (.f2 124 (row4 (ai 3) (ai 4) (ai 5) (ai 6)) nilR))).den T ρ) ((usG 224 (gA 2) (ai 3) (tkB (bA 7) (ai 5))).den T ρ)) emp := rfl
  rw [e1, star_emp, hT.p51] at hpre
  rw [e2, star_emp, hT.p51]
  have r0 := hr (eLe (.int 0) (ai 0)) (by simp [puLC])
  have r1 := hr (eLe (ai 0) (lenR (rA 1))) (by simp [puLC])
  have r2 := hr (eLe (.int 0) (ai 5)) (by simp [puLC])
  have r3 := hr (eLe (ai 5) (lenB (bA 7))) (by simp [puLC])
  have r4 := hr (.f2 45 (ai 0) (usI 211 (gA 2) z0 z0)) (by simp [puLC])
  simp only [eLe, SX.mk2, lenR, lenB, usI, SX.den, ai, rA, bA, hT.u211, co_int, co_bytes, co_rows, U.toInt_int, U.toBytes_bytes, U.toRows_rows, p45, p47, ap1_31, ap1_32] at r0 r1 r2 r3 r4
  have e40 : ((add1 (ai 0)).den T ρ).toInt = (ρ 0).toInt + 1 := by unfold add1; rw [SX.mk2_den]; rfl
  have k1 : ((cons1 (one1 (ai 0)) (rA 1)).den T ρ).toRows = [(ρ 0).toInt] :: (ρ 1).toRows := rfl
  have k2 : ((cons1 (one1 (add1 (ai 0))) (.f2 121 (tk (rA 1) (ai 0)) (.f2 124 (row4 (ai 3) (ai 4) (ai 5) (ai 6)) nilR))).den T ρ).toRows = [((add1 (ai 0)).den T ρ).toInt] :: ((ρ 1).toRows.take (ρ 0).toInt.toNat ++ [[(ρ 3).toInt, (ρ 4).toInt, (ρ 5).toInt, (ρ 6).toInt]]) := rfl
  have k3 : dvOf ((usG 224 (gA 2) (ai 3) (tkB (bA 7) (ai 5))).den T ρ) = { dvOf ((gA 2).den T ρ) with wr := (dvOf ((gA 2).den T ρ)).wr + 1, w := (dvOf ((gA 2).den T ρ)).w ++ [((ρ 3).toInt, (ρ 7).toBytes.take (ρ 5).toInt.toNat)] } := by
    simp only [usG, SX.den, hT.u224, co_g, dvOf_g]; rfl
  rw [k1, kp51_mk] at hpre
  rw [k2, kp51_mk, k3, e40]
  have r4 : (ρ 0).toInt = ((dvOf ((gA 2).den T ρ)).w.length : Nat) := r4
  generalize dvOf ((gA 2).den T ρ) = d at hpre r4 ⊢
  rw [List.take_of_length_le (by rw [List.length_append, List.length_take]; show _ + 1 ≤ _; omega), lsH_app _ _ (by rw [List.length_take]; omega), lsH_one]
  obtain ⟨a, b, dd, rfl, ha, hb⟩ := hpre
  exact ⟨a, b, dd, rfl, ha, (ρ 7).toBytes, ⟨rfl, r2, r3, rfl⟩, hb⟩
theorem noL_gh (S : Sig GG) (hS : DvSig S) (k : Nat) : GhOk S (noLC k) := by
  refine gh_mk2 S fun T w0 ρ h hu hp hd hr hpre => ?_
  have hT := hS.of hu hp hd
  refine ⟨ρ, hpDen T ρ w0 (noLC k).pre, Ext.refl _ _, ?_, by intro x hx; exact nomatch hx⟩
  have e2 : hpDen T ρ w0 (noLC k).post = star (T.prd 51 w0 ((cons1 (one1 z0) nilR).den T ρ) ((usG k (gA 2) z0 z0).den T ρ)) (star (rAD lsT (-1) [] 0) emp) := rfl
  have r4 := hr (.f2 45 (usI 211 (usG k (gA 2) z0 z0) z0 z0) z0) (by simp [noLC])
  have r4 : ((dvOf ((usG k (gA 2) z0 z0).den T ρ)).w.length : Int) = 0 := by
    have e : ((usI 211 (usG k (gA 2) z0 z0) z0 z0).den T ρ).toInt = ((dvOf ((usG k (gA 2) z0 z0).den T ρ)).w.length : Nat) := by
      simp only [usI, SX.den, hT.u211, co_int, U.toInt_int]
    rw [← e]
    simpa [SX.den, p45, z0] using r4
  have hw : (dvOf ((usG k (gA 2) z0 z0).den T ρ)).w = [] := List.eq_nil_of_length_eq_zero (by omega)
  rw [e2, star_emp, lsT, rAD_emp, star_emp, hT.p51]
  have k1 : ((cons1 (one1 z0) nilR).den T ρ).toRows = [[0]] := rfl
  rw [k1, kp51_mk, hw]
  show star _ emp h
  rw [star_emp]; exact hpre
end
end Go.Proofs.Ytlcfjjjdhdfbdaa

/- A device's calls that leave it as it is, or count: Read. -/
set_option linter.unusedSimpArgs false
set_option linter.unusedVariables false
namespace Go.Proofs.Ytlcfjjjdhdfbdaa
noncomputable section
open Go.Eng
def big62 : SX := .int 4611686018427387904
/-- Bytes copied: 6 block, 7 content, 8 room. -/
def clnCtr : Ctr := ⟨[.int, .int, .int, .int, .bytes, .int], [.one (slR 0)], [rdBy 0 0], [eLe (.int 0) (ai 2), eLe (ai 2) (lenB (bA 4)), eLe (ai 2) (ai 3), eLe (ai 2) (.int 1099511627776), .f2 50 (eLe (.int 0) (ai 0)) (.f2 45 (ai 2) z0)], [.int, .bytes, .int],
  .one (sl1 (ai 6) (ai 2) (ai 8)), [rdBy 0 0, bAr (ai 6) (bA 7) (ai 8)], [eqS (tkB (bA 7) (ai 2)) (tkB (bA 4) (ai 2)), .f2 45 (lenB (bA 7)) (ai 2), eLe (ai 2) (ai 8), .f2 50 (eLe (.int 0) (ai 6)) (.f2 45 (ai 2) z0)]⟩
def cl1Ctr : Ctr := clnCtr
def cl1Cx : Cx := { specs := [], anns := [(19, [(999999, .ghost emBC [])])] }
def cl2Ctr : Ctr := clnCtr
def cl2Cx : Cx := { specs := [], anns := [(29, [(999999, .ghost emBC [])])] }
def pagsCtr : Ctr := ⟨[.int, .g], [.one (.ptr (ai 0) 0)], [plC (ai 0) (gA 1)], [], [], .one (.int .i64 (usI 210 (gA 1) z0 z0)), [plC (ai 0) (gA 1)], []⟩
def pagsCx : Cx := { specs := [], anns := [(20, [(0, .ghost unPC [.tmp 0]), (999999, .ghost (foPC [] [] (gA 1)) [.tmp 0])])] }
def readCtr : Ctr := ⟨[.int, .g, .int], [.one (.ptr (ai 0) 0), .one (.int .i64 (ai 2))], [plC (ai 0) (gA 1)], [eLe (usI 205 (gA 1) z0 z0) big62], [.int, .int, .int, .bytes, .int],
  .tup [(false, [sl1 (ai 3) (ai 4) (ai 5)]), (false, [.int .i64 (ai 7)])], [plC (ai 0) (usG 220 (gA 1) (ai 2) z0), bAr (ai 3) (bA 6) (ai 5)],
  [eqS (tkB (bA 6) (ai 4)) (usY 223 (gA 1) (ai 2) z0), .f2 45 (ai 4) (lenB (usY 223 (gA 1) (ai 2) z0)), eLe (ai 4) (lenB (bA 6)), eLe (ai 4) (ai 5), .f2 45 (ai 7) (usI 213 (gA 1) (ai 2) z0), .f2 50 (eLe (.int 0) (ai 3)) (.f2 45 (ai 4) z0)]⟩
def readCx : Cx := { specs := [], anns := [(15, [(1, .ghost unPC [.tmp 0]), (8, .ghost toLC [.tmp 8]), (10, .iff (.f2 141 (mA 13) (ai 2))), (10, .ghost pbLC []), (999999, .ghost (foPC [.int] [.one (.int .i64 (ai 15))] (usG 220 (gA 1) (ai 15) z0)) [.tmp 0, .tmp 1]), (999999, .ghost emBC [])])] }
-- BEGIN VC cl1
def cl1Vc : VC := (.imp (.f2 47 (.int 0) (.at .int 2)) (.imp (.f2 47 (.at .int 2) (.f1 31 (.at .bytes 4))) (.imp (.f2 47 (.at .int 2) (.at .int 3)) (.imp (.f2 47 (.at
    .int 2) (.int 1099511627776)) (.imp (.f2 50 (.f2 47 (.int 0) (.at .int 0)) (.f2 45 (.at .int 2) (.int 0))) (.and (.imp (.f2 46 (.at .int 0) (.int
    0)) (.need (.f2 155 (.f2 114 (.f1 153 (.int 0)) (.at .int 2)) (.f2 114 (.at .bytes 4) (.at .int 2))) (.need (.f2 45 (.int 0) (.at .int 2)) (.need
    (.f2 47 (.at .int 2) (.int 0)) (.need (.f2 50 (.bool .false) (.f2 45 (.at .int 2) (.int 0))) (.need (.f2 45 (.at .int 2) (.int 0)) .tt)))))) (.imp
    (.f2 47 (.int 0) (.at .int 0)) (.all 6 .int (.imp (.f2 47 (.int 0) (.at .int 6)) (.need (.f2 47 (.f2 42 (.at .int 2) (.int 1)) (.int
    140737488355328)) (.all 7 .int (.all 8 .int (.imp (.f2 47 (.at .int 2) (.at .int 8)) (.imp (.f2 50 (.f2 47 (.int 0) (.at .int 7)) (.f2 45 (.at .int
    2) (.int 0))) (.need (.f2 155 (.f2 114 (.f2 114 (.at .bytes 4) (.at .int 2)) (.at .int 2)) (.f2 114 (.at .bytes 4) (.at .int 2))) (.need (.f2 45
    (.f1 31 (.f2 114 (.at .bytes 4) (.at .int 2))) (.at .int 2)) .tt))))))))))))))))
theorem cl1_vc : vcOf Try.prog cl1Cx 12 19 cl1Ctr = cl1Vc := by kernel_rfl
-- END VC cl1
-- BEGIN VC cl2
def cl2Vc : VC := (.imp (.f2 47 (.int 0) (.at .int 2)) (.imp (.f2 47 (.at .int 2) (.f1 31 (.at .bytes 4))) (.imp (.f2 47 (.at .int 2) (.at .int 3)) (.imp (.f2 47 (.at
    .int 2) (.int 1099511627776)) (.imp (.f2 50 (.f2 47 (.int 0) (.at .int 0)) (.f2 45 (.at .int 2) (.int 0))) (.and (.imp (.f2 46 (.at .int 0) (.int
    0)) (.need (.f2 155 (.f2 114 (.f1 153 (.int 0)) (.at .int 2)) (.f2 114 (.at .bytes 4) (.at .int 2))) (.need (.f2 45 (.int 0) (.at .int 2)) (.need
    (.f2 47 (.at .int 2) (.int 0)) (.need (.f2 50 (.bool .false) (.f2 45 (.at .int 2) (.int 0))) (.need (.f2 45 (.at .int 2) (.int 0)) .tt)))))) (.imp
    (.f2 47 (.int 0) (.at .int 0)) (.all 6 .int (.imp (.f2 47 (.int 0) (.at .int 6)) (.need (.f2 47 (.f2 42 (.at .int 2) (.int 1)) (.int
    140737488355328)) (.all 7 .int (.all 8 .int (.imp (.f2 47 (.at .int 2) (.at .int 8)) (.imp (.f2 50 (.f2 47 (.int 0) (.at .int 7)) (.f2 45 (.at .int
    2) (.int 0))) (.need (.f2 155 (.f2 114 (.f2 114 (.at .bytes 4) (.at .int 2)) (.at .int 2)) (.f2 114 (.at .bytes 4) (.at .int 2))) (.need (.f2 45
    (.f1 31 (.f2 114 (.at .bytes 4) (.at .int 2))) (.at .int 2)) .tt))))))))))))))))
theorem cl2_vc : vcOf Try.prog cl2Cx 12 29 cl2Ctr = cl2Vc := by kernel_rfl
-- END VC cl2
-- BEGIN VC pags
def pagsVc : VC := (.all 2 .int (.all 3 .int (.all 4 .int (.all 5 .int (.all 6 .int (.all 7 .int (.all 8 .int (.all 9 .int (.all 10 .int (.all 11 .rows (.all 12 .amap
    (.all 13 .ints (.imp (.f2 47 (.int 0) (.at .int 5)) (.imp (.f2 47 (.at .int 5) (.f1 32 (.at .rows 11))) (.imp (.f2 45 (.at .int 5) (.us .int 211
    (.at .g 1) (.int 0) (.int 0) (.int 0))) (.imp (.f2 47 (.at .int 5) (.at .int 6)) (.imp (.f2 47 (.int 0) (.at .int 9)) (.imp (.f2 47 (.at .int 9)
    (.f1 30 (.at .ints 13))) (.imp (.f2 153 (.f2 113 (.at .ints 13) (.at .int 9)) (.us .ints 209 (.at .g 1) (.int 0) (.int 0) (.int 0))) (.imp (.us
    .bool 214 (.at .amap 12) (.at .g 1) (.int 0) (.int 0)) (.imp (.us .bool 215 (.at .g 1) (.int 0) (.int 0) (.int 0)) (.imp (.f2 47 (.f1 31 (.us
    .bytes 208 (.at .g 1) (.int 0) (.int 0) (.int 0))) (.at .int 3)) (.imp (.f2 47 (.int 0) (.at .int 2)) (.imp (.us .bool 237 (.at .amap 12) (.int 0)
    (.int 0) (.int 0)) (.need (.f1 2 (.f2 45 (.us .int 200 (.at .g 1) (.int 0) (.int 0) (.int 0)) (.int 0))) (.need (.f1 23 (.f2 43 (.f1 31 (.us .bytes
    208 (.at .g 1) (.int 0) (.int 0) (.int 0))) (.us .int 200 (.at .g 1) (.int 0) (.int 0) (.int 0)))) (.need (.f2 155 (.f2 115 (.at .rows 11) (.at
    .int 5)) (.f2 115 (.at .rows 11) (.at .int 5))) (.need (.us .bool 216 (.at .g 1) (.at .g 1) (.int 0) (.int 0)) (.need (.f2 45 (.us .int 210 (.at .g
    1) (.int 0) (.int 0) (.int 0)) (.f2 43 (.f1 31 (.us .bytes 208 (.at .g 1) (.int 0) (.int 0) (.int 0))) (.us .int 200 (.at .g 1) (.int 0) (.int 0)
    (.int 0)))) .tt)))))))))))))))))))))))))))))
theorem pags_vc : vcOf Try.prog pagsCx 12 20 pagsCtr = pagsVc := by kernel_rfl
-- END VC pags
-- BEGIN VC read
def readVc : VC := (.imp (.f2 47 (.us .int 205 (.at .g 1) (.int 0) (.int 0) (.int 0)) (.int 4611686018427387904)) (.all 3 .int (.all 4 .int (.all 5 .int (.all 6 .int
    (.all 7 .int (.all 8 .int (.all 9 .int (.all 10 .int (.all 11 .int (.all 12 .rows (.all 13 .amap (.all 14 .ints (.imp (.f2 47 (.int 0) (.at .int
    6)) (.imp (.f2 47 (.at .int 6) (.f1 32 (.at .rows 12))) (.imp (.f2 45 (.at .int 6) (.us .int 211 (.at .g 1) (.int 0) (.int 0) (.int 0))) (.imp (.f2
    47 (.at .int 6) (.at .int 7)) (.imp (.f2 47 (.int 0) (.at .int 10)) (.imp (.f2 47 (.at .int 10) (.f1 30 (.at .ints 14))) (.imp (.f2 153 (.f2 113
    (.at .ints 14) (.at .int 10)) (.us .ints 209 (.at .g 1) (.int 0) (.int 0) (.int 0))) (.imp (.us .bool 214 (.at .amap 13) (.at .g 1) (.int 0) (.int
    0)) (.imp (.us .bool 215 (.at .g 1) (.int 0) (.int 0) (.int 0)) (.imp (.f2 47 (.f1 31 (.us .bytes 208 (.at .g 1) (.int 0) (.int 0) (.int 0))) (.at
    .int 4)) (.imp (.f2 47 (.int 0) (.at .int 3)) (.imp (.us .bool 237 (.at .amap 13) (.int 0) (.int 0) (.int 0)) (.and (.imp (.us .bool 201 (.at .g 1)
    (.int 0) (.int 0) (.int 0)) (.need (.f2 155 (.f2 115 (.at .rows 12) (.at .int 6)) (.f2 115 (.at .rows 12) (.at .int 6))) (.need (.f2 153 (.f2 113
    (.at .ints 14) (.at .int 10)) (.us .ints 209 (.us .g 220 (.at .g 1) (.at .int 2) (.int 0) (.int 0)) (.int 0) (.int 0) (.int 0))) (.need (.us .bool
    214 (.at .amap 13) (.us .g 220 (.at .g 1) (.at .int 2) (.int 0) (.int 0)) (.int 0) (.int 0)) (.need (.us .bool 215 (.us .g 220 (.at .g 1) (.at .int
    2) (.int 0) (.int 0)) (.int 0) (.int 0) (.int 0)) (.need (.us .bool 216 (.us .g 220 (.at .g 1) (.at .int 2) (.int 0) (.int 0)) (.at .g 1) (.int 0)
    (.int 0)) (.need (.f2 155 (.us .bytes 208 (.us .g 220 (.at .g 1) (.at .int 2) (.int 0) (.int 0)) (.int 0) (.int 0) (.int 0)) (.us .bytes 208 (.at
    .g 1) (.int 0) (.int 0) (.int 0))) (.need (.f2 45 (.us .int 207 (.us .g 220 (.at .g 1) (.at .int 2) (.int 0) (.int 0)) (.int 0) (.int 0) (.int 0))
    (.us .int 207 (.at .g 1) (.int 0) (.int 0) (.int 0))) (.need (.f2 45 (.us .int 206 (.us .g 220 (.at .g 1) (.at .int 2) (.int 0) (.int 0)) (.int 0)
    (.int 0) (.int 0)) (.us .int 206 (.at .g 1) (.int 0) (.int 0) (.int 0))) (.need (.f2 45 (.us .int 205 (.us .g 220 (.at .g 1) (.at .int 2) (.int 0)
    (.int 0)) (.int 0) (.int 0) (.int 0)) (.us .int 205 (.at .g 1) (.int 0) (.int 0) (.int 0))) (.need (.f2 45 (.us .int 204 (.us .g 220 (.at .g 1)
    (.at .int 2) (.int 0) (.int 0)) (.int 0) (.int 0) (.int 0)) (.us .int 204 (.at .g 1) (.int 0) (.int 0) (.int 0))) (.need (.f2 45 (.us .int 203 (.us
    .g 220 (.at .g 1) (.at .int 2) (.int 0) (.int 0)) (.int 0) (.int 0) (.int 0)) (.us .int 203 (.at .g 1) (.int 0) (.int 0) (.int 0))) (.need (.f2 45
    (.us .int 202 (.us .g 220 (.at .g 1) (.at .int 2) (.int 0) (.int 0)) (.int 0) (.int 0) (.int 0)) (.us .int 202 (.at .g 1) (.int 0) (.int 0) (.int
    0))) (.need (.f2 155 (.us .bool 201 (.us .g 220 (.at .g 1) (.at .int 2) (.int 0) (.int 0)) (.int 0) (.int 0) (.int 0)) (.us .bool 201 (.at .g 1)
    (.int 0) (.int 0) (.int 0))) (.need (.f2 45 (.f1 31 (.us .bytes 208 (.us .g 220 (.at .g 1) (.at .int 2) (.int 0) (.int 0)) (.int 0) (.int 0) (.int
    0))) (.f1 31 (.us .bytes 208 (.at .g 1) (.int 0) (.int 0) (.int 0)))) (.need (.f2 45 (.us .int 200 (.us .g 220 (.at .g 1) (.at .int 2) (.int 0)
    (.int 0)) (.int 0) (.int 0) (.int 0)) (.us .int 200 (.at .g 1) (.int 0) (.int 0) (.int 0))) (.need (.f2 155 (.f1 153 (.int 0)) (.us .bytes 223 (.at
    .g 1) (.at .int 2) (.int 0) (.int 0))) (.need (.f2 45 (.int 0) (.f1 31 (.us .bytes 223 (.at .g 1) (.at .int 2) (.int 0) (.int 0)))) (.need (.f2 45
    (.int 3) (.us .int 213 (.at .g 1) (.at .int 2) (.int 0) (.int 0))) .tt))))))))))))))))))) (.imp (.f1 2 (.us .bool 201 (.at .g 1) (.int 0) (.int 0)
    (.int 0))) (.and (.imp (.f2 47 (.int 0) (.at .int 2)) (.need (.f1 2 (.f2 45 (.us .int 200 (.at .g 1) (.int 0) (.int 0) (.int 0)) (.int 0))) (.need
    (.f1 23 (.f2 43 (.f1 31 (.us .bytes 208 (.at .g 1) (.int 0) (.int 0) (.int 0))) (.us .int 200 (.at .g 1) (.int 0) (.int 0) (.int 0)))) (.and (.imp
    (.f2 47 (.f2 43 (.f1 31 (.us .bytes 208 (.at .g 1) (.int 0) (.int 0) (.int 0))) (.us .int 200 (.at .g 1) (.int 0) (.int 0) (.int 0))) (.at .int 2))
    (.need (.f2 155 (.f2 115 (.at .rows 12) (.at .int 6)) (.f2 115 (.at .rows 12) (.at .int 6))) (.need (.f2 153 (.f2 113 (.at .ints 14) (.at .int 10))
    (.us .ints 209 (.us .g 220 (.at .g 1) (.at .int 2) (.int 0) (.int 0)) (.int 0) (.int 0) (.int 0))) (.need (.us .bool 214 (.at .amap 13) (.us .g 220
    (.at .g 1) (.at .int 2) (.int 0) (.int 0)) (.int 0) (.int 0)) (.need (.us .bool 215 (.us .g 220 (.at .g 1) (.at .int 2) (.int 0) (.int 0)) (.int 0)
    (.int 0) (.int 0)) (.need (.us .bool 216 (.us .g 220 (.at .g 1) (.at .int 2) (.int 0) (.int 0)) (.at .g 1) (.int 0) (.int 0)) (.need (.f2 155 (.us
    .bytes 208 (.us .g 220 (.at .g 1) (.at .int 2) (.int 0) (.int 0)) (.int 0) (.int 0) (.int 0)) (.us .bytes 208 (.at .g 1) (.int 0) (.int 0) (.int
    0))) (.need (.f2 45 (.us .int 207 (.us .g 220 (.at .g 1) (.at .int 2) (.int 0) (.int 0)) (.int 0) (.int 0) (.int 0)) (.us .int 207 (.at .g 1) (.int
    0) (.int 0) (.int 0))) (.need (.f2 45 (.us .int 206 (.us .g 220 (.at .g 1) (.at .int 2) (.int 0) (.int 0)) (.int 0) (.int 0) (.int 0)) (.us .int
    206 (.at .g 1) (.int 0) (.int 0) (.int 0))) (.need (.f2 45 (.us .int 205 (.us .g 220 (.at .g 1) (.at .int 2) (.int 0) (.int 0)) (.int 0) (.int 0)
    (.int 0)) (.us .int 205 (.at .g 1) (.int 0) (.int 0) (.int 0))) (.need (.f2 45 (.us .int 204 (.us .g 220 (.at .g 1) (.at .int 2) (.int 0) (.int 0))
    (.int 0) (.int 0) (.int 0)) (.us .int 204 (.at .g 1) (.int 0) (.int 0) (.int 0))) (.need (.f2 45 (.us .int 203 (.us .g 220 (.at .g 1) (.at .int 2)
    (.int 0) (.int 0)) (.int 0) (.int 0) (.int 0)) (.us .int 203 (.at .g 1) (.int 0) (.int 0) (.int 0))) (.need (.f2 45 (.us .int 202 (.us .g 220 (.at
    .g 1) (.at .int 2) (.int 0) (.int 0)) (.int 0) (.int 0) (.int 0)) (.us .int 202 (.at .g 1) (.int 0) (.int 0) (.int 0))) (.need (.f2 155 (.us .bool
    201 (.us .g 220 (.at .g 1) (.at .int 2) (.int 0) (.int 0)) (.int 0) (.int 0) (.int 0)) (.us .bool 201 (.at .g 1) (.int 0) (.int 0) (.int 0)))
    (.need (.f2 45 (.f1 31 (.us .bytes 208 (.us .g 220 (.at .g 1) (.at .int 2) (.int 0) (.int 0)) (.int 0) (.int 0) (.int 0))) (.f1 31 (.us .bytes 208
    (.at .g 1) (.int 0) (.int 0) (.int 0)))) (.need (.f2 45 (.us .int 200 (.us .g 220 (.at .g 1) (.at .int 2) (.int 0) (.int 0)) (.int 0) (.int 0)
    (.int 0)) (.us .int 200 (.at .g 1) (.int 0) (.int 0) (.int 0))) (.need (.f2 155 (.f1 153 (.int 0)) (.us .bytes 223 (.at .g 1) (.at .int 2) (.int 0)
    (.int 0))) (.need (.f2 45 (.int 0) (.f1 31 (.us .bytes 223 (.at .g 1) (.at .int 2) (.int 0) (.int 0)))) (.need (.f2 45 (.int 30) (.us .int 213 (.at
    .g 1) (.at .int 2) (.int 0) (.int 0))) .tt))))))))))))))))))) (.imp (.f2 46 (.at .int 2) (.f2 43 (.f1 31 (.us .bytes 208 (.at .g 1) (.int 0) (.int
    0) (.int 0))) (.us .int 200 (.at .g 1) (.int 0) (.int 0) (.int 0)))) (.need (.f1 23 (.f2 40 (.us .int 205 (.at .g 1) (.int 0) (.int 0) (.int 0))
    (.int 1))) (.need (.f2 47 (.int 0) (.us .int 200 (.at .g 1) (.int 0) (.int 0) (.int 0))) (.need (.f2 47 (.us .int 200 (.at .g 1) (.int 0) (.int 0)
    (.int 0)) (.us .int 200 (.at .g 1) (.int 0) (.int 0) (.int 0))) (.need (.f2 47 (.f2 42 (.us .int 200 (.at .g 1) (.int 0) (.int 0) (.int 0)) (.int
    1)) (.int 140737488355328)) (.all 15 .int (.imp (.f2 47 (.int 0) (.at .int 15)) (.and (.imp (.f2 141 (.at .amap 13) (.at .int 2)) (.need (.f2 47
    (.int 0) (.f3 140 (.int 0) (.at .amap 13) (.at .int 2))) (.need (.f2 46 (.f3 140 (.int 0) (.at .amap 13) (.at .int 2)) (.at .int 6)) (.all 16
    .bytes (.imp (.f2 47 (.int 0) (.f3 112 (.at .rows 12) (.f3 140 (.int 0) (.at .amap 13) (.at .int 2)) (.int 2))) (.imp (.f2 47 (.f3 112 (.at .rows
    12) (.f3 140 (.int 0) (.at .amap 13) (.at .int 2)) (.int 2)) (.f1 31 (.at .bytes 16))) (.imp (.f2 155 (.f2 114 (.at .bytes 16) (.f3 112 (.at .rows
    12) (.f3 140 (.int 0) (.at .amap 13) (.at .int 2)) (.int 2))) (.us .bytes 212 (.at .g 1) (.f3 140 (.int 0) (.at .amap 13) (.at .int 2)) (.int 0)
    (.int 0))) (.imp (.f2 45 (.f3 112 (.at .rows 12) (.f3 140 (.int 0) (.at .amap 13) (.at .int 2)) (.int 0)) (.us .int 217 (.at .g 1) (.f3 140 (.int
    0) (.at .amap 13) (.at .int 2)) (.int 0) (.int 0))) (.imp (.f2 47 (.f3 112 (.at .rows 12) (.f3 140 (.int 0) (.at .amap 13) (.at .int 2)) (.int 2))
    (.f3 112 (.at .rows 12) (.f3 140 (.int 0) (.at .amap 13) (.at .int 2)) (.int 3))) (.need (.f2 46 (.f3 140 (.int 0) (.at .amap 13) (.at .int 2))
    (.f1 32 (.at .rows 12))) (.need (.f2 155 (.f2 115 (.at .rows 12) (.at .int 6)) (.f2 115 (.at .rows 12) (.at .int 6))) (.need (.f2 153 (.f2 113 (.at
    .ints 14) (.at .int 10)) (.us .ints 209 (.us .g 220 (.at .g 1) (.at .int 2) (.int 0) (.int 0)) (.int 0) (.int 0) (.int 0))) (.need (.us .bool 214
    (.at .amap 13) (.us .g 220 (.at .g 1) (.at .int 2) (.int 0) (.int 0)) (.int 0) (.int 0)) (.need (.us .bool 215 (.us .g 220 (.at .g 1) (.at .int 2)
    (.int 0) (.int 0)) (.int 0) (.int 0) (.int 0)) (.need (.us .bool 216 (.us .g 220 (.at .g 1) (.at .int 2) (.int 0) (.int 0)) (.at .g 1) (.int 0)
    (.int 0)) (.need (.f2 155 (.us .bytes 208 (.us .g 220 (.at .g 1) (.at .int 2) (.int 0) (.int 0)) (.int 0) (.int 0) (.int 0)) (.us .bytes 208 (.at
    .g 1) (.int 0) (.int 0) (.int 0))) (.need (.f2 45 (.us .int 207 (.us .g 220 (.at .g 1) (.at .int 2) (.int 0) (.int 0)) (.int 0) (.int 0) (.int 0))
    (.us .int 207 (.at .g 1) (.int 0) (.int 0) (.int 0))) (.need (.f2 45 (.us .int 206 (.us .g 220 (.at .g 1) (.at .int 2) (.int 0) (.int 0)) (.int 0)
    (.int 0) (.int 0)) (.us .int 206 (.at .g 1) (.int 0) (.int 0) (.int 0))) (.need (.f2 45 (.us .int 205 (.us .g 220 (.at .g 1) (.at .int 2) (.int 0)
    (.int 0)) (.int 0) (.int 0) (.int 0)) (.f2 40 (.us .int 205 (.at .g 1) (.int 0) (.int 0) (.int 0)) (.int 1))) (.need (.f2 45 (.us .int 204 (.us .g
    220 (.at .g 1) (.at .int 2) (.int 0) (.int 0)) (.int 0) (.int 0) (.int 0)) (.us .int 204 (.at .g 1) (.int 0) (.int 0) (.int 0))) (.need (.f2 45
    (.us .int 203 (.us .g 220 (.at .g 1) (.at .int 2) (.int 0) (.int 0)) (.int 0) (.int 0) (.int 0)) (.us .int 203 (.at .g 1) (.int 0) (.int 0) (.int
    0))) (.need (.f2 45 (.us .int 202 (.us .g 220 (.at .g 1) (.at .int 2) (.int 0) (.int 0)) (.int 0) (.int 0) (.int 0)) (.us .int 202 (.at .g 1) (.int
    0) (.int 0) (.int 0))) (.need (.f2 155 (.us .bool 201 (.us .g 220 (.at .g 1) (.at .int 2) (.int 0) (.int 0)) (.int 0) (.int 0) (.int 0)) (.us .bool
    201 (.at .g 1) (.int 0) (.int 0) (.int 0))) (.need (.f2 45 (.f1 31 (.us .bytes 208 (.us .g 220 (.at .g 1) (.at .int 2) (.int 0) (.int 0)) (.int 0)
    (.int 0) (.int 0))) (.f1 31 (.us .bytes 208 (.at .g 1) (.int 0) (.int 0) (.int 0)))) (.need (.f2 45 (.us .int 200 (.us .g 220 (.at .g 1) (.at .int
    2) (.int 0) (.int 0)) (.int 0) (.int 0) (.int 0)) (.us .int 200 (.at .g 1) (.int 0) (.int 0) (.int 0))) (.need (.f2 155 (.f2 114 (.f2 120 (.f2 114
    (.f2 126 (.us .int 200 (.at .g 1) (.int 0) (.int 0) (.int 0)) (.int 0)) (.int 0)) (.f2 120 (.f2 114 (.f2 114 (.at .bytes 16) (.f3 112 (.at .rows
    12) (.f3 140 (.int 0) (.at .amap 13) (.at .int 2)) (.int 2))) (.f2 51 (.f3 112 (.at .rows 12) (.f3 140 (.int 0) (.at .amap 13) (.at .int 2)) (.int
    2)) (.us .int 200 (.at .g 1) (.int 0) (.int 0) (.int 0)))) (.f2 117 (.f2 126 (.us .int 200 (.at .g 1) (.int 0) (.int 0) (.int 0)) (.int 0)) (.f2 51
    (.f3 112 (.at .rows 12) (.f3 140 (.int 0) (.at .amap 13) (.at .int 2)) (.int 2)) (.us .int 200 (.at .g 1) (.int 0) (.int 0) (.int 0)))))) (.us .int
    200 (.at .g 1) (.int 0) (.int 0) (.int 0))) (.us .bytes 223 (.at .g 1) (.at .int 2) (.int 0) (.int 0))) (.need (.f2 45 (.us .int 200 (.at .g 1)
    (.int 0) (.int 0) (.int 0)) (.f1 31 (.us .bytes 223 (.at .g 1) (.at .int 2) (.int 0) (.int 0)))) (.need (.f2 47 (.us .int 200 (.at .g 1) (.int 0)
    (.int 0) (.int 0)) (.f2 40 (.f1 31 (.f2 114 (.f2 126 (.us .int 200 (.at .g 1) (.int 0) (.int 0) (.int 0)) (.int 0)) (.int 0))) (.f2 40 (.f1 31 (.f2
    114 (.f2 114 (.at .bytes 16) (.f3 112 (.at .rows 12) (.f3 140 (.int 0) (.at .amap 13) (.at .int 2)) (.int 2))) (.f2 51 (.f3 112 (.at .rows 12) (.f3
    140 (.int 0) (.at .amap 13) (.at .int 2)) (.int 2)) (.us .int 200 (.at .g 1) (.int 0) (.int 0) (.int 0))))) (.f1 31 (.f2 117 (.f2 126 (.us .int 200
    (.at .g 1) (.int 0) (.int 0) (.int 0)) (.int 0)) (.f2 51 (.f3 112 (.at .rows 12) (.f3 140 (.int 0) (.at .amap 13) (.at .int 2)) (.int 2)) (.us .int
    200 (.at .g 1) (.int 0) (.int 0) (.int 0)))))))) (.need (.f2 45 (.int 0) (.us .int 213 (.at .g 1) (.at .int 2) (.int 0) (.int 0))) (.need (.f2 50
    (.f2 47 (.int 0) (.at .int 15)) (.f2 45 (.us .int 200 (.at .g 1) (.int 0) (.int 0) (.int 0)) (.int 0))) .tt)))))))))))))))))))))))))))))) (.imp
    (.f1 2 (.f2 141 (.at .amap 13) (.at .int 2))) (.need (.f1 23 (.f2 42 (.at .int 2) (.us .int 200 (.at .g 1) (.int 0) (.int 0) (.int 0)))) (.need
    (.f1 23 (.f2 40 (.at .int 2) (.int 1))) (.need (.f1 23 (.f2 42 (.f2 40 (.at .int 2) (.int 1)) (.us .int 200 (.at .g 1) (.int 0) (.int 0) (.int
    0)))) (.need (.f2 47 (.int 0) (.at .int 4)) (.need (.f2 47 (.int 0) (.f2 42 (.at .int 2) (.us .int 200 (.at .g 1) (.int 0) (.int 0) (.int 0))))
    (.need (.f2 47 (.f2 42 (.at .int 2) (.us .int 200 (.at .g 1) (.int 0) (.int 0) (.int 0))) (.f2 42 (.f2 40 (.at .int 2) (.int 1)) (.us .int 200 (.at
    .g 1) (.int 0) (.int 0) (.int 0)))) (.need (.f2 47 (.int 0) (.f2 42 (.f2 40 (.at .int 2) (.int 1)) (.us .int 200 (.at .g 1) (.int 0) (.int 0) (.int
    0)))) (.need (.f2 47 (.f2 42 (.f2 40 (.at .int 2) (.int 1)) (.us .int 200 (.at .g 1) (.int 0) (.int 0) (.int 0))) (.at .int 4)) (.need (.f2 47
    (.int 0) (.f2 41 (.f2 42 (.f2 40 (.at .int 2) (.int 1)) (.us .int 200 (.at .g 1) (.int 0) (.int 0) (.int 0))) (.f2 42 (.at .int 2) (.us .int 200
    (.at .g 1) (.int 0) (.int 0) (.int 0))))) (.need (.f2 47 (.f2 41 (.f2 42 (.f2 40 (.at .int 2) (.int 1)) (.us .int 200 (.at .g 1) (.int 0) (.int 0)
    (.int 0))) (.f2 42 (.at .int 2) (.us .int 200 (.at .g 1) (.int 0) (.int 0) (.int 0)))) (.f2 41 (.at .int 4) (.f2 42 (.at .int 2) (.us .int 200 (.at
    .g 1) (.int 0) (.int 0) (.int 0))))) (.need (.f2 47 (.f2 40 (.f2 42 (.at .int 2) (.us .int 200 (.at .g 1) (.int 0) (.int 0) (.int 0))) (.f2 41 (.f2
    42 (.f2 40 (.at .int 2) (.int 1)) (.us .int 200 (.at .g 1) (.int 0) (.int 0) (.int 0))) (.f2 42 (.at .int 2) (.us .int 200 (.at .g 1) (.int 0)
    (.int 0) (.int 0))))) (.f1 31 (.us .bytes 208 (.at .g 1) (.int 0) (.int 0) (.int 0)))) (.need (.f2 155 (.f2 115 (.at .rows 12) (.at .int 6)) (.f2
    115 (.at .rows 12) (.at .int 6))) (.need (.f2 153 (.f2 113 (.at .ints 14) (.at .int 10)) (.us .ints 209 (.us .g 220 (.at .g 1) (.at .int 2) (.int
    0) (.int 0)) (.int 0) (.int 0) (.int 0))) (.need (.us .bool 214 (.at .amap 13) (.us .g 220 (.at .g 1) (.at .int 2) (.int 0) (.int 0)) (.int 0)
    (.int 0)) (.need (.us .bool 215 (.us .g 220 (.at .g 1) (.at .int 2) (.int 0) (.int 0)) (.int 0) (.int 0) (.int 0)) (.need (.us .bool 216 (.us .g
    220 (.at .g 1) (.at .int 2) (.int 0) (.int 0)) (.at .g 1) (.int 0) (.int 0)) (.need (.f2 155 (.us .bytes 208 (.us .g 220 (.at .g 1) (.at .int 2)
    (.int 0) (.int 0)) (.int 0) (.int 0) (.int 0)) (.us .bytes 208 (.at .g 1) (.int 0) (.int 0) (.int 0))) (.need (.f2 45 (.us .int 207 (.us .g 220
    (.at .g 1) (.at .int 2) (.int 0) (.int 0)) (.int 0) (.int 0) (.int 0)) (.us .int 207 (.at .g 1) (.int 0) (.int 0) (.int 0))) (.need (.f2 45 (.us
    .int 206 (.us .g 220 (.at .g 1) (.at .int 2) (.int 0) (.int 0)) (.int 0) (.int 0) (.int 0)) (.us .int 206 (.at .g 1) (.int 0) (.int 0) (.int 0)))
    (.need (.f2 45 (.us .int 205 (.us .g 220 (.at .g 1) (.at .int 2) (.int 0) (.int 0)) (.int 0) (.int 0) (.int 0)) (.f2 40 (.us .int 205 (.at .g 1)
    (.int 0) (.int 0) (.int 0)) (.int 1))) (.need (.f2 45 (.us .int 204 (.us .g 220 (.at .g 1) (.at .int 2) (.int 0) (.int 0)) (.int 0) (.int 0) (.int
    0)) (.us .int 204 (.at .g 1) (.int 0) (.int 0) (.int 0))) (.need (.f2 45 (.us .int 203 (.us .g 220 (.at .g 1) (.at .int 2) (.int 0) (.int 0)) (.int
    0) (.int 0) (.int 0)) (.us .int 203 (.at .g 1) (.int 0) (.int 0) (.int 0))) (.need (.f2 45 (.us .int 202 (.us .g 220 (.at .g 1) (.at .int 2) (.int
    0) (.int 0)) (.int 0) (.int 0) (.int 0)) (.us .int 202 (.at .g 1) (.int 0) (.int 0) (.int 0))) (.need (.f2 155 (.us .bool 201 (.us .g 220 (.at .g
    1) (.at .int 2) (.int 0) (.int 0)) (.int 0) (.int 0) (.int 0)) (.us .bool 201 (.at .g 1) (.int 0) (.int 0) (.int 0))) (.need (.f2 45 (.f1 31 (.us
    .bytes 208 (.us .g 220 (.at .g 1) (.at .int 2) (.int 0) (.int 0)) (.int 0) (.int 0) (.int 0))) (.f1 31 (.us .bytes 208 (.at .g 1) (.int 0) (.int 0)
    (.int 0)))) (.need (.f2 45 (.us .int 200 (.us .g 220 (.at .g 1) (.at .int 2) (.int 0) (.int 0)) (.int 0) (.int 0) (.int 0)) (.us .int 200 (.at .g
    1) (.int 0) (.int 0) (.int 0))) (.need (.f2 155 (.f2 114 (.f2 120 (.f2 114 (.f2 126 (.us .int 200 (.at .g 1) (.int 0) (.int 0) (.int 0)) (.int 0))
    (.int 0)) (.f2 120 (.f2 114 (.f2 114 (.f2 117 (.us .bytes 208 (.at .g 1) (.int 0) (.int 0) (.int 0)) (.f2 42 (.at .int 2) (.us .int 200 (.at .g 1)
    (.int 0) (.int 0) (.int 0)))) (.f2 41 (.f2 42 (.f2 40 (.at .int 2) (.int 1)) (.us .int 200 (.at .g 1) (.int 0) (.int 0) (.int 0))) (.f2 42 (.at
    .int 2) (.us .int 200 (.at .g 1) (.int 0) (.int 0) (.int 0))))) (.f2 51 (.f2 41 (.f2 42 (.f2 40 (.at .int 2) (.int 1)) (.us .int 200 (.at .g 1)
    (.int 0) (.int 0) (.int 0))) (.f2 42 (.at .int 2) (.us .int 200 (.at .g 1) (.int 0) (.int 0) (.int 0)))) (.us .int 200 (.at .g 1) (.int 0) (.int 0)
    (.int 0)))) (.f2 117 (.f2 126 (.us .int 200 (.at .g 1) (.int 0) (.int 0) (.int 0)) (.int 0)) (.f2 51 (.f2 41 (.f2 42 (.f2 40 (.at .int 2) (.int 1))
    (.us .int 200 (.at .g 1) (.int 0) (.int 0) (.int 0))) (.f2 42 (.at .int 2) (.us .int 200 (.at .g 1) (.int 0) (.int 0) (.int 0)))) (.us .int 200
    (.at .g 1) (.int 0) (.int 0) (.int 0)))))) (.us .int 200 (.at .g 1) (.int 0) (.int 0) (.int 0))) (.us .bytes 223 (.at .g 1) (.at .int 2) (.int 0)
    (.int 0))) (.need (.f2 45 (.us .int 200 (.at .g 1) (.int 0) (.int 0) (.int 0)) (.f1 31 (.us .bytes 223 (.at .g 1) (.at .int 2) (.int 0) (.int 0))))
    (.need (.f2 47 (.us .int 200 (.at .g 1) (.int 0) (.int 0) (.int 0)) (.f2 40 (.f1 31 (.f2 114 (.f2 126 (.us .int 200 (.at .g 1) (.int 0) (.int 0)
    (.int 0)) (.int 0)) (.int 0))) (.f2 40 (.f1 31 (.f2 114 (.f2 114 (.f2 117 (.us .bytes 208 (.at .g 1) (.int 0) (.int 0) (.int 0)) (.f2 42 (.at .int
    2) (.us .int 200 (.at .g 1) (.int 0) (.int 0) (.int 0)))) (.f2 41 (.f2 42 (.f2 40 (.at .int 2) (.int 1)) (.us .int 200 (.at .g 1) (.int 0) (.int 0)
    (.int 0))) (.f2 42 (.at .int 2) (.us .int 200 (.at .g 1) (.int 0) (.int 0) (.int 0))))) (.f2 51 (.f2 41 (.f2 42 (.f2 40 (.at .int 2) (.int 1)) (.us
    .int 200 (.at .g 1) (.int 0) (.int 0) (.int 0))) (.f2 42 (.at .int 2) (.us .int 200 (.at .g 1) (.int 0) (.int 0) (.int 0)))) (.us .int 200 (.at .g
    1) (.int 0) (.int 0) (.int 0))))) (.f1 31 (.f2 117 (.f2 126 (.us .int 200 (.at .g 1) (.int 0) (.int 0) (.int 0)) (.int 0)) (.f2 51 (.f2 41 (.f2 42
    (.f2 40 (.at .int 2) (.int 1)) (.us .int 200 (.at .g 1) (.int 0) (.int 0) (.int 0))) (.f2 42 (.at .int 2) (.us .int 200 (.at .g 1) (.int 0) (.int
    0) (.int 0)))) (.us .int 200 (.at .g 1) (.int 0) (.int 0) (.int 0)))))))) (.need (.f2 45 (.int 0) (.us .int 213 (.at .g 1) (.at .int 2) (.int 0)
    (.int 0))) (.need (.f2 50 (.f2 47 (.int 0) (.at .int 15)) (.f2 45 (.us .int 200 (.at .g 1) (.int 0) (.int 0) (.int 0)) (.int 0)))
    .tt)))))))))))))))))))))))))))))))))))))))))))) (.imp (.f2 46 (.at .int 2) (.int 0)) (.need (.f2 155 (.f2 115 (.at .rows 12) (.at .int 6)) (.f2 115
    (.at .rows 12) (.at .int 6))) (.need (.f2 153 (.f2 113 (.at .ints 14) (.at .int 10)) (.us .ints 209 (.us .g 220 (.at .g 1) (.at .int 2) (.int 0)
    (.int 0)) (.int 0) (.int 0) (.int 0))) (.need (.us .bool 214 (.at .amap 13) (.us .g 220 (.at .g 1) (.at .int 2) (.int 0) (.int 0)) (.int 0) (.int
    0)) (.need (.us .bool 215 (.us .g 220 (.at .g 1) (.at .int 2) (.int 0) (.int 0)) (.int 0) (.int 0) (.int 0)) (.need (.us .bool 216 (.us .g 220 (.at
    .g 1) (.at .int 2) (.int 0) (.int 0)) (.at .g 1) (.int 0) (.int 0)) (.need (.f2 155 (.us .bytes 208 (.us .g 220 (.at .g 1) (.at .int 2) (.int 0)
    (.int 0)) (.int 0) (.int 0) (.int 0)) (.us .bytes 208 (.at .g 1) (.int 0) (.int 0) (.int 0))) (.need (.f2 45 (.us .int 207 (.us .g 220 (.at .g 1)
    (.at .int 2) (.int 0) (.int 0)) (.int 0) (.int 0) (.int 0)) (.us .int 207 (.at .g 1) (.int 0) (.int 0) (.int 0))) (.need (.f2 45 (.us .int 206 (.us
    .g 220 (.at .g 1) (.at .int 2) (.int 0) (.int 0)) (.int 0) (.int 0) (.int 0)) (.us .int 206 (.at .g 1) (.int 0) (.int 0) (.int 0))) (.need (.f2 45
    (.us .int 205 (.us .g 220 (.at .g 1) (.at .int 2) (.int 0) (.int 0)) (.int 0) (.int 0) (.int 0)) (.us .int 205 (.at .g 1) (.int 0) (.int 0) (.int
    0))) (.need (.f2 45 (.us .int 204 (.us .g 220 (.at .g 1) (.at .int 2) (.int 0) (.int 0)) (.int 0) (.int 0) (.int 0)) (.us .int 204 (.at .g 1) (.int
    0) (.int 0) (.int 0))) (.need (.f2 45 (.us .int 203 (.us .g 220 (.at .g 1) (.at .int 2) (.int 0) (.int 0)) (.int 0) (.int 0) (.int 0)) (.us .int
    203 (.at .g 1) (.int 0) (.int 0) (.int 0))) (.need (.f2 45 (.us .int 202 (.us .g 220 (.at .g 1) (.at .int 2) (.int 0) (.int 0)) (.int 0) (.int 0)
    (.int 0)) (.us .int 202 (.at .g 1) (.int 0) (.int 0) (.int 0))) (.need (.f2 155 (.us .bool 201 (.us .g 220 (.at .g 1) (.at .int 2) (.int 0) (.int
    0)) (.int 0) (.int 0) (.int 0)) (.us .bool 201 (.at .g 1) (.int 0) (.int 0) (.int 0))) (.need (.f2 45 (.f1 31 (.us .bytes 208 (.us .g 220 (.at .g
    1) (.at .int 2) (.int 0) (.int 0)) (.int 0) (.int 0) (.int 0))) (.f1 31 (.us .bytes 208 (.at .g 1) (.int 0) (.int 0) (.int 0)))) (.need (.f2 45
    (.us .int 200 (.us .g 220 (.at .g 1) (.at .int 2) (.int 0) (.int 0)) (.int 0) (.int 0) (.int 0)) (.us .int 200 (.at .g 1) (.int 0) (.int 0) (.int
    0))) (.need (.f2 155 (.f1 153 (.int 0)) (.us .bytes 223 (.at .g 1) (.at .int 2) (.int 0) (.int 0))) (.need (.f2 45 (.int 0) (.f1 31 (.us .bytes 223
    (.at .g 1) (.at .int 2) (.int 0) (.int 0)))) (.need (.f2 45 (.int 30) (.us .int 213 (.at .g 1) (.at .int 2) (.int 0) (.int 0)))
    .tt)))))))))))))))))))))))))))))))))))))))))))))))
theorem read_vc : vcOf Try.prog readCx 12 15 readCtr = readVc := by kernel_rfl
-- END VC read
theorem cl1_ok {G : Type} (S : Sig G) : CtrOk S Try.prog 19 cl1Ctr := by
  refine vcOf_sound S (C := cl1Cx) (fuel := 12) (cx_of trivial ⟨⟨⟨by decide, emB_gh S⟩, trivial⟩, trivial⟩ trivial) fun ρ => ?_
  rw [cl1_vc]
  simp only [cl1Vc, VC.den, SX.den, co_int, co_bool, co_bytes, co_ints, co_rows, co_map, Env.upd, p155, p153, p23, p45, p46, p47, p50, b46, b47, t46, t47, p2_45, ap1_2, ap1_30, ap1_31, ap1_32, ap1_152, ap1_153, ap1_154, ap2_40, ap2_41, ap2_42, ap2_43, ap2_45, ap2_51i, ap2_111, ap2_113, ap2_114, ap2_115, ap2_117, ap2_120, ap2_126, ap2_141, ap3_112, ap3_140, beq_iff_eq, Bool.not_eq_true', beq_eq_false_iff_ne, ne_eq, Bool.not_not, U.toProp_bool, U.toBool_bool, i64lo, i64hi, U.toInt_int, U.toInts_ints, U.toBytes_bytes, U.toRows_rows, U.toMap_amap, Int.toNat_zero, Nat.reduceEqDiff, reduceIte, propB_iff, leB_iff, ltB_iff, U.int.injEq, U.bool.injEq, U.bytes.injEq, U.ints.injEq, U.rows.injEq]
  generalize (ρ 4).toBytes = X
  generalize (ρ 2).toInt = l
  generalize (ρ 0).toInt = b
  generalize (ρ 3).toInt = c
  intro h1 h2 h3 h4 h5
  refine ⟨fun hb => ?_, fun hb _ _ => ⟨by omega, fun b' c' h6 h7 => ⟨by rw [List.take_take, Nat.min_self], by rw [List.length_take]; omega, trivial⟩⟩⟩
  have hl : l = 0 := h5.resolve_left (by omega)
  subst hl
  exact ⟨rfl, rfl, Int.le_refl 0, .inr rfl, rfl, trivial⟩
theorem cl2_ok {G : Type} (S : Sig G) : CtrOk S Try.prog 29 cl2Ctr := by
  refine vcOf_sound S (C := cl2Cx) (fuel := 12) (cx_of trivial ⟨⟨⟨by decide, emB_gh S⟩, trivial⟩, trivial⟩ trivial) fun ρ => ?_
  rw [cl2_vc]
  simp only [cl2Vc, VC.den, SX.den, co_int, co_bool, co_bytes, co_ints, co_rows, co_map, Env.upd, p155, p153, p23, p45, p46, p47, p50, b46, b47, t46, t47, p2_45, ap1_2, ap1_30, ap1_31, ap1_32, ap1_152, ap1_153, ap1_154, ap2_40, ap2_41, ap2_42, ap2_43, ap2_45, ap2_51i, ap2_111, ap2_113, ap2_114, ap2_115, ap2_117, ap2_120, ap2_126, ap2_141, ap3_112, ap3_140, beq_iff_eq, Bool.not_eq_true', beq_eq_false_iff_ne, ne_eq, Bool.not_not, U.toProp_bool, U.toBool_bool, i64lo, i64hi, U.toInt_int, U.toInts_ints, U.toBytes_bytes, U.toRows_rows, U.toMap_amap, Int.toNat_zero, Nat.reduceEqDiff, reduceIte, propB_iff, leB_iff, ltB_iff, U.int.injEq, U.bool.injEq, U.bytes.injEq, U.ints.injEq, U.rows.injEq]
  generalize (ρ 4).toBytes = X
  generalize (ρ 2).toInt = l
  generalize (ρ 0).toInt = b
  generalize (ρ 3).toInt = c
  intro h1 h2 h3 h4 h5
  refine ⟨fun hb => ?_, fun hb _ _ => ⟨by omega, fun b' c' h6 h7 => ⟨by rw [List.take_take, Nat.min_self], by rw [List.length_take]; omega, trivial⟩⟩⟩
  have hl : l = 0 := h5.resolve_left (by omega)
  subst hl
  exact ⟨rfl, rfl, Int.le_refl 0, .inr rfl, rfl, trivial⟩
theorem rd_big {d : Dv} (hg : GoodD d) : 0 < d.page ∧ d.page ≤ 65536 ∧ 4 ≤ d.pages ∧ d.pages ≤ 65536 ∧ (d.safe.length : Int) = d.pages * d.page ∧ (d.safe.length : Int) ≤ 67108864 := by
  have h := hg.pages
  have h2 := size_le hg.size
  exact ⟨by omega, by omega, h.1, h.2.1, h.2.2.1, by omega⟩
theorem pags_ok (S : Sig GG) (hS : DvSig S) : CtrOk S Try.prog 20 pagsCtr := by
  refine vcOf_sound S (C := pagsCx) (fuel := 12) (cx_of trivial ⟨⟨⟨by decide, unP_gh S hS⟩, ⟨by decide, foP_gh S hS _ _ _⟩, trivial⟩, trivial⟩ trivial) fun ρ => ?_
  rw [pags_vc]
  simp only [pagsVc, co_g, dvOf_g, hS.u200, hS.u201, hS.u202, hS.u203, hS.u204, hS.u205, hS.u206, hS.u207, hS.u208, hS.u209, hS.u210, hS.u211, hS.u212, hS.u213, hS.u214, hS.u215, hS.u216, hS.u217, hS.u220, hS.u221, hS.u222, hS.u223, hS.u224, hS.u225, hS.u226, hS.u227, hS.u228, hS.u229, VC.den, SX.den, co_int, co_bool, co_bytes, co_ints, co_rows, co_map, Env.upd, p155, p153, p23, p45, p46, p47, p50, b46, b47, t46, t47, p2_45, ap1_2, ap1_30, ap1_31, ap1_32, ap1_152, ap1_153, ap1_154, ap2_40, ap2_41, ap2_42, ap2_43, ap2_45, ap2_51i, ap2_111, ap2_113, ap2_114, ap2_115, ap2_117, ap2_120, ap2_126, ap2_141, ap3_112, ap3_140, beq_iff_eq, Bool.not_eq_true', beq_eq_false_iff_ne, ne_eq, Bool.not_not, U.toProp_bool, U.toBool_bool, i64lo, i64hi, U.toInt_int, U.toInts_ints, U.toBytes_bytes, U.toRows_rows, U.toMap_amap, Int.toNat_zero, Nat.reduceEqDiff, reduceIte, propB_iff, leB_iff, ltB_iff, U.int.injEq, U.bool.injEq, U.bytes.injEq, U.ints.injEq, U.rows.injEq]
  generalize dvOf (U.co S .g (ρ 1)) = d
  intro i2 i3 i4 i5 i6 i7 i8 i9 i10 R11 M12 I13 h1 h2 h3 h4 h5 h6 h7 h8 hg h9 h10 h11
  have hb := rd_big hg
  have hp : (d.safe.length : Int).tdiv d.page = d.pages := rfl
  rw [hp]
  exact ⟨by omega, ⟨by omega, by omega⟩, trivial, trivial, rfl, trivial⟩
theorem ref_down {d : Dv} {n : Int} (h : d.down = true) : d.ref n = 3 := by unfold Dv.ref; rw [h]; rfl
theorem ref_out {d : Dv} {n : Int} (h : d.down = false) (h2 : n < 0 ∨ d.pages ≤ n) : d.ref n = 30 := by unfold Dv.ref; rw [h, if_pos h2]; rfl
theorem ref_in {d : Dv} {n : Int} (h : d.down = false) (h1 : 0 ≤ n) (h2 : n < d.pages) : d.ref n = 0 := by unfold Dv.ref; rw [h, if_neg (by omega)]; rfl
theorem rdD_no {d : Dv} {n : Int} (h : d.ref n ≠ 0) : d.rdD n = d := by unfold Dv.rdD; rw [if_pos h]
theorem rdD_ok {d : Dv} {n : Int} (h : d.ref n = 0) : d.rdD n = { d with rd := d.rd + 1 } := by unfold Dv.rdD; rw [if_neg (by omega)]
theorem rdB_no {d : Dv} {n : Int} (h : d.ref n ≠ 0) : d.rdB n = [] := by unfold Dv.rdB; rw [if_pos h]
theorem rdB_ok {d : Dv} {n : Int} (h : d.ref n = 0) : d.rdB n = d.read n := by unfold Dv.rdB; rw [if_neg (by omega)]
theorem good_rd {d : Dv} (hg : GoodD d) : GoodD { d with rd := d.rd + 1 } := ⟨hg.size, hg.pgs, hg.w, hg.acts, by have := hg.cnt; exact ⟨by show 0 ≤ d.rd + 1; omega, this.2⟩⟩
theorem dat_len {d : Dv} (hg : GoodD d) {i : Int} (h0 : 0 ≤ i) (h1 : i < d.w.length) : ((d.dat i).length : Int) = d.page ∧ 0 ≤ d.pg i ∧ d.pg i < d.pages := by
  have hm : d.w.getD i.toNat (0, []) ∈ d.w := by
    rw [List.getD_eq_getElem?_getD, List.getElem?_eq_getElem (by omega)]; exact List.getElem_mem _
  have := hg.w _ hm
  exact ⟨this.2.2, this.1, this.2.1⟩
theorem place_len {d : Dv} (hg : GoodD d) {n : Int} (h0 : 0 ≤ n) (h1 : n < d.pages) : ((d.place n).length : Int) = d.page := by
  have hb := rd_big hg
  have hi := in_page h0 h1 (Int.le_of_lt hb.1)
  unfold Dv.place
  rw [List.length_take, List.length_drop]; omega
theorem read_len {d : Dv} (hg : GoodD d) {n : Int} (h0 : 0 ≤ n) (h1 : n < d.pages) : ((d.read n).length : Int) = d.page := by
  unfold Dv.read
  split
  · exact (dat_len hg (by assumption) (last_lt d n).2).1
  · exact place_len hg h0 h1
theorem cpy {Y : List UInt8} {k P : Int} {z : UInt8} (hk : k = P) (hy : (Y.length : Int) = P) : ((List.replicate P.toNat z).take 0 ++ (Y.take k.toNat ++ (List.replicate P.toNat z).drop k.toNat)).take P.toNat = Y := by
  subst hk
  rw [List.take_zero, List.nil_append, List.take_of_length_le (l := Y) (by omega), List.drop_of_length_le (by rw [List.length_replicate]; omega), List.append_nil, List.take_of_length_le (by omega)]
theorem cpy_len {Y : List UInt8} {k P : Int} {z : UInt8} (hk : k = P) (hy : (Y.length : Int) = P) : P ≤ (((List.replicate P.toNat z).take 0).length : Int) + (((Y.take k.toNat).length : Nat) + (((List.replicate P.toNat z).drop k.toNat).length : Nat)) := by
  simp only [List.length_take, List.length_drop, List.length_replicate]; omega
set_option maxRecDepth 20000 in
theorem read_ok (S : Sig GG) (hS : DvSig S) : CtrOk S Try.prog 15 readCtr := by
  refine vcOf_sound S (C := readCx) (fuel := 12) (cx_of trivial ⟨⟨⟨by decide, unP_gh S hS⟩, ⟨by decide, toL_gh S hS⟩, trivial, ⟨by decide, pbL_gh S hS⟩, ⟨by decide, foP_gh S hS _ _ _⟩, ⟨by decide, emB_gh S⟩, trivial⟩, trivial⟩ trivial) fun ρ => ?_
  rw [read_vc]
  simp only [readVc, co_g, dvOf_g, hS.u200, hS.u201, hS.u202, hS.u203, hS.u204, hS.u205, hS.u206, hS.u207, hS.u208, hS.u209, hS.u210, hS.u211, hS.u212, hS.u213, hS.u214, hS.u215, hS.u216, hS.u217, hS.u220, hS.u221, hS.u222, hS.u223, hS.u224, hS.u225, hS.u226, hS.u227, hS.u228, hS.u229, VC.den, SX.den, co_int, co_bool, co_bytes, co_ints, co_rows, co_map, Env.upd, p155, p153, p23, p45, p46, p47, p50, b46, b47, t46, t47, p2_45, ap1_2, ap1_30, ap1_31, ap1_32, ap1_152, ap1_153, ap1_154, ap2_40, ap2_41, ap2_42, ap2_43, ap2_45, ap2_51i, ap2_111, ap2_113, ap2_114, ap2_115, ap2_117, ap2_120, ap2_126, ap2_141, ap3_112, ap3_140, beq_iff_eq, Bool.not_eq_true', beq_eq_false_iff_ne, ne_eq, Bool.not_not, U.toProp_bool, U.toBool_bool, i64lo, i64hi, U.toInt_int, U.toInts_ints, U.toBytes_bytes, U.toRows_rows, U.toMap_amap, Int.toNat_zero, Nat.reduceEqDiff, reduceIte, propB_iff, leB_iff, ltB_iff, U.int.injEq, U.bool.injEq, U.bytes.injEq, U.ints.injEq, U.rows.injEq]
  generalize dvOf (U.co S .g (ρ 1)) = d
  generalize (ρ 2).toInt = n
  intro h0 i3 i4 i5 i6 i7 i8 i9 i10 i11 R12 M13 I14 h1 h2 h3 h4 h5 h6 h7 h8 hg h9 h10 h11
  have hb := rd_big hg
  have hp : (d.safe.length : Int).tdiv d.page = d.pages := rfl
  have hc := hg.cnt
  rw [hp]
  have hno : d.ref n ≠ 0 → d.rdD n = d ∧ d.rdB n = [] := fun h => ⟨rdD_no h, rdB_no h⟩
  cases hd : d.down
  · refine ⟨fun h => by simp at h, fun _ => ⟨fun hn0 => ?_, fun hn0 => ?_⟩⟩
    · refine ⟨by omega, ⟨by omega, by omega⟩, fun hout => ?_, fun hin => ?_⟩
      · have hr := ref_out (n := n) hd (.inr hout)
        obtain ⟨e1, e2⟩ := hno (by rw [hr]; decide)
        rw [e1, e2, hr]
        refine ⟨trivial, h7, h8, hg, rfl, rfl, rfl, rfl, rfl, rfl, rfl, rfl, hd, rfl, rfl, rfl, by decide, rfl, trivial⟩
      · have hr := ref_in hd hn0 hin
        have hrl := read_len hg hn0 hin
        have hpp := in_page hn0 hin (Int.le_of_lt hb.1)
        have hm1 : (n + 1) * d.page = n * d.page + d.page := by rw [Int.add_mul, Int.one_mul]
        rw [rdD_ok hr, rdB_ok hr, hr]
        have hla := last_has h8.1 h8.2 n
        have hll := last_lt d n
        refine ⟨⟨by omega, by omega⟩, by omega, by omega, by omega, fun b hb0 => ⟨fun hm => ?_, fun hm => ?_⟩⟩
        · have hl0 := hla.1.1 hm
          rw [hla.2 hm]
          have hdl := (dat_len hg hl0 hll.2).1
          have hrd : d.read n = d.dat (d.last n) := by unfold Dv.read; rw [if_pos hl0]
          refine ⟨by omega, by omega, fun B16 q0 q1 q2 q3 q4 => ?_⟩
          have hq : ((R12.getD (d.last n).toNat []).getD (Int.toNat 2) 0) = d.page := by
            rw [← hdl, ← q2, List.length_take]; omega
          rw [q2, hq, imin_left (Int.le_refl _)]
          refine ⟨by omega, trivial, h7, h8, good_rd hg, rfl, rfl, rfl, rfl, rfl, rfl, rfl, rfl, hd, rfl, rfl, ?_, ?_, ?_, rfl, .inl hb0, trivial⟩
          · rw [hrd]; exact cpy rfl hdl
          · rw [hrl]
          · exact cpy_len rfl hdl
        · have hl0 : ¬ 0 ≤ d.last n := fun h => by rw [hla.1.2 h] at hm; cases hm
          have hrd : d.read n = d.place n := by unfold Dv.read; rw [if_neg hl0]
          have hpl := place_len hg hn0 hin
          have hw : (n + 1) * d.page - n * d.page = d.page := by omega
          rw [hw, imin_left (Int.le_refl _), hm1]
          have e : (d.safe.drop (n * d.page).toNat).take d.page.toNat = d.place n := rfl
          rw [e]
          refine ⟨⟨by omega, by omega⟩, ⟨by omega, by omega⟩, ⟨by omega, by omega⟩, by omega, by omega, by omega, by omega, by omega, by omega, by omega, by omega, trivial, h7, h8, good_rd hg, rfl, rfl, rfl, rfl, rfl, rfl, rfl, rfl, hd, rfl, rfl, ?_, ?_, ?_, rfl, .inl hb0, trivial⟩
          · rw [hrd]; exact cpy rfl hpl
          · rw [hrl]
          · exact cpy_len rfl hpl
    · have hr := ref_out (n := n) hd (.inl hn0)
      obtain ⟨e1, e2⟩ := hno (by rw [hr]; decide)
      rw [e1, e2, hr]
      refine ⟨trivial, h7, h8, hg, rfl, rfl, rfl, rfl, rfl, rfl, rfl, rfl, hd, rfl, rfl, rfl, by decide, rfl, trivial⟩
  · have hr := ref_down (n := n) hd
    obtain ⟨e1, e2⟩ := hno (by rw [hr]; decide)
    rw [e1, e2, hr]
    refine ⟨fun _ => ⟨trivial, h7, h8, hg, rfl, rfl, rfl, rfl, rfl, rfl, rfl, rfl, hd, rfl, rfl, rfl, by decide, rfl, trivial⟩, fun h => by simp at h⟩
end
end Go.Proofs.Ytlcfjjjdhdfbdaa

/- A device's calls that change it: a fall of the power, Write. -/
set_option linter.unusedSimpArgs false
set_option linter.unusedVariables false
namespace Go.Proofs.Ytlcfjjjdhdfbdaa
noncomputable section
open Go.Eng
/-- Does a list of numbers hold one? -/
def conCtr : Ctr := ⟨[.int, .ints, .int, .int, .int, .int], [.one (sl1 (ai 0) (ai 2) (ai 3)), .one (.int .i64 (ai 5))], [iAr (ai 0) (iA 1) (ai 4)], [eLe (.int 0) (ai 2), eLe (ai 2) (lenI (iA 1)), eLe (ai 2) (.int 140737488355328)], [.bool], .one (.bool (qA 6)), [iAr (ai 0) (iA 1) (ai 4)], [.f2 48 (qA 6) (usB 231 (iA 1) (ai 2) (ai 5))]⟩
def conI : Inv := ⟨[.int], [(8, .one (.int .i64 (di 0)))], [], [eLe (.int 0) (di 0), eLe (di 0) (ai 2), .f1 2 (usB 231 (iA 1) (di 0) (ai 5))], .f2 41 (ai 2) (di 0)⟩
def conCx : Cx := { specs := [], anns := [(56, [(2, .inv conI)])] }
-- atoms of falls: 0 block, 1 g, 2..13 as opened
def faC : List Ch := .cel (ai 0) 0 (celP (gA 1)) :: arrP (gA 1) ++ [lsC (ai 5) (rA 11) (gA 1)]
def fallCtr : Ctr := ⟨[.int, .g, .int, .int, .int, .int, .int, .int, .int, .int, .int, .rows, .amap, .ints], [.one (.ptr (ai 0) 0), .agg [sl1 (ai 8) (ai 9) (ai 10), .int .i64 (usI 203 (gA 1) z0 z0), .int .i64 (usI 204 (gA 1) z0 z0)]], faC,
  [eLe (.int 0) (ai 5), eLe (ai 5) (lenR (rA 11)), .f2 45 (ai 5) (usI 211 (gA 1) z0 z0), eLe (ai 5) big62, eLe (.int 0) (ai 9), eLe (ai 9) (lenI (iA 13)), eLe (ai 9) (.int 140737488355328), .f2 153 (tkI (iA 13) (ai 9)) (usN 209 (gA 1) z0 z0), usB 215 (gA 1) z0 z0, eLe (lenB (sfX (gA 1))) (ai 3)], [], .tup [], [plC (ai 0) (usG 225 (gA 1) z0 z0)], []⟩
def fallI : Inv := ⟨[.int, .bytes], [(11, .one (.int .i64 (di 0)))], [bAr (ai 2) (bA 1000001) (ai 3)], [eLe (.int 0) (di 0), eLe (di 0) (ai 5), eqS (bA 1000001) (usY 226 (gA 1) (di 0) z0), .f2 45 (lenB (bA 1000001)) (lenB (sfX (gA 1)))], .f2 41 (ai 5) (di 0)⟩
def fallCx : Cx := { specs := [(43, [conCtr])], anns := [(39, [(2, .inv fallI), (4, .ghost toLC [.tmp 4]), (8, .ghost pbLC []), (9, .ghost (noLC 225) []), (999999, .ghost (foPC [] [] (gA 1)) [.tmp 0])])] }
-- BEGIN VC con
def conVc : VC := (.imp (.f2 47 (.int 0) (.at .int 2)) (.imp (.f2 47 (.at .int 2) (.f1 30 (.at .ints 1))) (.imp (.f2 47 (.at .int 2) (.int 140737488355328)) (.need (.f1
    2 (.us .bool 231 (.at .ints 1) (.int 0) (.at .int 5) (.int 0))) (.all 6 .int (.imp (.f2 47 (.int 0) (.at .int 6)) (.imp (.f2 47 (.at .int 6) (.at
    .int 2)) (.imp (.f1 2 (.us .bool 231 (.at .ints 1) (.at .int 6) (.at .int 5) (.int 0))) (.and (.imp (.f2 46 (.at .int 6) (.at .int 2)) (.need (.f2
    46 (.at .int 6) (.f1 30 (.at .ints 1))) (.and (.imp (.f2 45 (.at .int 5) (.f2 110 (.at .ints 1) (.at .int 6))) (.need (.f2 48 (.f2 47 (.int 0) (.at
    .int 6)) (.us .bool 231 (.at .ints 1) (.at .int 2) (.at .int 5) (.int 0))) .tt)) (.imp (.f1 2 (.f2 45 (.at .int 5) (.f2 110 (.at .ints 1) (.at .int
    6)))) (.need (.f1 23 (.f2 40 (.at .int 6) (.int 1))) (.need (.f2 47 (.int 0) (.f2 41 (.at .int 2) (.f2 40 (.at .int 6) (.int 1)))) (.need (.f2 46
    (.f2 41 (.at .int 2) (.f2 40 (.at .int 6) (.int 1))) (.f2 41 (.at .int 2) (.at .int 6))) (.need (.f2 47 (.int 0) (.f2 40 (.at .int 6) (.int 1)))
    (.need (.f2 47 (.f2 40 (.at .int 6) (.int 1)) (.at .int 2)) (.need (.f1 2 (.us .bool 231 (.at .ints 1) (.f2 40 (.at .int 6) (.int 1)) (.at .int 5)
    (.int 0))) .tt)))))))))) (.imp (.f2 47 (.at .int 2) (.at .int 6)) (.need (.f2 48 (.bool .false) (.us .bool 231 (.at .ints 1) (.at .int 2) (.at .int
    5) (.int 0))) .tt)))))))))))
theorem con_vc : vcOf Try.prog conCx 12 43 conCtr = conVc := by kernel_rfl
-- END VC con
-- BEGIN VC fall
def fallVc : VC := (.imp (.f2 47 (.int 0) (.at .int 5)) (.imp (.f2 47 (.at .int 5) (.f1 32 (.at .rows 11))) (.imp (.f2 45 (.at .int 5) (.us .int 211 (.at .g 1) (.int 0)
    (.int 0) (.int 0))) (.imp (.f2 47 (.at .int 5) (.int 4611686018427387904)) (.imp (.f2 47 (.int 0) (.at .int 9)) (.imp (.f2 47 (.at .int 9) (.f1 30
    (.at .ints 13))) (.imp (.f2 47 (.at .int 9) (.int 140737488355328)) (.imp (.f2 153 (.f2 113 (.at .ints 13) (.at .int 9)) (.us .ints 209 (.at .g 1)
    (.int 0) (.int 0) (.int 0))) (.imp (.us .bool 215 (.at .g 1) (.int 0) (.int 0) (.int 0)) (.imp (.f2 47 (.f1 31 (.us .bytes 208 (.at .g 1) (.int 0)
    (.int 0) (.int 0))) (.at .int 3)) (.all 14 .int (.imp (.f2 47 (.int 0) (.at .int 14)) (.need (.f2 155 (.us .bytes 208 (.at .g 1) (.int 0) (.int 0)
    (.int 0)) (.us .bytes 226 (.at .g 1) (.int 0) (.int 0) (.int 0))) (.need (.f2 45 (.f1 31 (.us .bytes 208 (.at .g 1) (.int 0) (.int 0) (.int 0)))
    (.f1 31 (.us .bytes 208 (.at .g 1) (.int 0) (.int 0) (.int 0)))) (.all 15 .int (.all 16 .bytes (.imp (.f2 47 (.int 0) (.at .int 15)) (.imp (.f2 47
    (.at .int 15) (.at .int 5)) (.imp (.f2 155 (.at .bytes 16) (.us .bytes 226 (.at .g 1) (.at .int 15) (.int 0) (.int 0))) (.imp (.f2 45 (.f1 31 (.at
    .bytes 16)) (.f1 31 (.us .bytes 208 (.at .g 1) (.int 0) (.int 0) (.int 0)))) (.and (.imp (.f2 46 (.at .int 15) (.at .int 5)) (.need (.f2 46 (.at
    .int 15) (.f1 32 (.at .rows 11))) (.all 17 .int (.imp (.f2 47 (.int 0) (.at .int 17)) (.all 18 .bytes (.imp (.f2 47 (.int 0) (.f3 112 (.at .rows
    11) (.at .int 15) (.int 2))) (.imp (.f2 47 (.f3 112 (.at .rows 11) (.at .int 15) (.int 2)) (.f1 31 (.at .bytes 18))) (.imp (.f2 155 (.f2 114 (.at
    .bytes 18) (.f3 112 (.at .rows 11) (.at .int 15) (.int 2))) (.us .bytes 212 (.at .g 1) (.at .int 15) (.int 0) (.int 0))) (.imp (.f2 45 (.f3 112
    (.at .rows 11) (.at .int 15) (.int 0)) (.us .int 217 (.at .g 1) (.at .int 15) (.int 0) (.int 0))) (.imp (.f2 47 (.f3 112 (.at .rows 11) (.at .int
    15) (.int 2)) (.f3 112 (.at .rows 11) (.at .int 15) (.int 3))) (.and (.imp (.f2 45 (.at .int 15) (.us .int 203 (.at .g 1) (.int 0) (.int 0) (.int
    0))) (.need (.f2 47 (.int 0) (.f3 112 (.at .rows 11) (.at .int 15) (.int 3))) (.need (.f2 47 (.int 0) (.f2 51 (.f2 52 (.us .int 204 (.at .g 1)
    (.int 0) (.int 0) (.int 0)) (.int 0)) (.us .int 200 (.at .g 1) (.int 0) (.int 0) (.int 0)))) (.need (.f2 47 (.f2 51 (.f2 52 (.us .int 204 (.at .g
    1) (.int 0) (.int 0) (.int 0)) (.int 0)) (.us .int 200 (.at .g 1) (.int 0) (.int 0) (.int 0))) (.f3 112 (.at .rows 11) (.at .int 15) (.int 3)))
    (.need (.f1 23 (.f2 42 (.f3 112 (.at .rows 11) (.at .int 15) (.int 0)) (.us .int 200 (.at .g 1) (.int 0) (.int 0) (.int 0)))) (.need (.f1 23 (.f2
    40 (.f3 112 (.at .rows 11) (.at .int 15) (.int 0)) (.int 1))) (.need (.f1 23 (.f2 42 (.f2 40 (.f3 112 (.at .rows 11) (.at .int 15) (.int 0)) (.int
    1)) (.us .int 200 (.at .g 1) (.int 0) (.int 0) (.int 0)))) (.need (.f2 47 (.int 0) (.at .int 3)) (.need (.f2 47 (.int 0) (.f2 42 (.f3 112 (.at
    .rows 11) (.at .int 15) (.int 0)) (.us .int 200 (.at .g 1) (.int 0) (.int 0) (.int 0)))) (.need (.f2 47 (.f2 42 (.f3 112 (.at .rows 11) (.at .int
    15) (.int 0)) (.us .int 200 (.at .g 1) (.int 0) (.int 0) (.int 0))) (.f2 42 (.f2 40 (.f3 112 (.at .rows 11) (.at .int 15) (.int 0)) (.int 1)) (.us
    .int 200 (.at .g 1) (.int 0) (.int 0) (.int 0)))) (.need (.f2 47 (.int 0) (.f2 42 (.f2 40 (.f3 112 (.at .rows 11) (.at .int 15) (.int 0)) (.int 1))
    (.us .int 200 (.at .g 1) (.int 0) (.int 0) (.int 0)))) (.need (.f2 47 (.f2 42 (.f2 40 (.f3 112 (.at .rows 11) (.at .int 15) (.int 0)) (.int 1))
    (.us .int 200 (.at .g 1) (.int 0) (.int 0) (.int 0))) (.at .int 3)) (.need (.f2 47 (.int 0) (.f2 41 (.f2 42 (.f2 40 (.f3 112 (.at .rows 11) (.at
    .int 15) (.int 0)) (.int 1)) (.us .int 200 (.at .g 1) (.int 0) (.int 0) (.int 0))) (.f2 42 (.f3 112 (.at .rows 11) (.at .int 15) (.int 0)) (.us
    .int 200 (.at .g 1) (.int 0) (.int 0) (.int 0))))) (.need (.f2 47 (.f2 41 (.f2 42 (.f2 40 (.f3 112 (.at .rows 11) (.at .int 15) (.int 0)) (.int 1))
    (.us .int 200 (.at .g 1) (.int 0) (.int 0) (.int 0))) (.f2 42 (.f3 112 (.at .rows 11) (.at .int 15) (.int 0)) (.us .int 200 (.at .g 1) (.int 0)
    (.int 0) (.int 0)))) (.f2 41 (.at .int 3) (.f2 42 (.f3 112 (.at .rows 11) (.at .int 15) (.int 0)) (.us .int 200 (.at .g 1) (.int 0) (.int 0) (.int
    0))))) (.need (.f2 47 (.f2 42 (.f3 112 (.at .rows 11) (.at .int 15) (.int 0)) (.us .int 200 (.at .g 1) (.int 0) (.int 0) (.int 0))) (.f1 31 (.at
    .bytes 16))) (.need (.f2 47 (.f2 40 (.f2 42 (.f3 112 (.at .rows 11) (.at .int 15) (.int 0)) (.us .int 200 (.at .g 1) (.int 0) (.int 0) (.int 0)))
    (.f2 41 (.f2 42 (.f2 40 (.f3 112 (.at .rows 11) (.at .int 15) (.int 0)) (.int 1)) (.us .int 200 (.at .g 1) (.int 0) (.int 0) (.int 0))) (.f2 42
    (.f3 112 (.at .rows 11) (.at .int 15) (.int 0)) (.us .int 200 (.at .g 1) (.int 0) (.int 0) (.int 0))))) (.at .int 3)) (.need (.f2 47 (.f2 51 (.f2
    52 (.us .int 204 (.at .g 1) (.int 0) (.int 0) (.int 0)) (.int 0)) (.us .int 200 (.at .g 1) (.int 0) (.int 0) (.int 0))) (.f1 31 (.at .bytes 18)))
    (.need (.f1 23 (.f2 40 (.at .int 15) (.int 1))) (.need (.f2 47 (.int 0) (.f2 41 (.at .int 5) (.f2 40 (.at .int 15) (.int 1)))) (.need (.f2 46 (.f2
    41 (.at .int 5) (.f2 40 (.at .int 15) (.int 1))) (.f2 41 (.at .int 5) (.at .int 15))) (.need (.f2 47 (.int 0) (.f2 40 (.at .int 15) (.int 1)))
    (.need (.f2 47 (.f2 40 (.at .int 15) (.int 1)) (.at .int 5)) (.need (.f2 155 (.f2 120 (.f2 114 (.at .bytes 16) (.f2 42 (.f3 112 (.at .rows 11) (.at
    .int 15) (.int 0)) (.us .int 200 (.at .g 1) (.int 0) (.int 0) (.int 0)))) (.f2 120 (.f2 114 (.f2 114 (.at .bytes 18) (.f2 51 (.f2 52 (.us .int 204
    (.at .g 1) (.int 0) (.int 0) (.int 0)) (.int 0)) (.us .int 200 (.at .g 1) (.int 0) (.int 0) (.int 0)))) (.f2 51 (.f2 51 (.f2 52 (.us .int 204 (.at
    .g 1) (.int 0) (.int 0) (.int 0)) (.int 0)) (.us .int 200 (.at .g 1) (.int 0) (.int 0) (.int 0))) (.f2 41 (.f2 42 (.f2 40 (.f3 112 (.at .rows 11)
    (.at .int 15) (.int 0)) (.int 1)) (.us .int 200 (.at .g 1) (.int 0) (.int 0) (.int 0))) (.f2 42 (.f3 112 (.at .rows 11) (.at .int 15) (.int 0))
    (.us .int 200 (.at .g 1) (.int 0) (.int 0) (.int 0)))))) (.f2 117 (.at .bytes 16) (.f2 40 (.f2 42 (.f3 112 (.at .rows 11) (.at .int 15) (.int 0))
    (.us .int 200 (.at .g 1) (.int 0) (.int 0) (.int 0))) (.f2 51 (.f2 51 (.f2 52 (.us .int 204 (.at .g 1) (.int 0) (.int 0) (.int 0)) (.int 0)) (.us
    .int 200 (.at .g 1) (.int 0) (.int 0) (.int 0))) (.f2 41 (.f2 42 (.f2 40 (.f3 112 (.at .rows 11) (.at .int 15) (.int 0)) (.int 1)) (.us .int 200
    (.at .g 1) (.int 0) (.int 0) (.int 0))) (.f2 42 (.f3 112 (.at .rows 11) (.at .int 15) (.int 0)) (.us .int 200 (.at .g 1) (.int 0) (.int 0) (.int
    0))))))))) (.us .bytes 226 (.at .g 1) (.f2 40 (.at .int 15) (.int 1)) (.int 0) (.int 0))) (.need (.f2 45 (.f2 40 (.f1 31 (.f2 114 (.at .bytes 16)
    (.f2 42 (.f3 112 (.at .rows 11) (.at .int 15) (.int 0)) (.us .int 200 (.at .g 1) (.int 0) (.int 0) (.int 0))))) (.f2 40 (.f1 31 (.f2 114 (.f2 114
    (.at .bytes 18) (.f2 51 (.f2 52 (.us .int 204 (.at .g 1) (.int 0) (.int 0) (.int 0)) (.int 0)) (.us .int 200 (.at .g 1) (.int 0) (.int 0) (.int
    0)))) (.f2 51 (.f2 51 (.f2 52 (.us .int 204 (.at .g 1) (.int 0) (.int 0) (.int 0)) (.int 0)) (.us .int 200 (.at .g 1) (.int 0) (.int 0) (.int 0)))
    (.f2 41 (.f2 42 (.f2 40 (.f3 112 (.at .rows 11) (.at .int 15) (.int 0)) (.int 1)) (.us .int 200 (.at .g 1) (.int 0) (.int 0) (.int 0))) (.f2 42
    (.f3 112 (.at .rows 11) (.at .int 15) (.int 0)) (.us .int 200 (.at .g 1) (.int 0) (.int 0) (.int 0))))))) (.f1 31 (.f2 117 (.at .bytes 16) (.f2 40
    (.f2 42 (.f3 112 (.at .rows 11) (.at .int 15) (.int 0)) (.us .int 200 (.at .g 1) (.int 0) (.int 0) (.int 0))) (.f2 51 (.f2 51 (.f2 52 (.us .int 204
    (.at .g 1) (.int 0) (.int 0) (.int 0)) (.int 0)) (.us .int 200 (.at .g 1) (.int 0) (.int 0) (.int 0))) (.f2 41 (.f2 42 (.f2 40 (.f3 112 (.at .rows
    11) (.at .int 15) (.int 0)) (.int 1)) (.us .int 200 (.at .g 1) (.int 0) (.int 0) (.int 0))) (.f2 42 (.f3 112 (.at .rows 11) (.at .int 15) (.int 0))
    (.us .int 200 (.at .g 1) (.int 0) (.int 0) (.int 0)))))))))) (.f1 31 (.us .bytes 208 (.at .g 1) (.int 0) (.int 0) (.int 0))))
    .tt)))))))))))))))))))))))) (.imp (.f1 2 (.f2 45 (.at .int 15) (.us .int 203 (.at .g 1) (.int 0) (.int 0) (.int 0)))) (.all 19 .bool (.imp (.f2 48
    (.at .bool 19) (.us .bool 231 (.at .ints 13) (.at .int 9) (.at .int 15) (.int 0))) (.and (.imp (.at .bool 19) (.need (.f1 23 (.f2 42 (.f3 112 (.at
    .rows 11) (.at .int 15) (.int 0)) (.us .int 200 (.at .g 1) (.int 0) (.int 0) (.int 0)))) (.need (.f1 23 (.f2 40 (.f3 112 (.at .rows 11) (.at .int
    15) (.int 0)) (.int 1))) (.need (.f1 23 (.f2 42 (.f2 40 (.f3 112 (.at .rows 11) (.at .int 15) (.int 0)) (.int 1)) (.us .int 200 (.at .g 1) (.int 0)
    (.int 0) (.int 0)))) (.need (.f2 47 (.int 0) (.at .int 3)) (.need (.f2 47 (.int 0) (.f2 42 (.f3 112 (.at .rows 11) (.at .int 15) (.int 0)) (.us
    .int 200 (.at .g 1) (.int 0) (.int 0) (.int 0)))) (.need (.f2 47 (.f2 42 (.f3 112 (.at .rows 11) (.at .int 15) (.int 0)) (.us .int 200 (.at .g 1)
    (.int 0) (.int 0) (.int 0))) (.f2 42 (.f2 40 (.f3 112 (.at .rows 11) (.at .int 15) (.int 0)) (.int 1)) (.us .int 200 (.at .g 1) (.int 0) (.int 0)
    (.int 0)))) (.need (.f2 47 (.int 0) (.f2 42 (.f2 40 (.f3 112 (.at .rows 11) (.at .int 15) (.int 0)) (.int 1)) (.us .int 200 (.at .g 1) (.int 0)
    (.int 0) (.int 0)))) (.need (.f2 47 (.f2 42 (.f2 40 (.f3 112 (.at .rows 11) (.at .int 15) (.int 0)) (.int 1)) (.us .int 200 (.at .g 1) (.int 0)
    (.int 0) (.int 0))) (.at .int 3)) (.need (.f2 47 (.int 0) (.f2 41 (.f2 42 (.f2 40 (.f3 112 (.at .rows 11) (.at .int 15) (.int 0)) (.int 1)) (.us
    .int 200 (.at .g 1) (.int 0) (.int 0) (.int 0))) (.f2 42 (.f3 112 (.at .rows 11) (.at .int 15) (.int 0)) (.us .int 200 (.at .g 1) (.int 0) (.int 0)
    (.int 0))))) (.need (.f2 47 (.f2 41 (.f2 42 (.f2 40 (.f3 112 (.at .rows 11) (.at .int 15) (.int 0)) (.int 1)) (.us .int 200 (.at .g 1) (.int 0)
    (.int 0) (.int 0))) (.f2 42 (.f3 112 (.at .rows 11) (.at .int 15) (.int 0)) (.us .int 200 (.at .g 1) (.int 0) (.int 0) (.int 0)))) (.f2 41 (.at
    .int 3) (.f2 42 (.f3 112 (.at .rows 11) (.at .int 15) (.int 0)) (.us .int 200 (.at .g 1) (.int 0) (.int 0) (.int 0))))) (.need (.f2 47 (.f2 42 (.f3
    112 (.at .rows 11) (.at .int 15) (.int 0)) (.us .int 200 (.at .g 1) (.int 0) (.int 0) (.int 0))) (.f1 31 (.at .bytes 16))) (.need (.f2 47 (.f2 40
    (.f2 42 (.f3 112 (.at .rows 11) (.at .int 15) (.int 0)) (.us .int 200 (.at .g 1) (.int 0) (.int 0) (.int 0))) (.f2 41 (.f2 42 (.f2 40 (.f3 112 (.at
    .rows 11) (.at .int 15) (.int 0)) (.int 1)) (.us .int 200 (.at .g 1) (.int 0) (.int 0) (.int 0))) (.f2 42 (.f3 112 (.at .rows 11) (.at .int 15)
    (.int 0)) (.us .int 200 (.at .g 1) (.int 0) (.int 0) (.int 0))))) (.at .int 3)) (.need (.f1 23 (.f2 40 (.at .int 15) (.int 1))) (.need (.f2 47
    (.int 0) (.f2 41 (.at .int 5) (.f2 40 (.at .int 15) (.int 1)))) (.need (.f2 46 (.f2 41 (.at .int 5) (.f2 40 (.at .int 15) (.int 1))) (.f2 41 (.at
    .int 5) (.at .int 15))) (.need (.f2 47 (.int 0) (.f2 40 (.at .int 15) (.int 1))) (.need (.f2 47 (.f2 40 (.at .int 15) (.int 1)) (.at .int 5))
    (.need (.f2 155 (.f2 120 (.f2 114 (.at .bytes 16) (.f2 42 (.f3 112 (.at .rows 11) (.at .int 15) (.int 0)) (.us .int 200 (.at .g 1) (.int 0) (.int
    0) (.int 0)))) (.f2 120 (.f2 114 (.f2 114 (.at .bytes 18) (.f3 112 (.at .rows 11) (.at .int 15) (.int 2))) (.f2 51 (.f3 112 (.at .rows 11) (.at
    .int 15) (.int 2)) (.f2 41 (.f2 42 (.f2 40 (.f3 112 (.at .rows 11) (.at .int 15) (.int 0)) (.int 1)) (.us .int 200 (.at .g 1) (.int 0) (.int 0)
    (.int 0))) (.f2 42 (.f3 112 (.at .rows 11) (.at .int 15) (.int 0)) (.us .int 200 (.at .g 1) (.int 0) (.int 0) (.int 0)))))) (.f2 117 (.at .bytes
    16) (.f2 40 (.f2 42 (.f3 112 (.at .rows 11) (.at .int 15) (.int 0)) (.us .int 200 (.at .g 1) (.int 0) (.int 0) (.int 0))) (.f2 51 (.f3 112 (.at
    .rows 11) (.at .int 15) (.int 2)) (.f2 41 (.f2 42 (.f2 40 (.f3 112 (.at .rows 11) (.at .int 15) (.int 0)) (.int 1)) (.us .int 200 (.at .g 1) (.int
    0) (.int 0) (.int 0))) (.f2 42 (.f3 112 (.at .rows 11) (.at .int 15) (.int 0)) (.us .int 200 (.at .g 1) (.int 0) (.int 0) (.int 0))))))))) (.us
    .bytes 226 (.at .g 1) (.f2 40 (.at .int 15) (.int 1)) (.int 0) (.int 0))) (.need (.f2 45 (.f2 40 (.f1 31 (.f2 114 (.at .bytes 16) (.f2 42 (.f3 112
    (.at .rows 11) (.at .int 15) (.int 0)) (.us .int 200 (.at .g 1) (.int 0) (.int 0) (.int 0))))) (.f2 40 (.f1 31 (.f2 114 (.f2 114 (.at .bytes 18)
    (.f3 112 (.at .rows 11) (.at .int 15) (.int 2))) (.f2 51 (.f3 112 (.at .rows 11) (.at .int 15) (.int 2)) (.f2 41 (.f2 42 (.f2 40 (.f3 112 (.at
    .rows 11) (.at .int 15) (.int 0)) (.int 1)) (.us .int 200 (.at .g 1) (.int 0) (.int 0) (.int 0))) (.f2 42 (.f3 112 (.at .rows 11) (.at .int 15)
    (.int 0)) (.us .int 200 (.at .g 1) (.int 0) (.int 0) (.int 0))))))) (.f1 31 (.f2 117 (.at .bytes 16) (.f2 40 (.f2 42 (.f3 112 (.at .rows 11) (.at
    .int 15) (.int 0)) (.us .int 200 (.at .g 1) (.int 0) (.int 0) (.int 0))) (.f2 51 (.f3 112 (.at .rows 11) (.at .int 15) (.int 2)) (.f2 41 (.f2 42
    (.f2 40 (.f3 112 (.at .rows 11) (.at .int 15) (.int 0)) (.int 1)) (.us .int 200 (.at .g 1) (.int 0) (.int 0) (.int 0))) (.f2 42 (.f3 112 (.at .rows
    11) (.at .int 15) (.int 0)) (.us .int 200 (.at .g 1) (.int 0) (.int 0) (.int 0)))))))))) (.f1 31 (.us .bytes 208 (.at .g 1) (.int 0) (.int 0) (.int
    0)))) .tt)))))))))))))))))))) (.imp (.f1 2 (.at .bool 19)) (.need (.f1 23 (.f2 40 (.at .int 15) (.int 1))) (.need (.f2 47 (.int 0) (.f2 41 (.at
    .int 5) (.f2 40 (.at .int 15) (.int 1)))) (.need (.f2 46 (.f2 41 (.at .int 5) (.f2 40 (.at .int 15) (.int 1))) (.f2 41 (.at .int 5) (.at .int 15)))
    (.need (.f2 47 (.int 0) (.f2 40 (.at .int 15) (.int 1))) (.need (.f2 47 (.f2 40 (.at .int 15) (.int 1)) (.at .int 5)) (.need (.f2 155 (.at .bytes
    16) (.us .bytes 226 (.at .g 1) (.f2 40 (.at .int 15) (.int 1)) (.int 0) (.int 0))) .tt)))))))))))))))))))))) (.imp (.f2 47 (.at .int 5) (.at .int
    15)) (.need (.f2 45 (.us .int 211 (.us .g 225 (.at .g 1) (.int 0) (.int 0) (.int 0)) (.int 0) (.int 0) (.int 0)) (.int 0)) (.need (.f2 155 (.f1 154
    (.int 0)) (.f1 154 (.int 0))) (.need (.f2 153 (.f2 113 (.at .ints 13) (.at .int 9)) (.us .ints 209 (.us .g 225 (.at .g 1) (.int 0) (.int 0) (.int
    0)) (.int 0) (.int 0) (.int 0))) (.need (.us .bool 214 (.f1 155 (.int 0)) (.us .g 225 (.at .g 1) (.int 0) (.int 0) (.int 0)) (.int 0) (.int 0))
    (.need (.us .bool 215 (.us .g 225 (.at .g 1) (.int 0) (.int 0) (.int 0)) (.int 0) (.int 0) (.int 0)) (.need (.us .bool 216 (.us .g 225 (.at .g 1)
    (.int 0) (.int 0) (.int 0)) (.us .g 225 (.at .g 1) (.int 0) (.int 0) (.int 0)) (.int 0) (.int 0)) (.need (.f2 155 (.us .bytes 208 (.us .g 225 (.at
    .g 1) (.int 0) (.int 0) (.int 0)) (.int 0) (.int 0) (.int 0)) (.at .bytes 16)) (.need (.f2 45 (.us .int 207 (.us .g 225 (.at .g 1) (.int 0) (.int
    0) (.int 0)) (.int 0) (.int 0) (.int 0)) (.us .int 207 (.at .g 1) (.int 0) (.int 0) (.int 0))) (.need (.f2 45 (.us .int 206 (.us .g 225 (.at .g 1)
    (.int 0) (.int 0) (.int 0)) (.int 0) (.int 0) (.int 0)) (.us .int 206 (.at .g 1) (.int 0) (.int 0) (.int 0))) (.need (.f2 45 (.us .int 205 (.us .g
    225 (.at .g 1) (.int 0) (.int 0) (.int 0)) (.int 0) (.int 0) (.int 0)) (.us .int 205 (.at .g 1) (.int 0) (.int 0) (.int 0))) (.need (.f2 45 (.us
    .int 204 (.us .g 225 (.at .g 1) (.int 0) (.int 0) (.int 0)) (.int 0) (.int 0) (.int 0)) (.us .int 204 (.at .g 1) (.int 0) (.int 0) (.int 0)))
    (.need (.f2 45 (.us .int 203 (.us .g 225 (.at .g 1) (.int 0) (.int 0) (.int 0)) (.int 0) (.int 0) (.int 0)) (.us .int 203 (.at .g 1) (.int 0) (.int
    0) (.int 0))) (.need (.f2 45 (.us .int 202 (.us .g 225 (.at .g 1) (.int 0) (.int 0) (.int 0)) (.int 0) (.int 0) (.int 0)) (.int (-(0 + 1)))) (.need
    (.f2 155 (.us .bool 201 (.us .g 225 (.at .g 1) (.int 0) (.int 0) (.int 0)) (.int 0) (.int 0) (.int 0)) (.bool .true)) (.need (.f2 45 (.f1 31 (.us
    .bytes 208 (.us .g 225 (.at .g 1) (.int 0) (.int 0) (.int 0)) (.int 0) (.int 0) (.int 0))) (.f1 31 (.us .bytes 208 (.at .g 1) (.int 0) (.int 0)
    (.int 0)))) (.need (.f2 45 (.us .int 200 (.us .g 225 (.at .g 1) (.int 0) (.int 0) (.int 0)) (.int 0) (.int 0) (.int 0)) (.us .int 200 (.at .g 1)
    (.int 0) (.int 0) (.int 0))) .tt))))))))))))))))))))))))))))))))))))))
theorem fall_vc : vcOf Try.prog fallCx 12 39 fallCtr = fallVc := by kernel_rfl
-- END VC fall
theorem con_step {X : List Int} {i v : Int} (h0 : 0 ≤ i) (h1 : i < X.length) : (X.take (i + 1).toNat).contains v = ((X.take i.toNat).contains v || v == X.getD i.toNat 0) := by
  have e : X.take (i + 1).toNat = X.take i.toNat ++ [X.getD i.toNat 0] := by
    rw [show (i + 1).toNat = i.toNat + 1 by omega, List.take_add_one, List.getD_eq_getElem?_getD, List.getElem?_eq_getElem (show i.toNat < X.length by omega)]; rfl
  rw [e]
  generalize X.take i.toNat = A
  generalize X.getD i.toNat 0 = x
  simp
  rfl
theorem con_ok (S : Sig GG) (hS : DvSig S) : CtrOk S Try.prog 43 conCtr := by
  refine vcOf_sound S (C := conCx) (fuel := 12) (cx_of trivial ⟨⟨trivial, trivial⟩, trivial⟩ trivial) fun ρ => ?_
  rw [con_vc]
  simp only [conVc, hS.u231, VC.den, SX.den, co_int, co_bool, co_bytes, co_ints, co_rows, co_map, Env.upd, p155, p153, p23, p45, p46, p47, p50, b46, b47, t46, t47, p2_45, ap1_2, ap1_30, ap1_31, ap1_32, ap1_152, ap1_153, ap1_154, ap2_40, ap2_41, ap2_42, ap2_43, ap2_45, p48_b, ap2_51i, ap2_52i, ap2_110, ap2_111, ap2_113, ap2_114, ap2_115, ap2_117, ap2_120, ap2_126, ap2_141, ap3_112, ap3_140, beq_iff_eq, Bool.not_eq_true', beq_eq_false_iff_ne, ne_eq, Bool.not_not, U.toProp_bool, U.toBool_bool, i64lo, i64hi, U.toInt_int, U.toInts_ints, U.toBytes_bytes, U.toRows_rows, U.toMap_amap, Int.toNat_zero, Nat.reduceEqDiff, reduceIte, propB_iff, leB_iff, ltB_iff, U.int.injEq, U.bool.injEq, U.bytes.injEq, U.ints.injEq, U.rows.injEq]
  generalize (ρ 1).toInts = X
  generalize (ρ 2).toInt = l
  generalize (ρ 5).toInt = v
  intro h1 h2 h3
  refine ⟨by simp, fun i i0 i1 hi => ⟨fun hil => ⟨by omega, fun hv => ⟨?_, trivial⟩, fun hv => ⟨by omega, by omega, by omega, by omega, by omega, ?_, trivial⟩⟩, fun hil => ⟨?_, trivial⟩⟩⟩
  · have hs := con_step (X := X) (v := v) i0 (by omega)
    have : (X.take l.toNat).contains v = true := by
      have hm : v ∈ X.take (i + 1).toNat := by
        have : (X.take (i + 1).toNat).contains v = true := by rw [hs, hv]; simp
        simpa using this
      have hsub : X.take (i + 1).toNat = (X.take l.toNat).take (i + 1).toNat := by rw [List.take_take, Nat.min_eq_left (by omega)]
      rw [hsub] at hm
      simpa using List.mem_of_mem_take hm
    rw [this, ap2_48, ap2_47]
    simp only [U.toProp_bool, U.toBool_bool, U.toInt_int, beq_iff_eq]; exact decide_eq_true i0
  · rw [con_step i0 (by omega), hi]; simpa using hv
  · rw [show l = i by omega, hi]
theorem fall_snoc (d : Dv) (p : Int × List UInt8) : ∀ (l : List (Int × List UInt8)) (i : Int) (s : List UInt8), fallS d i (l ++ [p]) s = laid (fallS d i l s) (p.1 * d.page).toNat (p.2.take (cutN d (i + l.length)).toNat)
  | [], i, s => by simp [fallS]
  | q :: l, i, s => by
    show fallS d (i + 1) (l ++ [p]) _ = _
    rw [fall_snoc d p l, show i + 1 + (l.length : Int) = i + ((q :: l).length : Nat) by simp only [List.length_cons]; omega]; rfl
theorem fall_step {d : Dv} {i : Int} (h0 : 0 ≤ i) (h1 : i < d.w.length) : fallS d 0 (d.w.take (i + 1).toNat) d.safe = laid (fallS d 0 (d.w.take i.toNat) d.safe) (d.pg i * d.page).toNat ((d.dat i).take (cutN d i).toNat) := by
  have e : d.w.take (i + 1).toNat = d.w.take i.toNat ++ [d.w.getD i.toNat (0, [])] := by
    rw [show (i + 1).toNat = i.toNat + 1 by omega, List.take_add_one, List.getD_eq_getElem?_getD, List.getElem?_eq_getElem (by omega)]; rfl
  rw [e, fall_snoc, show (0 : Int) + ((d.w.take i.toNat).length : Nat) = i by rw [List.length_take]; omega]; rfl
theorem lay_eq {X Y : List UInt8} {p k c : Int} (hk : k = c) (p0 : 0 ≤ p) (c0 : 0 ≤ c) (hc : c ≤ Y.length) : X.take p.toNat ++ ((Y.take c.toNat).take k.toNat ++ X.drop (p + k).toNat) = laid X p.toNat (Y.take c.toNat) := by
  subst hk
  unfold laid
  rw [List.take_take, Nat.min_self, List.length_take, Nat.min_eq_left (by omega), show (p + k).toNat = p.toNat + k.toNat by omega]
theorem lay_nil (X : List UInt8) (p : Nat) : laid X p [] = X := by unfold laid; simp
theorem lay_len {X Y : List UInt8} {p k c m : Int} (hk : k = c) (p0 : 0 ≤ p) (c0 : 0 ≤ c) (hc : c ≤ Y.length) (hx : (X.length : Int) = m) (h : p + c ≤ m) : ((X.take p.toNat).length : Int) + ((((Y.take c.toNat).take k.toNat).length : Nat) + ((X.drop (p + k).toNat).length : Nat)) = m := by
  subst hk
  simp only [List.length_take, List.length_drop]; omega
theorem cut_le {d : Dv} (hp : 0 ≤ d.page) (i : Int) : 0 ≤ cutN d i ∧ cutN d i ≤ d.page := by
  unfold cutN imin imax
  repeat' split
  all_goals omega
theorem fallS_len {d : Dv} (hg : GoodD d) : ∀ (l : List (Int × List UInt8)) (i : Int) (s : List UInt8), s.length = d.safe.length → (∀ p ∈ l, p ∈ d.w) → (fallS d i l s).length = d.safe.length
  | [], _, _, h, _ => h
  | p :: l, i, s, h, hm => by
    have hb := rd_big hg
    have hw := hg.w p (hm p List.mem_cons_self)
    have hi := in_page hw.1 hw.2.1 (Int.le_of_lt hb.1)
    have hc := cut_le (Int.le_of_lt hb.1) (d := d) i
    have hl : (laid s (p.1 * d.page).toNat (p.2.take (cutN d i).toNat)).length = s.length := laid_len (by rw [List.length_take]; omega)
    exact fallS_len hg l _ _ (by rw [hl]; exact h) fun q hq => hm q (List.mem_cons_of_mem _ hq)
theorem good_fall {d : Dv} (hg : GoodD d) : GoodD d.fall := by
  have hl : d.fall.safe.length = d.safe.length := fallS_len hg d.w 0 d.safe rfl fun _ h => h
  obtain ⟨k, k1, k2, k3, k4⟩ := hg.pgs
  exact ⟨hg.size, ⟨k, k1, k2, by rw [hl]; exact k3, by rw [hl]; exact k4⟩, (fun p hp => nomatch hp), ⟨Int.le_refl _, show (-1 : Int) ≤ 9223372036854775807 by decide⟩, hg.cnt⟩
set_option maxRecDepth 20000 in
theorem fall_ok (S : Sig GG) (hS : DvSig S) : CtrOk S Try.prog 39 fallCtr := by
  refine vcOf_sound S (C := fallCx) (fuel := 12) (cx_of ⟨one_spec (by decide) (con_ok S hS), trivial⟩ ⟨⟨trivial, ⟨by decide, toL_gh S hS⟩, ⟨by decide, pbL_gh S hS⟩, ⟨by decide, noL_gh S hS 225⟩, ⟨by decide, foP_gh S hS _ _ _⟩, trivial⟩, trivial⟩ trivial) fun ρ => ?_
  rw [fall_vc]
  simp only [fallVc, co_g, dvOf_g, hS.u200, hS.u201, hS.u202, hS.u203, hS.u204, hS.u205, hS.u206, hS.u207, hS.u208, hS.u209, hS.u210, hS.u211, hS.u212, hS.u213, hS.u214, hS.u215, hS.u216, hS.u217, hS.u220, hS.u221, hS.u222, hS.u223, hS.u224, hS.u225, hS.u226, hS.u227, hS.u228, hS.u229, hS.u230, hS.u231, hS.u232, VC.den, SX.den, co_int, co_bool, co_bytes, co_ints, co_rows, co_map, Env.upd, p155, p153, p23, p45, p46, p47, p50, b46, b47, t46, t47, p2_45, ap1_2, ap1_30, ap1_31, ap1_32, ap1_152, ap1_153, ap1_154, ap2_40, ap2_41, ap2_42, ap2_43, ap2_45, p48_b, ap2_51i, ap2_52i, ap2_110, ap2_111, ap2_113, ap2_114, ap2_115, ap2_117, ap2_120, ap2_126, ap2_141, ap3_112, ap3_140, beq_iff_eq, Bool.not_eq_true', beq_eq_false_iff_ne, ne_eq, Bool.not_not, U.toProp_bool, U.toBool_bool, i64lo, i64hi, U.toInt_int, U.toInts_ints, U.toBytes_bytes, U.toRows_rows, U.toMap_amap, Int.toNat_zero, Nat.reduceEqDiff, reduceIte, propB_iff, leB_iff, ltB_iff, U.int.injEq, U.bool.injEq, U.bytes.injEq, U.ints.injEq, U.rows.injEq]
  generalize dvOf (U.co S .g (ρ 1)) = d
  generalize (ρ 11).toRows = R
  generalize (ρ 13).toInts = Z
  generalize (ρ 5).toInt = m
  generalize (ρ 9).toInt = fl
  generalize (ρ 3).toInt = sc
  intro h1 h2 h3 hbig h4 h5 h6 h7 hg h9 _ _
  have hb := rd_big hg
  have hF : ∀ i : Int, (fallS d 0 (d.w.take i.toNat) d.safe).length = d.safe.length := fun i => fallS_len hg _ _ _ rfl fun p hp => List.mem_of_mem_take hp
  refine ⟨rfl, trivial, fun i X i0 i1 hX hXl => ⟨fun him => ?_, fun him => ?_⟩⟩
  · refine ⟨by omega, fun _ _ B q0 q1 q2 q3 q4 => ?_⟩
    obtain ⟨hdl, hp0, hp1⟩ := dat_len hg i0 (show i < d.w.length by omega)
    have hpp := in_page hp0 hp1 (Int.le_of_lt hb.1)
    have hst := fall_step (d := d) i0 (by omega)
    rw [← hX] at hst
    have hL : ((R.getD i.toNat []).getD (Int.toNat 2) 0) = d.page := by
      rw [← hdl, ← q2, List.length_take]; omega
    rw [hL] at q1 q2 q4 ⊢
    rw [q3]
    have hw : (d.pg i + 1) * d.page - d.pg i * d.page = d.page := by rw [Int.add_mul, Int.one_mul]; omega
    have hw1 : (d.pg i + 1) * d.page = d.pg i * d.page + d.page := by rw [Int.add_mul, Int.one_mul]
    rw [hw, hw1, hst]
    have hcl := cut_le (Int.le_of_lt hb.1) (d := d) i
    refine ⟨fun ht => ?_, fun ht x hx => ⟨fun hxt => ?_, fun hxf => ?_⟩⟩
    · have hc : cutN d i = imin (imax d.at' 0) d.page := by unfold cutN; rw [if_pos ht]
      rw [← hc, imin_left (x := cutN d i) hcl.2]
      have e : B.take (cutN d i).toNat = (d.dat i).take (cutN d i).toNat := by rw [← q2, List.take_take, Nat.min_eq_left (by omega)]
      rw [e]
      exact ⟨by omega, by omega, by omega, ⟨by omega, by omega⟩, ⟨by omega, by omega⟩, ⟨by omega, by omega⟩, by omega, by omega, by omega, by omega, by omega, by omega, by omega, by omega, by omega, by omega, ⟨by omega, by omega⟩, by omega, by omega, by omega, by omega, lay_eq rfl hpp.1 hcl.1 (by omega), lay_len rfl hpp.1 hcl.1 (by omega) hXl (by omega), trivial⟩
    · have hkc : d.keep.contains i = true := by rw [← h7, ← hx]; exact hxt
      have hc : cutN d i = d.page := by unfold cutN; rw [if_neg ht, if_pos hkc]
      rw [imin_left (x := d.page) (Int.le_refl _), q2, hc]
      exact ⟨⟨by omega, by omega⟩, ⟨by omega, by omega⟩, ⟨by omega, by omega⟩, by omega, by omega, by omega, by omega, by omega, by omega, by omega, by omega, by omega, ⟨by omega, by omega⟩, by omega, by omega, by omega, by omega, by have h := lay_eq (X := X) (Y := d.dat i) (p := d.pg i * d.page) (k := d.page) (c := d.page) rfl hpp.1 (by omega) (by omega); rw [List.take_take, Nat.min_self] at h; exact h, by have h := lay_len (X := X) (Y := d.dat i) (p := d.pg i * d.page) (k := d.page) (c := d.page) rfl hpp.1 (by omega) (by omega) hXl (by omega); rw [List.take_take, Nat.min_self] at h; exact h, trivial⟩
    · have hkc : ¬ d.keep.contains i = true := by rw [← h7, ← hx, hxf]; simp
      have hc : cutN d i = 0 := by unfold cutN; rw [if_neg ht, if_neg hkc]
      rw [hc]
      exact ⟨⟨by omega, by omega⟩, by omega, by omega, by omega, by omega, (lay_nil X _).symm, trivial⟩
  · have hil : i = d.w.length := by omega
    have hall : X = d.fall.safe := by rw [hX, hil]; show fallS d 0 (d.w.take ((d.w.length : Nat) : Int).toNat) d.safe = fallS d 0 d.w d.safe; rw [Int.toNat_natCast, List.take_length]
    exact ⟨rfl, trivial, h7, ⟨fun n => rfl, fun p hp => nomatch hp⟩, good_fall hg, trivial, hall.symm, rfl, rfl, rfl, rfl, rfl, rfl, rfl, by rw [← hall]; exact hXl, rfl, trivial⟩
end
end Go.Proofs.Ytlcfjjjdhdfbdaa

/- A device's Write. -/
set_option linter.unusedSimpArgs false
set_option linter.unusedVariables false
namespace Go.Proofs.Ytlcfjjjdhdfbdaa
noncomputable section
open Go.Eng
-- atoms of Write: 0 block, 1 g, 2 page, 3..8 bytes; opened: 9.. ; 20 the clone's block ..
def wbX : SX := tkB (bA 7) (ai 5)
def writeCtr : Ctr := ⟨[.int, .g, .int, .int, .int, .int, .int, .bytes, .int], [.one (.ptr (ai 0) 0), .one (.int .i64 (ai 2)), .one (slR 3)], [plC (ai 0) (gA 1), rdBy 0 3],
  [eLe (.int 0) (ai 5), eLe (ai 5) (lenB (bA 7)), eLe (ai 5) (ai 6), eLe (ai 5) (.int 1099511627776), .f2 50 (eLe (.int 0) (ai 3)) (.f2 45 (ai 5) z0), eLe (usI 206 (gA 1) z0 z0) big62, eLe (usI 211 (gA 1) z0 z0) (.int 1099511627776), eLe (.f1 30 (usN 209 (gA 1) z0 z0)) (.int 140737488355328)], [],
  .one (.int .i64 (usI 222 (gA 1) (ai 2) wbX)), [plC (ai 0) (usG 221 (gA 1) (ai 2) wbX), rdBy 0 3], []⟩
def writeCx : Cx := { specs := [(29, [cl2Ctr]), (39, [fallCtr])], anns := [(28, [(1, .ghost unPC [.tmp 0]),
  (3, .ghost (foPC [] [] (usG 234 (gA 1) z0 z0)) [.tmp 0]), (5, .ghost (foPC [] [] (usG 234 (gA 1) z0 z0)) [.tmp 0]), (9, .ghost puLC [.tmp 1, .tmp 41]), (12, .ghost (foPC [] [] (usG 233 (gA 1) z0 z0)) [.tmp 0])])] }
-- BEGIN VC write
def writeVc : VC := (.imp (.f2 47 (.int 0) (.at .int 5)) (.imp (.f2 47 (.at .int 5) (.f1 31 (.at .bytes 7))) (.imp (.f2 47 (.at .int 5) (.at .int 6)) (.imp (.f2 47 (.at
    .int 5) (.int 1099511627776)) (.imp (.f2 50 (.f2 47 (.int 0) (.at .int 3)) (.f2 45 (.at .int 5) (.int 0))) (.imp (.f2 47 (.us .int 206 (.at .g 1)
    (.int 0) (.int 0) (.int 0)) (.int 4611686018427387904)) (.imp (.f2 47 (.us .int 211 (.at .g 1) (.int 0) (.int 0) (.int 0)) (.int 1099511627776))
    (.imp (.f2 47 (.f1 30 (.us .ints 209 (.at .g 1) (.int 0) (.int 0) (.int 0))) (.int 140737488355328)) (.all 9 .int (.all 10 .int (.all 11 .int (.all
    12 .int (.all 13 .int (.all 14 .int (.all 15 .int (.all 16 .int (.all 17 .int (.all 18 .rows (.all 19 .amap (.all 20 .ints (.imp (.f2 47 (.int 0)
    (.at .int 12)) (.imp (.f2 47 (.at .int 12) (.f1 32 (.at .rows 18))) (.imp (.f2 45 (.at .int 12) (.us .int 211 (.at .g 1) (.int 0) (.int 0) (.int
    0))) (.imp (.f2 47 (.at .int 12) (.at .int 13)) (.imp (.f2 47 (.int 0) (.at .int 16)) (.imp (.f2 47 (.at .int 16) (.f1 30 (.at .ints 20))) (.imp
    (.f2 153 (.f2 113 (.at .ints 20) (.at .int 16)) (.us .ints 209 (.at .g 1) (.int 0) (.int 0) (.int 0))) (.imp (.us .bool 214 (.at .amap 19) (.at .g
    1) (.int 0) (.int 0)) (.imp (.us .bool 215 (.at .g 1) (.int 0) (.int 0) (.int 0)) (.imp (.f2 47 (.f1 31 (.us .bytes 208 (.at .g 1) (.int 0) (.int
    0) (.int 0))) (.at .int 10)) (.imp (.f2 47 (.int 0) (.at .int 9)) (.imp (.us .bool 237 (.at .amap 19) (.int 0) (.int 0) (.int 0)) (.and (.imp (.us
    .bool 201 (.at .g 1) (.int 0) (.int 0) (.int 0)) (.need (.f2 155 (.f2 115 (.at .rows 18) (.at .int 12)) (.f2 115 (.at .rows 18) (.at .int 12)))
    (.need (.f2 153 (.f2 113 (.at .ints 20) (.at .int 16)) (.us .ints 209 (.us .g 234 (.at .g 1) (.int 0) (.int 0) (.int 0)) (.int 0) (.int 0) (.int
    0))) (.need (.us .bool 214 (.at .amap 19) (.us .g 234 (.at .g 1) (.int 0) (.int 0) (.int 0)) (.int 0) (.int 0)) (.need (.us .bool 215 (.us .g 234
    (.at .g 1) (.int 0) (.int 0) (.int 0)) (.int 0) (.int 0) (.int 0)) (.need (.us .bool 216 (.us .g 234 (.at .g 1) (.int 0) (.int 0) (.int 0)) (.at .g
    1) (.int 0) (.int 0)) (.need (.f2 155 (.us .bytes 208 (.us .g 234 (.at .g 1) (.int 0) (.int 0) (.int 0)) (.int 0) (.int 0) (.int 0)) (.us .bytes
    208 (.at .g 1) (.int 0) (.int 0) (.int 0))) (.need (.f2 45 (.us .int 207 (.us .g 234 (.at .g 1) (.int 0) (.int 0) (.int 0)) (.int 0) (.int 0) (.int
    0)) (.us .int 207 (.at .g 1) (.int 0) (.int 0) (.int 0))) (.need (.f2 45 (.us .int 206 (.us .g 234 (.at .g 1) (.int 0) (.int 0) (.int 0)) (.int 0)
    (.int 0) (.int 0)) (.us .int 206 (.at .g 1) (.int 0) (.int 0) (.int 0))) (.need (.f2 45 (.us .int 205 (.us .g 234 (.at .g 1) (.int 0) (.int 0)
    (.int 0)) (.int 0) (.int 0) (.int 0)) (.us .int 205 (.at .g 1) (.int 0) (.int 0) (.int 0))) (.need (.f2 45 (.us .int 204 (.us .g 234 (.at .g 1)
    (.int 0) (.int 0) (.int 0)) (.int 0) (.int 0) (.int 0)) (.us .int 204 (.at .g 1) (.int 0) (.int 0) (.int 0))) (.need (.f2 45 (.us .int 203 (.us .g
    234 (.at .g 1) (.int 0) (.int 0) (.int 0)) (.int 0) (.int 0) (.int 0)) (.us .int 203 (.at .g 1) (.int 0) (.int 0) (.int 0))) (.need (.f2 45 (.us
    .int 202 (.us .g 234 (.at .g 1) (.int 0) (.int 0) (.int 0)) (.int 0) (.int 0) (.int 0)) (.us .int 202 (.at .g 1) (.int 0) (.int 0) (.int 0)))
    (.need (.f2 155 (.us .bool 201 (.us .g 234 (.at .g 1) (.int 0) (.int 0) (.int 0)) (.int 0) (.int 0) (.int 0)) (.us .bool 201 (.at .g 1) (.int 0)
    (.int 0) (.int 0))) (.need (.f2 45 (.f1 31 (.us .bytes 208 (.us .g 234 (.at .g 1) (.int 0) (.int 0) (.int 0)) (.int 0) (.int 0) (.int 0))) (.f1 31
    (.us .bytes 208 (.at .g 1) (.int 0) (.int 0) (.int 0)))) (.need (.f2 45 (.us .int 200 (.us .g 234 (.at .g 1) (.int 0) (.int 0) (.int 0)) (.int 0)
    (.int 0) (.int 0)) (.us .int 200 (.at .g 1) (.int 0) (.int 0) (.int 0))) (.need (.f2 155 (.us .g 221 (.at .g 1) (.at .int 2) (.f2 114 (.at .bytes
    7) (.at .int 5)) (.int 0)) (.us .g 234 (.at .g 1) (.int 0) (.int 0) (.int 0))) (.need (.f2 45 (.us .int 222 (.at .g 1) (.at .int 2) (.f2 114 (.at
    .bytes 7) (.at .int 5)) (.int 0)) (.int 3)) .tt)))))))))))))))))) (.imp (.f1 2 (.us .bool 201 (.at .g 1) (.int 0) (.int 0) (.int 0))) (.and (.imp
    (.f2 47 (.int 0) (.at .int 2)) (.need (.f1 2 (.f2 45 (.us .int 200 (.at .g 1) (.int 0) (.int 0) (.int 0)) (.int 0))) (.need (.f1 23 (.f2 43 (.f1 31
    (.us .bytes 208 (.at .g 1) (.int 0) (.int 0) (.int 0))) (.us .int 200 (.at .g 1) (.int 0) (.int 0) (.int 0)))) (.and (.imp (.f2 47 (.f2 43 (.f1 31
    (.us .bytes 208 (.at .g 1) (.int 0) (.int 0) (.int 0))) (.us .int 200 (.at .g 1) (.int 0) (.int 0) (.int 0))) (.at .int 2)) (.need (.f2 155 (.f2
    115 (.at .rows 18) (.at .int 12)) (.f2 115 (.at .rows 18) (.at .int 12))) (.need (.f2 153 (.f2 113 (.at .ints 20) (.at .int 16)) (.us .ints 209
    (.us .g 234 (.at .g 1) (.int 0) (.int 0) (.int 0)) (.int 0) (.int 0) (.int 0))) (.need (.us .bool 214 (.at .amap 19) (.us .g 234 (.at .g 1) (.int
    0) (.int 0) (.int 0)) (.int 0) (.int 0)) (.need (.us .bool 215 (.us .g 234 (.at .g 1) (.int 0) (.int 0) (.int 0)) (.int 0) (.int 0) (.int 0))
    (.need (.us .bool 216 (.us .g 234 (.at .g 1) (.int 0) (.int 0) (.int 0)) (.at .g 1) (.int 0) (.int 0)) (.need (.f2 155 (.us .bytes 208 (.us .g 234
    (.at .g 1) (.int 0) (.int 0) (.int 0)) (.int 0) (.int 0) (.int 0)) (.us .bytes 208 (.at .g 1) (.int 0) (.int 0) (.int 0))) (.need (.f2 45 (.us .int
    207 (.us .g 234 (.at .g 1) (.int 0) (.int 0) (.int 0)) (.int 0) (.int 0) (.int 0)) (.us .int 207 (.at .g 1) (.int 0) (.int 0) (.int 0))) (.need
    (.f2 45 (.us .int 206 (.us .g 234 (.at .g 1) (.int 0) (.int 0) (.int 0)) (.int 0) (.int 0) (.int 0)) (.us .int 206 (.at .g 1) (.int 0) (.int 0)
    (.int 0))) (.need (.f2 45 (.us .int 205 (.us .g 234 (.at .g 1) (.int 0) (.int 0) (.int 0)) (.int 0) (.int 0) (.int 0)) (.us .int 205 (.at .g 1)
    (.int 0) (.int 0) (.int 0))) (.need (.f2 45 (.us .int 204 (.us .g 234 (.at .g 1) (.int 0) (.int 0) (.int 0)) (.int 0) (.int 0) (.int 0)) (.us .int
    204 (.at .g 1) (.int 0) (.int 0) (.int 0))) (.need (.f2 45 (.us .int 203 (.us .g 234 (.at .g 1) (.int 0) (.int 0) (.int 0)) (.int 0) (.int 0) (.int
    0)) (.us .int 203 (.at .g 1) (.int 0) (.int 0) (.int 0))) (.need (.f2 45 (.us .int 202 (.us .g 234 (.at .g 1) (.int 0) (.int 0) (.int 0)) (.int 0)
    (.int 0) (.int 0)) (.us .int 202 (.at .g 1) (.int 0) (.int 0) (.int 0))) (.need (.f2 155 (.us .bool 201 (.us .g 234 (.at .g 1) (.int 0) (.int 0)
    (.int 0)) (.int 0) (.int 0) (.int 0)) (.us .bool 201 (.at .g 1) (.int 0) (.int 0) (.int 0))) (.need (.f2 45 (.f1 31 (.us .bytes 208 (.us .g 234
    (.at .g 1) (.int 0) (.int 0) (.int 0)) (.int 0) (.int 0) (.int 0))) (.f1 31 (.us .bytes 208 (.at .g 1) (.int 0) (.int 0) (.int 0)))) (.need (.f2 45
    (.us .int 200 (.us .g 234 (.at .g 1) (.int 0) (.int 0) (.int 0)) (.int 0) (.int 0) (.int 0)) (.us .int 200 (.at .g 1) (.int 0) (.int 0) (.int 0)))
    (.need (.f2 155 (.us .g 221 (.at .g 1) (.at .int 2) (.f2 114 (.at .bytes 7) (.at .int 5)) (.int 0)) (.us .g 234 (.at .g 1) (.int 0) (.int 0) (.int
    0))) (.need (.f2 45 (.us .int 222 (.at .g 1) (.at .int 2) (.f2 114 (.at .bytes 7) (.at .int 5)) (.int 0)) (.int 30)) .tt)))))))))))))))))) (.imp
    (.f2 46 (.at .int 2) (.f2 43 (.f1 31 (.us .bytes 208 (.at .g 1) (.int 0) (.int 0) (.int 0))) (.us .int 200 (.at .g 1) (.int 0) (.int 0) (.int 0))))
    (.and (.imp (.f1 2 (.f2 45 (.at .int 5) (.us .int 200 (.at .g 1) (.int 0) (.int 0) (.int 0)))) (.need (.f2 155 (.f2 115 (.at .rows 18) (.at .int
    12)) (.f2 115 (.at .rows 18) (.at .int 12))) (.need (.f2 153 (.f2 113 (.at .ints 20) (.at .int 16)) (.us .ints 209 (.us .g 234 (.at .g 1) (.int 0)
    (.int 0) (.int 0)) (.int 0) (.int 0) (.int 0))) (.need (.us .bool 214 (.at .amap 19) (.us .g 234 (.at .g 1) (.int 0) (.int 0) (.int 0)) (.int 0)
    (.int 0)) (.need (.us .bool 215 (.us .g 234 (.at .g 1) (.int 0) (.int 0) (.int 0)) (.int 0) (.int 0) (.int 0)) (.need (.us .bool 216 (.us .g 234
    (.at .g 1) (.int 0) (.int 0) (.int 0)) (.at .g 1) (.int 0) (.int 0)) (.need (.f2 155 (.us .bytes 208 (.us .g 234 (.at .g 1) (.int 0) (.int 0) (.int
    0)) (.int 0) (.int 0) (.int 0)) (.us .bytes 208 (.at .g 1) (.int 0) (.int 0) (.int 0))) (.need (.f2 45 (.us .int 207 (.us .g 234 (.at .g 1) (.int
    0) (.int 0) (.int 0)) (.int 0) (.int 0) (.int 0)) (.us .int 207 (.at .g 1) (.int 0) (.int 0) (.int 0))) (.need (.f2 45 (.us .int 206 (.us .g 234
    (.at .g 1) (.int 0) (.int 0) (.int 0)) (.int 0) (.int 0) (.int 0)) (.us .int 206 (.at .g 1) (.int 0) (.int 0) (.int 0))) (.need (.f2 45 (.us .int
    205 (.us .g 234 (.at .g 1) (.int 0) (.int 0) (.int 0)) (.int 0) (.int 0) (.int 0)) (.us .int 205 (.at .g 1) (.int 0) (.int 0) (.int 0))) (.need
    (.f2 45 (.us .int 204 (.us .g 234 (.at .g 1) (.int 0) (.int 0) (.int 0)) (.int 0) (.int 0) (.int 0)) (.us .int 204 (.at .g 1) (.int 0) (.int 0)
    (.int 0))) (.need (.f2 45 (.us .int 203 (.us .g 234 (.at .g 1) (.int 0) (.int 0) (.int 0)) (.int 0) (.int 0) (.int 0)) (.us .int 203 (.at .g 1)
    (.int 0) (.int 0) (.int 0))) (.need (.f2 45 (.us .int 202 (.us .g 234 (.at .g 1) (.int 0) (.int 0) (.int 0)) (.int 0) (.int 0) (.int 0)) (.us .int
    202 (.at .g 1) (.int 0) (.int 0) (.int 0))) (.need (.f2 155 (.us .bool 201 (.us .g 234 (.at .g 1) (.int 0) (.int 0) (.int 0)) (.int 0) (.int 0)
    (.int 0)) (.us .bool 201 (.at .g 1) (.int 0) (.int 0) (.int 0))) (.need (.f2 45 (.f1 31 (.us .bytes 208 (.us .g 234 (.at .g 1) (.int 0) (.int 0)
    (.int 0)) (.int 0) (.int 0) (.int 0))) (.f1 31 (.us .bytes 208 (.at .g 1) (.int 0) (.int 0) (.int 0)))) (.need (.f2 45 (.us .int 200 (.us .g 234
    (.at .g 1) (.int 0) (.int 0) (.int 0)) (.int 0) (.int 0) (.int 0)) (.us .int 200 (.at .g 1) (.int 0) (.int 0) (.int 0))) (.need (.f2 155 (.us .g
    221 (.at .g 1) (.at .int 2) (.f2 114 (.at .bytes 7) (.at .int 5)) (.int 0)) (.us .g 234 (.at .g 1) (.int 0) (.int 0) (.int 0))) (.need (.f2 45 (.us
    .int 222 (.at .g 1) (.at .int 2) (.f2 114 (.at .bytes 7) (.at .int 5)) (.int 0)) (.int 31)) .tt)))))))))))))))))) (.imp (.f2 45 (.at .int 5) (.us
    .int 200 (.at .g 1) (.int 0) (.int 0) (.int 0))) (.need (.f1 23 (.f2 40 (.us .int 206 (.at .g 1) (.int 0) (.int 0) (.int 0)) (.int 1))) (.and (.imp
    (.f2 45 (.us .int 202 (.at .g 1) (.int 0) (.int 0) (.int 0)) (.int 0)) (.all 21 .int (.all 22 .bytes (.all 23 .int (.imp (.f2 155 (.f2 114 (.at
    .bytes 22) (.at .int 5)) (.f2 114 (.at .bytes 7) (.at .int 5))) (.imp (.f2 45 (.f1 31 (.at .bytes 22)) (.at .int 5)) (.imp (.f2 47 (.at .int 5)
    (.at .int 23)) (.imp (.f2 50 (.f2 47 (.int 0) (.at .int 21)) (.f2 45 (.at .int 5) (.int 0))) (.all 24 .int (.imp (.f2 47 (.int 0) (.at .int 24))
    (.need (.f2 47 (.f2 42 (.f2 40 (.at .int 12) (.int 1)) (.int 32)) (.int 140737488355328)) (.all 25 .int (.all 26 .int (.imp (.f2 47 (.f2 40 (.at
    .int 12) (.int 1)) (.at .int 26)) (.imp (.f2 50 (.f2 47 (.int 0) (.at .int 25)) (.f2 45 (.f2 40 (.at .int 12) (.int 1)) (.int 0))) (.need (.f2 47
    (.at .int 5) (.f1 31 (.at .bytes 22))) (.need (.f2 47 (.int 0) (.f2 40 (.at .int 12) (.int 1))) (.need (.f2 47 (.f2 40 (.at .int 12) (.int 1)) (.f2
    40 (.f1 32 (.f2 115 (.at .rows 18) (.at .int 12))) (.int 1))) (.need (.f2 45 (.f2 40 (.at .int 12) (.int 1)) (.us .int 211 (.us .g 224 (.at .g 1)
    (.at .int 2) (.f2 114 (.at .bytes 22) (.at .int 5)) (.int 0)) (.int 0) (.int 0) (.int 0))) (.need (.f2 47 (.f2 40 (.at .int 12) (.int 1)) (.int
    4611686018427387904)) (.need (.f2 47 (.at .int 16) (.int 140737488355328)) (.need (.f2 153 (.f2 113 (.at .ints 20) (.at .int 16)) (.us .ints 209
    (.us .g 224 (.at .g 1) (.at .int 2) (.f2 114 (.at .bytes 22) (.at .int 5)) (.int 0)) (.int 0) (.int 0) (.int 0))) (.need (.us .bool 215 (.us .g 224
    (.at .g 1) (.at .int 2) (.f2 114 (.at .bytes 22) (.at .int 5)) (.int 0)) (.int 0) (.int 0) (.int 0)) (.need (.f2 47 (.f1 31 (.us .bytes 208 (.us .g
    224 (.at .g 1) (.at .int 2) (.f2 114 (.at .bytes 22) (.at .int 5)) (.int 0)) (.int 0) (.int 0) (.int 0))) (.at .int 10)) (.need (.f2 155 (.us
    .bytes 208 (.us .g 224 (.at .g 1) (.at .int 2) (.f2 114 (.at .bytes 22) (.at .int 5)) (.int 0)) (.int 0) (.int 0) (.int 0)) (.us .bytes 208 (.at .g
    1) (.int 0) (.int 0) (.int 0))) (.need (.f2 45 (.us .int 207 (.us .g 224 (.at .g 1) (.at .int 2) (.f2 114 (.at .bytes 22) (.at .int 5)) (.int 0))
    (.int 0) (.int 0) (.int 0)) (.us .int 207 (.at .g 1) (.int 0) (.int 0) (.int 0))) (.need (.f2 45 (.us .int 206 (.us .g 224 (.at .g 1) (.at .int 2)
    (.f2 114 (.at .bytes 22) (.at .int 5)) (.int 0)) (.int 0) (.int 0) (.int 0)) (.f2 40 (.us .int 206 (.at .g 1) (.int 0) (.int 0) (.int 0)) (.int
    1))) (.need (.f2 45 (.us .int 205 (.us .g 224 (.at .g 1) (.at .int 2) (.f2 114 (.at .bytes 22) (.at .int 5)) (.int 0)) (.int 0) (.int 0) (.int 0))
    (.us .int 205 (.at .g 1) (.int 0) (.int 0) (.int 0))) (.need (.f2 45 (.us .int 202 (.us .g 224 (.at .g 1) (.at .int 2) (.f2 114 (.at .bytes 22)
    (.at .int 5)) (.int 0)) (.int 0) (.int 0) (.int 0)) (.us .int 202 (.at .g 1) (.int 0) (.int 0) (.int 0))) (.need (.f2 155 (.us .bool 201 (.us .g
    224 (.at .g 1) (.at .int 2) (.f2 114 (.at .bytes 22) (.at .int 5)) (.int 0)) (.int 0) (.int 0) (.int 0)) (.us .bool 201 (.at .g 1) (.int 0) (.int
    0) (.int 0))) (.need (.f2 45 (.f1 31 (.us .bytes 208 (.us .g 224 (.at .g 1) (.at .int 2) (.f2 114 (.at .bytes 22) (.at .int 5)) (.int 0)) (.int 0)
    (.int 0) (.int 0))) (.f1 31 (.us .bytes 208 (.at .g 1) (.int 0) (.int 0) (.int 0)))) (.need (.f2 45 (.us .int 200 (.us .g 224 (.at .g 1) (.at .int
    2) (.f2 114 (.at .bytes 22) (.at .int 5)) (.int 0)) (.int 0) (.int 0) (.int 0)) (.us .int 200 (.at .g 1) (.int 0) (.int 0) (.int 0))) (.need (.f2
    45 (.us .int 204 (.us .g 224 (.at .g 1) (.at .int 2) (.f2 114 (.at .bytes 22) (.at .int 5)) (.int 0)) (.int 0) (.int 0) (.int 0)) (.us .int 204
    (.at .g 1) (.int 0) (.int 0) (.int 0))) (.need (.f2 45 (.us .int 203 (.us .g 224 (.at .g 1) (.at .int 2) (.f2 114 (.at .bytes 22) (.at .int 5))
    (.int 0)) (.int 0) (.int 0) (.int 0)) (.us .int 203 (.at .g 1) (.int 0) (.int 0) (.int 0))) (.need (.f2 155 (.us .g 221 (.at .g 1) (.at .int 2)
    (.f2 114 (.at .bytes 7) (.at .int 5)) (.int 0)) (.us .g 225 (.us .g 224 (.at .g 1) (.at .int 2) (.f2 114 (.at .bytes 22) (.at .int 5)) (.int 0))
    (.int 0) (.int 0) (.int 0))) (.need (.f2 45 (.us .int 222 (.at .g 1) (.at .int 2) (.f2 114 (.at .bytes 7) (.at .int 5)) (.int 0)) (.int 3))
    .tt)))))))))))))))))))))))))))))))))))) (.imp (.f1 2 (.f2 45 (.us .int 202 (.at .g 1) (.int 0) (.int 0) (.int 0)) (.int 0))) (.need (.f1 23 (.f2 40
    (.us .int 202 (.at .g 1) (.int 0) (.int 0) (.int 0)) (.int (-(0 + 1))))) (.all 21 .int (.all 22 .bytes (.all 23 .int (.imp (.f2 155 (.f2 114 (.at
    .bytes 22) (.at .int 5)) (.f2 114 (.at .bytes 7) (.at .int 5))) (.imp (.f2 45 (.f1 31 (.at .bytes 22)) (.at .int 5)) (.imp (.f2 47 (.at .int 5)
    (.at .int 23)) (.imp (.f2 50 (.f2 47 (.int 0) (.at .int 21)) (.f2 45 (.at .int 5) (.int 0))) (.all 24 .int (.imp (.f2 47 (.int 0) (.at .int 24))
    (.need (.f2 47 (.f2 42 (.f2 40 (.at .int 12) (.int 1)) (.int 32)) (.int 140737488355328)) (.all 25 .int (.all 26 .int (.imp (.f2 47 (.f2 40 (.at
    .int 12) (.int 1)) (.at .int 26)) (.imp (.f2 50 (.f2 47 (.int 0) (.at .int 25)) (.f2 45 (.f2 40 (.at .int 12) (.int 1)) (.int 0))) (.need (.f2 47
    (.at .int 5) (.f1 31 (.at .bytes 22))) (.need (.f2 47 (.int 0) (.f2 40 (.at .int 12) (.int 1))) (.need (.f2 47 (.f2 40 (.at .int 12) (.int 1)) (.f2
    40 (.f1 32 (.f2 115 (.at .rows 18) (.at .int 12))) (.int 1))) (.need (.f2 155 (.f2 115 (.f2 121 (.f2 115 (.at .rows 18) (.at .int 12)) (.f2 124
    (.f2 122 (.at .int 2) (.f2 122 (.at .int 21) (.f2 122 (.at .int 5) (.f2 122 (.at .int 23) (.f1 152 (.int 0)))))) (.f1 154 (.int 0)))) (.f2 40 (.at
    .int 12) (.int 1))) (.f2 115 (.f2 121 (.f2 115 (.at .rows 18) (.at .int 12)) (.f2 124 (.f2 122 (.at .int 2) (.f2 122 (.at .int 21) (.f2 122 (.at
    .int 5) (.f2 122 (.at .int 23) (.f1 152 (.int 0)))))) (.f1 154 (.int 0)))) (.f2 40 (.at .int 12) (.int 1)))) (.need (.f2 153 (.f2 113 (.at .ints
    20) (.at .int 16)) (.us .ints 209 (.us .g 233 (.us .g 224 (.at .g 1) (.at .int 2) (.f2 114 (.at .bytes 22) (.at .int 5)) (.int 0)) (.int 0) (.int
    0) (.int 0)) (.int 0) (.int 0) (.int 0))) (.need (.us .bool 214 (.f3 142 (.at .amap 19) (.at .int 2) (.at .int 12)) (.us .g 233 (.us .g 224 (.at .g
    1) (.at .int 2) (.f2 114 (.at .bytes 22) (.at .int 5)) (.int 0)) (.int 0) (.int 0) (.int 0)) (.int 0) (.int 0)) (.need (.us .bool 215 (.us .g 233
    (.us .g 224 (.at .g 1) (.at .int 2) (.f2 114 (.at .bytes 22) (.at .int 5)) (.int 0)) (.int 0) (.int 0) (.int 0)) (.int 0) (.int 0) (.int 0)) (.need
    (.us .bool 216 (.us .g 233 (.us .g 224 (.at .g 1) (.at .int 2) (.f2 114 (.at .bytes 22) (.at .int 5)) (.int 0)) (.int 0) (.int 0) (.int 0)) (.us .g
    224 (.at .g 1) (.at .int 2) (.f2 114 (.at .bytes 22) (.at .int 5)) (.int 0)) (.int 0) (.int 0)) (.need (.f2 155 (.us .bytes 208 (.us .g 233 (.us .g
    224 (.at .g 1) (.at .int 2) (.f2 114 (.at .bytes 22) (.at .int 5)) (.int 0)) (.int 0) (.int 0) (.int 0)) (.int 0) (.int 0) (.int 0)) (.us .bytes
    208 (.at .g 1) (.int 0) (.int 0) (.int 0))) (.need (.f2 45 (.us .int 207 (.us .g 233 (.us .g 224 (.at .g 1) (.at .int 2) (.f2 114 (.at .bytes 22)
    (.at .int 5)) (.int 0)) (.int 0) (.int 0) (.int 0)) (.int 0) (.int 0) (.int 0)) (.us .int 207 (.at .g 1) (.int 0) (.int 0) (.int 0))) (.need (.f2
    45 (.us .int 206 (.us .g 233 (.us .g 224 (.at .g 1) (.at .int 2) (.f2 114 (.at .bytes 22) (.at .int 5)) (.int 0)) (.int 0) (.int 0) (.int 0)) (.int
    0) (.int 0) (.int 0)) (.f2 40 (.us .int 206 (.at .g 1) (.int 0) (.int 0) (.int 0)) (.int 1))) (.need (.f2 45 (.us .int 205 (.us .g 233 (.us .g 224
    (.at .g 1) (.at .int 2) (.f2 114 (.at .bytes 22) (.at .int 5)) (.int 0)) (.int 0) (.int 0) (.int 0)) (.int 0) (.int 0) (.int 0)) (.us .int 205 (.at
    .g 1) (.int 0) (.int 0) (.int 0))) (.need (.f2 45 (.us .int 204 (.us .g 233 (.us .g 224 (.at .g 1) (.at .int 2) (.f2 114 (.at .bytes 22) (.at .int
    5)) (.int 0)) (.int 0) (.int 0) (.int 0)) (.int 0) (.int 0) (.int 0)) (.us .int 204 (.at .g 1) (.int 0) (.int 0) (.int 0))) (.need (.f2 45 (.us
    .int 203 (.us .g 233 (.us .g 224 (.at .g 1) (.at .int 2) (.f2 114 (.at .bytes 22) (.at .int 5)) (.int 0)) (.int 0) (.int 0) (.int 0)) (.int 0)
    (.int 0) (.int 0)) (.us .int 203 (.at .g 1) (.int 0) (.int 0) (.int 0))) (.need (.f2 45 (.us .int 202 (.us .g 233 (.us .g 224 (.at .g 1) (.at .int
    2) (.f2 114 (.at .bytes 22) (.at .int 5)) (.int 0)) (.int 0) (.int 0) (.int 0)) (.int 0) (.int 0) (.int 0)) (.f2 52 (.f2 40 (.us .int 202 (.at .g
    1) (.int 0) (.int 0) (.int 0)) (.int (-(0 + 1)))) (.int (-(0 + 1))))) (.need (.f2 155 (.us .bool 201 (.us .g 233 (.us .g 224 (.at .g 1) (.at .int
    2) (.f2 114 (.at .bytes 22) (.at .int 5)) (.int 0)) (.int 0) (.int 0) (.int 0)) (.int 0) (.int 0) (.int 0)) (.us .bool 201 (.at .g 1) (.int 0)
    (.int 0) (.int 0))) (.need (.f2 45 (.f1 31 (.us .bytes 208 (.us .g 233 (.us .g 224 (.at .g 1) (.at .int 2) (.f2 114 (.at .bytes 22) (.at .int 5))
    (.int 0)) (.int 0) (.int 0) (.int 0)) (.int 0) (.int 0) (.int 0))) (.f1 31 (.us .bytes 208 (.at .g 1) (.int 0) (.int 0) (.int 0)))) (.need (.f2 45
    (.us .int 200 (.us .g 233 (.us .g 224 (.at .g 1) (.at .int 2) (.f2 114 (.at .bytes 22) (.at .int 5)) (.int 0)) (.int 0) (.int 0) (.int 0)) (.int 0)
    (.int 0) (.int 0)) (.us .int 200 (.at .g 1) (.int 0) (.int 0) (.int 0))) (.need (.f2 155 (.us .g 221 (.at .g 1) (.at .int 2) (.f2 114 (.at .bytes
    7) (.at .int 5)) (.int 0)) (.us .g 233 (.us .g 224 (.at .g 1) (.at .int 2) (.f2 114 (.at .bytes 22) (.at .int 5)) (.int 0)) (.int 0) (.int 0) (.int
    0))) (.need (.f2 45 (.us .int 222 (.at .g 1) (.at .int 2) (.f2 114 (.at .bytes 7) (.at .int 5)) (.int 0)) (.int 0))
    .tt))))))))))))))))))))))))))))))))))))))))))))) (.imp (.f2 46 (.at .int 2) (.int 0)) (.need (.f2 155 (.f2 115 (.at .rows 18) (.at .int 12)) (.f2
    115 (.at .rows 18) (.at .int 12))) (.need (.f2 153 (.f2 113 (.at .ints 20) (.at .int 16)) (.us .ints 209 (.us .g 234 (.at .g 1) (.int 0) (.int 0)
    (.int 0)) (.int 0) (.int 0) (.int 0))) (.need (.us .bool 214 (.at .amap 19) (.us .g 234 (.at .g 1) (.int 0) (.int 0) (.int 0)) (.int 0) (.int 0))
    (.need (.us .bool 215 (.us .g 234 (.at .g 1) (.int 0) (.int 0) (.int 0)) (.int 0) (.int 0) (.int 0)) (.need (.us .bool 216 (.us .g 234 (.at .g 1)
    (.int 0) (.int 0) (.int 0)) (.at .g 1) (.int 0) (.int 0)) (.need (.f2 155 (.us .bytes 208 (.us .g 234 (.at .g 1) (.int 0) (.int 0) (.int 0)) (.int
    0) (.int 0) (.int 0)) (.us .bytes 208 (.at .g 1) (.int 0) (.int 0) (.int 0))) (.need (.f2 45 (.us .int 207 (.us .g 234 (.at .g 1) (.int 0) (.int 0)
    (.int 0)) (.int 0) (.int 0) (.int 0)) (.us .int 207 (.at .g 1) (.int 0) (.int 0) (.int 0))) (.need (.f2 45 (.us .int 206 (.us .g 234 (.at .g 1)
    (.int 0) (.int 0) (.int 0)) (.int 0) (.int 0) (.int 0)) (.us .int 206 (.at .g 1) (.int 0) (.int 0) (.int 0))) (.need (.f2 45 (.us .int 205 (.us .g
    234 (.at .g 1) (.int 0) (.int 0) (.int 0)) (.int 0) (.int 0) (.int 0)) (.us .int 205 (.at .g 1) (.int 0) (.int 0) (.int 0))) (.need (.f2 45 (.us
    .int 204 (.us .g 234 (.at .g 1) (.int 0) (.int 0) (.int 0)) (.int 0) (.int 0) (.int 0)) (.us .int 204 (.at .g 1) (.int 0) (.int 0) (.int 0)))
    (.need (.f2 45 (.us .int 203 (.us .g 234 (.at .g 1) (.int 0) (.int 0) (.int 0)) (.int 0) (.int 0) (.int 0)) (.us .int 203 (.at .g 1) (.int 0) (.int
    0) (.int 0))) (.need (.f2 45 (.us .int 202 (.us .g 234 (.at .g 1) (.int 0) (.int 0) (.int 0)) (.int 0) (.int 0) (.int 0)) (.us .int 202 (.at .g 1)
    (.int 0) (.int 0) (.int 0))) (.need (.f2 155 (.us .bool 201 (.us .g 234 (.at .g 1) (.int 0) (.int 0) (.int 0)) (.int 0) (.int 0) (.int 0)) (.us
    .bool 201 (.at .g 1) (.int 0) (.int 0) (.int 0))) (.need (.f2 45 (.f1 31 (.us .bytes 208 (.us .g 234 (.at .g 1) (.int 0) (.int 0) (.int 0)) (.int
    0) (.int 0) (.int 0))) (.f1 31 (.us .bytes 208 (.at .g 1) (.int 0) (.int 0) (.int 0)))) (.need (.f2 45 (.us .int 200 (.us .g 234 (.at .g 1) (.int
    0) (.int 0) (.int 0)) (.int 0) (.int 0) (.int 0)) (.us .int 200 (.at .g 1) (.int 0) (.int 0) (.int 0))) (.need (.f2 155 (.us .g 221 (.at .g 1) (.at
    .int 2) (.f2 114 (.at .bytes 7) (.at .int 5)) (.int 0)) (.us .g 234 (.at .g 1) (.int 0) (.int 0) (.int 0))) (.need (.f2 45 (.us .int 222 (.at .g 1)
    (.at .int 2) (.f2 114 (.at .bytes 7) (.at .int 5)) (.int 0)) (.int 30)) .tt)))))))))))))))))))))))))))))))))))))))))))))))))))))
theorem write_vc : vcOf Try.prog writeCx 12 28 writeCtr = writeVc := by kernel_rfl
-- END VC write
theorem lastOk_set {m : List (Int × Int)} {w : List (Int × List UInt8)} {n : Int} {x : List UInt8} (h : lastOk m w) : lastOk (mset m n w.length) (w ++ [(n, x)]) := by
  intro k
  rw [mget_mset, h k, lastG_app]
  show _ = (if n = k then (0 + (w.length : Int)) else _)
  rw [Int.zero_add]
theorem good_push {d : Dv} (hg : GoodD d) {n : Int} {x : List UInt8} (h0 : 0 ≤ n) (h1 : n < d.pages) (hx : (x.length : Int) = d.page) : GoodD { d with wr := d.wr + 1, w := d.w ++ [(n, x)] } :=
  ⟨hg.size, hg.pgs, fun p hp => by
    rcases List.mem_append.1 hp with hp | hp
    · exact hg.w p hp
    · rw [List.mem_singleton] at hp; subst hp; exact ⟨h0, h1, hx⟩, hg.acts, by have := hg.cnt; exact ⟨this.1, by show 0 ≤ d.wr + 1; omega, this.2.2⟩⟩
theorem good_acts {d : Dv} (hg : GoodD d) : GoodD { d with acts := actN d.acts } := by
  have := hg.acts
  refine ⟨hg.size, hg.pgs, hg.w, ?_, hg.cnt⟩
  show -1 ≤ actN d.acts ∧ actN d.acts ≤ 9223372036854775807
  unfold actN imax
  split <;> omega
theorem wrD_no {d : Dv} {n : Int} {x : List UInt8} (h : d.ref n ≠ 0) : d.wrD n x = d ∧ d.wrE n x = d.ref n := by unfold Dv.wrD Dv.wrE; rw [if_pos h, if_pos h]; exact ⟨rfl, rfl⟩
theorem wrD_sz {d : Dv} {n : Int} {x : List UInt8} (h : d.ref n = 0) (h2 : (x.length : Int) ≠ d.page) : d.wrD n x = d ∧ d.wrE n x = 31 := by
  unfold Dv.wrD Dv.wrE; simp [h, h2]
theorem wrD_fall {d : Dv} {n : Int} {x : List UInt8} (h : d.ref n = 0) (h2 : (x.length : Int) = d.page) (h3 : d.acts = 0) : d.wrD n x = Dv.fall { d with wr := d.wr + 1, w := d.w ++ [(n, x)] } ∧ d.wrE n x = 3 := by
  unfold Dv.wrD Dv.wrE Dv.writ; simp [h, h2, h3]
theorem wrD_ok {d : Dv} {n : Int} {x : List UInt8} (h : d.ref n = 0) (h2 : (x.length : Int) = d.page) (h3 : ¬ d.acts = 0) : d.wrD n x = { d with wr := d.wr + 1, w := d.w ++ [(n, x)], acts := actN d.acts } ∧ d.wrE n x = 0 := by
  unfold Dv.wrD Dv.wrE Dv.writ; simp [h, h2, h3]
set_option maxRecDepth 20000 in
theorem write_ok (S : Sig GG) (hS : DvSig S) : CtrOk S Try.prog 28 writeCtr := by
  refine vcOf_sound S (C := writeCx) (fuel := 12) (cx_of ⟨one_spec (by decide) (cl2_ok S), one_spec (by decide) (fall_ok S hS), trivial⟩ ⟨⟨⟨by decide, unP_gh S hS⟩, ⟨by decide, foP_gh S hS _ _ _⟩, ⟨by decide, foP_gh S hS _ _ _⟩, ⟨by decide, puL_gh S hS⟩, ⟨by decide, foP_gh S hS _ _ _⟩, trivial⟩, trivial⟩ trivial) fun ρ => ?_
  rw [write_vc]
  simp only [writeVc, co_g, dvOf_g, hS.u200, hS.u201, hS.u202, hS.u203, hS.u204, hS.u205, hS.u206, hS.u207, hS.u208, hS.u209, hS.u210, hS.u211, hS.u212, hS.u213, hS.u214, hS.u215, hS.u216, hS.u217, hS.u220, hS.u221, hS.u222, hS.u223, hS.u224, hS.u225, hS.u226, hS.u227, hS.u228, hS.u229, hS.u230, hS.u231, hS.u232, hS.u233, hS.u234, VC.den, SX.den, co_int, co_bool, co_bytes, co_ints, co_rows, co_map, Env.upd, p155, p153, p23, p45, p46, p47, p50, b46, b47, t46, t47, p2_45, ap1_2, ap1_30, ap1_31, ap1_32, ap1_152, ap1_153, ap1_154, ap2_40, ap2_41, ap2_42, ap2_43, ap2_45, p48_b, ap2_51i, ap2_52i, ap2_110, ap2_111, ap2_113, ap2_114, ap2_115, ap2_117, ap2_120, ap2_126, ap2_141, ap3_112, ap3_140, beq_iff_eq, Bool.not_eq_true', beq_eq_false_iff_ne, ne_eq, Bool.not_not, U.toProp_bool, U.toBool_bool, i64lo, i64hi, U.toInt_int, U.toInts_ints, U.toBytes_bytes, U.toRows_rows, U.toMap_amap, Int.toNat_zero, Nat.reduceEqDiff, reduceIte, propB_iff, leB_iff, ltB_iff, U.int.injEq, U.bool.injEq, U.bytes.injEq, U.ints.injEq, U.rows.injEq]
  generalize dvOf (U.co S .g (ρ 1)) = d
  generalize (ρ 7).toBytes = X
  generalize (ρ 2).toInt = n
  generalize (ρ 5).toInt = l
  generalize (ρ 3).toInt = b
  generalize (ρ 6).toInt = c
  intro a1 a2 a3 a4 a5 a6 a7 a8 i9 i10 i11 i12 i13 i14 i15 i16 i17 R M Z h1 h2 h3 h4 h5 h6 h7 h8 hg h9 h10 h11
  have hb := rd_big hg
  have hp : (d.safe.length : Int).tdiv d.page = d.pages := rfl
  have hc := hg.cnt
  have ha := hg.acts
  have hxl : ((X.take l.toNat).length : Int) = l := by rw [List.length_take]; omega
  have hkl : i16 ≤ d.keep.length := by rw [← h7, List.length_take]; omega
  rw [hp]
  rcases (Bool.eq_false_or_eq_true d.down).symm with hd | hd
  · refine ⟨(fun h => by rw [hd] at h; cases h), fun _ => ⟨fun hn0 => ?_, fun hn0 => ?_⟩⟩
    · refine ⟨by omega, ⟨by omega, by omega⟩, fun hout => ?_, fun hin => ?_⟩
      · have hr := ref_out (n := n) hd (.inr hout)
        obtain ⟨e1, e2⟩ := wrD_no (x := X.take l.toNat) (show d.ref n ≠ 0 by rw [hr]; decide)
        rw [e1, e2, hr]
        repeat' (first | exact trivial | rfl | assumption | apply And.intro)
      · have hr := ref_in hd hn0 hin
        refine ⟨fun hsz => ?_, fun hsz => ?_⟩
        · obtain ⟨e1, e2⟩ := wrD_sz (x := X.take l.toNat) hr (by rw [hxl]; exact hsz)
          rw [e1, e2]
          repeat' (first | exact trivial | rfl | assumption | apply And.intro)
        · refine ⟨⟨by omega, by omega⟩, fun hz => ?_, fun hz => ?_⟩
          · obtain ⟨e1, e2⟩ := wrD_fall (x := X.take l.toNat) hr (by rw [hxl]; exact hsz) hz
            rw [e1, e2]
            intro b2 X2 c2 q1 q2 q3 q4 _ _
            rw [q1]
            have hgp := good_push hg hn0 hin (show ((X.take l.toNat).length : Int) = d.page by rw [hxl]; exact hsz)
            refine ⟨by omega, fun _ _ _ _ => ⟨by omega, by omega, by simp only [List.length_take]; omega, by simp only [List.length_append, List.length_cons, List.length_nil]; omega, by omega, by omega, ?_⟩⟩
            repeat' (first | exact trivial | rfl | assumption | apply And.intro)
          · obtain ⟨e1, e2⟩ := wrD_ok (x := X.take l.toNat) hr (by rw [hxl]; exact hsz) hz
            rw [e1, e2]
            refine ⟨⟨by omega, by omega⟩, fun b2 X2 c2 q1 q2 q3 q4 _ _ => ?_⟩
            rw [q1]
            have hgp := good_acts (good_push hg hn0 hin (show ((X.take l.toNat).length : Int) = d.page by rw [hxl]; exact hsz))
            have hlo : lastOk (mset M n i12) (d.w ++ [(n, X.take l.toNat)]) ∧ posM (mset M n i12) := ⟨by rw [h3]; exact lastOk_set h8.1, posM_set h8.2 h1⟩
            refine ⟨by omega, fun _ _ _ _ => ⟨by omega, by omega, by simp only [List.length_take]; omega, ?_⟩⟩
            repeat' (first | exact trivial | rfl | assumption | apply And.intro)
    · have hr := ref_out (n := n) hd (.inl hn0)
      obtain ⟨e1, e2⟩ := wrD_no (x := X.take l.toNat) (show d.ref n ≠ 0 by rw [hr]; decide)
      rw [e1, e2, hr]
      repeat' (first | exact trivial | rfl | assumption | apply And.intro)
  · have hr := ref_down (n := n) hd
    obtain ⟨e1, e2⟩ := wrD_no (x := X.take l.toNat) (show d.ref n ≠ 0 by rw [hr]; decide)
    rw [e1, e2, hr]
    refine ⟨fun _ => ?_, (fun h => by rw [hd] at h; cases h)⟩
    repeat' (first | exact trivial | rfl | assumption | apply And.intro)
end
end Go.Proofs.Ytlcfjjjdhdfbdaa

/- A cache: room. -/
set_option linter.unusedSimpArgs false
set_option linter.unusedVariables false
namespace Go.Proofs.Ytlcfjjjdhdfbdaa
noncomputable section
open Go.Eng
def cacheS : List (Nat × List Ctr) := [(32, [fullCtr]), (33, [oldCtr]), (34, [goesCtr]), (25, [comesCtr]), (28, [writeCtr]), (15, [readCtr])] ++ linkS
def dvQ (g : SX) : List SX := [eLe (usI 206 g z0 z0) big62, eLe (usI 211 g z0 z0) (.int 1099511627776), eLe (.f1 30 (usN 209 g z0 z0)) (.int 140737488355328)]
/-- 0 the cache; 1 its device; 2, 3 how they stand. -/
def roomCtr : Ctr := ⟨[.int, .int, .g, .g], [.one (.ptr (ai 0) 0)], [csC (ai 0) (ai 1) (gA 2), plC (ai 1) (gA 3)], dvQ (gA 3) ++ [eLe (usI 260 (gA 2) z0 z0) big62], [],
  .one (.int .i64 (usI 282 (gA 2) (gA 3) z0)), [csC (ai 0) (ai 1) (usG 280 (gA 2) (gA 3) z0), plC (ai 1) (usG 281 (gA 2) (gA 3) z0)], []⟩
def roomCx : Cx := { specs := cacheS, anns := [(24, [(0, .ghost nrPC []), (1, .ghost unCsC [.tmp 0]), (1, .ghost ndRC []), (6, .ghost opFC [.tmp 3]), (9, .ghost rdFC [.tmp 3]), (10, .ghost rdFC [.tmp 3]), (999999, .ghost foKC [.tmp 0])])] }
-- BEGIN VC room
def roomX0 : SX := .us .int 260 (.at .g 2) (.int 0) (.int 0) (.int 0)
def roomX1 : SX := .us .int 256 (.at .g 2) (.int 0) (.int 0) (.int 0)
def roomX2 : SX := .us .ints 242 (.at .rows 6) (.int 0) (.int 0) (.int 0)
def roomX3 : SX := .us .int 257 (.at .g 2) (.int 0) (.int 0) (.int 0)
def roomX4 : SX := .us .g 267 (.at .g 2) (.us .int 258 (.at .g 2) (.int 0) (.int 0) (.int 0)) (.us .int 259 (.at .g 2) (.int 0) (.int 0) (.int 0)) roomX0
def roomX5 : SX := .us .bool 268 roomX4 (.int 0) (.int 0) (.int 0)
def roomX6 : SX := .us .g 281 (.at .g 2) (.at .g 3) (.int 0) (.int 0)
def roomX7 : SX := .us .g 234 (.at .g 3) (.int 0) (.int 0) (.int 0)
def roomX8 : SX := .f2 155 roomX6 roomX7
def roomX9 : SX := .us .g 280 (.at .g 2) (.at .g 3) (.int 0) (.int 0)
def roomX10 : SX := .f2 155 roomX9 roomX4
def roomX11 : SX := .us .int 282 (.at .g 2) (.at .g 3) (.int 0) (.int 0)
def roomX12 : SX := .f2 45 roomX11 (.int 0)
def roomX13 : SX := .us .int 272 (.at .rows 6) (.at .g 2) (.int 0) (.int 0)
def roomX14 : SX := .us .int 250 (.at .rows 6) roomX13 (.int 0) (.int 0)
def roomX15 : SX := .us .bytes 253 (.at .g 2) roomX14 (.int 0) (.int 0)
def roomX16 : SX := .f1 31 roomX15
def roomX17 : SX := .us .bool 254 (.at .g 2) roomX14 (.int 0) (.int 0)
def roomX18 : SX := .us .int 252 (.at .g 2) roomX14 (.int 0) (.int 0)
def roomX19 : SX := .f2 114 roomX15 roomX16
def roomX20 : SX := .us .int 222 roomX7 roomX18 roomX19 (.int 0)
def roomX21 : SX := .f2 45 roomX20 (.int 0)
def roomX22 : SX := .f2 47 (.int 0) roomX14
def roomX23 : SX := .f2 45 roomX13 (.f3 112 (.at .rows 6) roomX14 (.int 0))
def roomX24 : SX := .f2 155 roomX6 (.us .g 221 roomX7 roomX18 roomX19 (.int 0))
def roomX25 : SX := .us .rows 271 (.at .rows 6) roomX14 (.int 0) (.int 0)
def roomX26 : SX := .us .g 264 (.at .g 2) roomX14 (.int 0) (.int 0)
def roomX27 : SX := .us .bool 251 (.at .amap 8) roomX25 roomX26 (.int 0)
def roomX28 : SX := .us .bool 268 roomX26 (.int 0) (.int 0) (.int 0)
def roomX29 : SX := .f2 40 (.us .int 260 roomX26 (.int 0) (.int 0) (.int 0)) (.int 1)
def roomX30 : SX := .f1 23 roomX29
def roomX31 : SX := .us .ints 242 roomX25 (.int 0) (.int 0) (.int 0)
def roomX32 : SX := .f2 155 roomX31 roomX31
def roomX33 : SX := .us .g 267 roomX26 (.us .int 258 roomX26 (.int 0) (.int 0) (.int 0)) (.us .int 259 roomX26 (.int 0) (.int 0) (.int 0)) roomX29
def roomX34 : SX := .us .bool 268 roomX33 (.int 0) (.int 0) (.int 0)
def roomX35 : SX := .f2 155 roomX9 roomX33
def roomVc : VC := (.imp (.f2 47 (.us .int 206 (.at .g 3) (.int 0) (.int 0) (.int 0)) (.int 4611686018427387904)) (.imp (.f2 47 (.us .int 211 (.at .g 3) (.int 0) (.int 
    0) (.int 0)) (.int 1099511627776)) (.imp (.f2 47 (.f1 30 (.us .ints 209 (.at .g 3) (.int 0) (.int 0) (.int 0))) (.int 140737488355328)) (.imp (.f2 47 
    roomX0 (.int 4611686018427387904)) (.all 4 .int (.all 5 .int (.all 6 .rows (.all 7 .amap (.imp (.us .bool 251 (.at .amap 7) (.at .rows 6) (.at .g 2) 
    (.int 0)) (.imp (.us .bool 268 (.at .g 2) (.int 0) (.int 0) (.int 0)) (.imp (.f2 45 (.f1 32 (.at .rows 6)) roomX1) (.imp (.f2 47 (.int 0) (.at .int 
    4)) (.imp (.us .bool 246 (.at .int 5) roomX2 (.int 0) (.int 0)) (.imp (.us .bool 249 (.at .int 5) roomX2 (.int 0) (.int 0)) (.need (.f2 155 roomX2 
    roomX2) (.and (.imp (.f2 46 roomX1 roomX3) (.need roomX5 (.need roomX8 (.need roomX10 (.need roomX12 .tt))))) (.imp (.f2 47 roomX3 roomX1) (.and (.imp 
    (.f2 46 roomX13 (.int 0)) (.need roomX5 (.need roomX8 (.need roomX10 (.need (.f2 45 roomX11 (.int 40)) .tt))))) (.imp (.f2 47 (.int 0) roomX13) (.need 
    (.f2 46 roomX14 (.f1 32 (.at .rows 6))) (.imp (.f2 47 roomX16 (.f3 112 (.at .rows 6) roomX14 (.int 2))) (.imp (.f2 50 (.f2 47 (.int 0) (.f3 112 (.at 
    .rows 6) roomX14 (.int 1))) (.f2 45 roomX16 (.int 0))) (.and (.imp roomX17 (.need (.f2 47 roomX16 roomX16) (.need (.f2 47 roomX16 (.int 
    1099511627776)) (.need (.f2 47 (.us .int 206 roomX7 (.int 0) (.int 0) (.int 0)) (.int 4611686018427387904)) (.need (.f2 47 (.us .int 211 roomX7 (.int 
    0) (.int 0) (.int 0)) (.int 1099511627776)) (.need (.f2 47 (.f1 30 (.us .ints 209 roomX7 (.int 0) (.int 0) (.int 0))) (.int 140737488355328)) (.and 
    (.imp (.f1 2 roomX21) (.need roomX22 (.need roomX23 (.need roomX5 (.need roomX24 (.need roomX10 (.need (.f2 45 roomX11 roomX20) .tt))))))) (.imp 
    roomX21 (.need roomX22 (.need roomX23 (.all 8 .amap (.imp roomX27 (.imp roomX28 (.need roomX30 (.need roomX32 (.need roomX34 (.need roomX24 (.need 
    roomX35 (.need roomX12 .tt))))))))))))))))))) (.imp (.f1 2 roomX17) (.need roomX22 (.need roomX23 (.all 8 .amap (.imp roomX27 (.imp roomX28 (.need 
    roomX30 (.need roomX32 (.need roomX34 (.need roomX8 (.need roomX35 (.need roomX12 .tt)))))))))))))))))))))))))))))))))))
theorem room_vc : vcOf Try.prog roomCx 12 24 roomCtr = roomVc := by kernel_rfl
-- END VC room
-- PROOFS
theorem cache_specs {S : Sig GG} (hS : CsSig S) : SpecsOk S Try.prog cacheS := ⟨one_spec (by decide) (full_ok S hS), one_spec (by decide) (old_ok S hS), one_spec (by decide) (goes_ok S hS), one_spec (by decide) (comes_ok S hS), one_spec (by decide) (write_ok S hS.dv), one_spec (by decide) (read_ok S hS.dv), link_specs hS⟩
theorem map_getD (R : List (List Int)) (k : Nat) (h : k < R.length) : (R.map g0).getD k 0 = g0 (R.getD k []) := by
  rw [List.getD_eq_getElem?_getD, List.getD_eq_getElem?_getD, List.getElem?_map, List.getElem?_eq_getElem h]; rfl
theorem room_ok (S : Sig GG) (hS : CsSig S) : CtrOk S Try.prog 24 roomCtr := by
  refine vcOf_sound S (C := roomCx) (fuel := 12) (cx_of (cache_specs hS) ⟨⟨⟨by decide, nrP_gh S hS⟩, ⟨by decide, unCs_gh S hS⟩, ⟨by decide, ndR_gh S hS.rg⟩, ⟨by decide, opF_gh S hS⟩, ⟨by decide, rdF_gh S hS⟩, ⟨by decide, rdF_gh S hS⟩, ⟨by decide, foK_gh S hS⟩, trivial⟩, trivial⟩ trivial) fun ρ => ?_
  rw [room_vc]
  simp only [roomVc, roomX0, roomX1, roomX2, roomX3, roomX4, roomX5, roomX6, roomX7, roomX8, roomX9, roomX10, roomX11, roomX12, roomX13, roomX14, roomX15, roomX16, roomX17, roomX18, roomX19, roomX20, roomX21, roomX22, roomX23, roomX24, roomX25, roomX26, roomX27, roomX28, roomX29, roomX30, roomX31, roomX32, roomX33, roomX34, roomX35, hS.u280, hS.u281, hS.u282, co_g, dvOf_g, hS.dv.u200, hS.dv.u201, hS.dv.u202, hS.dv.u203, hS.dv.u204, hS.dv.u205, hS.dv.u206, hS.dv.u207, hS.dv.u208, hS.dv.u209, hS.dv.u210, hS.dv.u211, hS.dv.u212, hS.dv.u213, hS.dv.u214, hS.dv.u215, hS.dv.u216, hS.dv.u217, hS.dv.u220, hS.dv.u221, hS.dv.u222, hS.dv.u223, hS.dv.u224, hS.dv.u225, hS.dv.u226, hS.dv.u227, hS.dv.u228, hS.dv.u229, hS.dv.u230, hS.dv.u231, hS.dv.u232, hS.dv.u233, hS.dv.u234, co_g, csOf_g, hS.rg.u240, hS.rg.u241, hS.rg.u242, hS.rg.u243, hS.rg.u244, hS.rg.u245, hS.rg.u246, hS.rg.u247, hS.rg.u248, hS.rg.u249, hS.u250, hS.u251, hS.u252, hS.u253, hS.u254, hS.u255, hS.u256, hS.u257, hS.u258, hS.u259, hS.u260, hS.u261, hS.u262, hS.u263, hS.u264, hS.u265, hS.u266, hS.u267, hS.u268, hS.u269, hS.u270, hS.u271, hS.u272, hS.u273, hS.u274, VC.den, SX.den, co_int, co_bool, co_bytes, co_ints, co_rows, co_map, Env.upd, p155, p153, p23, p45, p46, p47, p50, b46, b47, t46, t47, p2_45, ap1_2, ap1_30, ap1_31, ap1_32, ap1_152, ap1_153, ap1_154, ap2_40, ap2_41, ap2_42, ap2_43, ap2_45, p48_b, ap2_51i, ap2_52i, ap2_110, ap2_111, ap2_113, ap2_114, ap2_115, ap2_117, ap2_120, ap2_126, ap2_141, ap3_112, ap3_140, beq_iff_eq, Bool.not_eq_true', beq_eq_false_iff_ne, ne_eq, Bool.not_not, U.toProp_bool, U.toBool_bool, i64lo, i64hi, U.toInt_int, U.toInts_ints, U.toBytes_bytes, U.toRows_rows, U.toMap_amap, Int.toNat_zero, Nat.reduceEqDiff, reduceIte, propB_iff, leB_iff, ltB_iff, U.int.injEq, U.bool.injEq, U.bytes.injEq, U.ints.injEq, U.rows.injEq]
  generalize csOf (U.co S .g (ρ 2)) = c
  generalize dvOf (U.co S .g (ρ 3)) = d
  intro q1 q2 q3 q4 hm H R m hh hg hlen hpos hnd hp
  have key : ∀ h : 0 ≤ oldP R c, c.old < c.fr.length ∧ rowI (oldP R c) R = c.old ∧ oldP R c = g0 (R.getD c.old []) := by
    intro h
    unfold oldP at h ⊢
    by_cases ho : c.old < c.fr.length
    · rw [if_pos ho] at h ⊢
      have hoR : c.old < R.length := by omega
      refine ⟨ho, ?_, rfl⟩
      rw [rowI_idx, ← map_getD R c.old hoR]
      exact idx_nod (List.nodup_cons.1 hnd).2 (by rw [List.length_map]; exact hoR)
    · rw [if_neg ho] at h; omega
  have key2 : oldP R c < 0 → c.fr.length ≤ c.old := by
    intro h
    rcases Nat.lt_or_ge c.old c.fr.length with ho | ho
    · unfold oldP at h
      rw [if_pos ho] at h
      have := hp (g0 (R.getD c.old [])) (List.mem_cons_of_mem _ (by
        have hoR : c.old < R.length := by omega
        rw [← map_getD R c.old hoR, List.getD_eq_getElem?_getD, List.getElem?_eq_getElem (by rw [List.length_map]; exact hoR)]; exact List.getElem_mem _))
      omega
    · exact ho
  refine ⟨?_, fun hlt => ?_, fun hge => ⟨fun hneg => ?_, fun h0 => ?_⟩⟩
  · first | trivial | rfl
  · have hl : ((c.fr.length : Nat) : Int) < c.frames := hlt
    refine ⟨hg, ?_, ?_, ?_, trivial⟩
    · unfold Cs.roomD; rw [if_pos (.inl hl)]
    · unfold Cs.roomC; rw [if_pos (.inl hl)]
    · unfold Cs.roomE; rw [if_pos hl]
  · have ho := key2 hneg
    refine ⟨hg, ?_, ?_, ?_, trivial⟩
    · unfold Cs.roomD; rw [if_pos (.inr ho)]
    · unfold Cs.roomC; rw [if_pos (.inr ho)]
    · unfold Cs.roomE; rw [if_neg (by omega), if_pos ho]
  · obtain ⟨k1, k2, k3⟩ := key h0
    have hf : ¬ ((c.fr.length : Int) < c.frames ∨ c.fr.length ≤ c.old) := by omega
    have hoF : c.at' (c.old : Nat) = c.oldF := rfl
    have hb : c.oldF.b.length ≤ 65536 := hg.b _ (by
      show c.fr.getD ((c.old : Nat) : Int).toNat fr0 ∈ c.fr
      rw [Int.toNat_natCast, List.getD_eq_getElem?_getD, List.getElem?_eq_getElem k1]; exact List.getElem_mem _)
    have hge' : GoodC c.evict := by
      have h := hg.gone ((c.old : Nat) : Int)
      have hc := hg.cnt
      exact ⟨h.frames, h.len, h.nod, h.pins, ⟨hc.1, hc.2.1, show 0 ≤ c.evic + 1 by omega⟩, h.b⟩
    have hi : -9223372036854775808 ≤ c.evic + 1 ∧ c.evic + 1 ≤ 9223372036854775807 := by have hc := hg.cnt; omega
    simp only [k2, Int.toNat_natCast, List.take_length, hoF]
    refine ⟨by omega, fun _ _ => ⟨fun hd => ⟨?_, ?_, q1, q2, q3, fun he => ⟨?_, k3, hg, ?_, ?_, ?_, trivial⟩, fun he => ⟨?_, k3, fun m' hh' hg' => ⟨hi, ?_, hge', ?_, ?_, ?_, trivial⟩⟩⟩, fun hd => ⟨?_, k3, fun m' hh' hg' => ⟨hi, ?_, hge', ?_, ?_, ?_, trivial⟩⟩⟩⟩
    · exact Int.le_refl _
    · omega
    · omega
    · unfold Cs.roomD; rw [if_neg hf, if_pos hd]
    · unfold Cs.roomC; rw [if_neg hf, if_pos ⟨hd, he⟩]
    · unfold Cs.roomE; rw [if_neg (fun h => hf (.inl h)), if_neg (fun h => hf (.inr h)), if_pos hd]
    · omega
    · first | trivial | rfl
    · unfold Cs.roomD; rw [if_neg hf, if_pos hd]
    · unfold Cs.roomC; rw [if_neg hf, if_neg (fun h => h.2 he)]; rfl
    · unfold Cs.roomE; rw [if_neg (fun h => hf (.inl h)), if_neg (fun h => hf (.inr h)), if_pos hd]; exact he
    · omega
    · first | trivial | rfl
    · unfold Cs.roomD; rw [if_neg hf, if_neg (by rw [hd]; decide)]
    · unfold Cs.roomC; rw [if_neg hf, if_neg (fun h => by rw [hd] at h; exact absurd h.1 (by decide))]; rfl
    · unfold Cs.roomE; rw [if_neg (fun h => hf (.inl h)), if_neg (fun h => hf (.inr h)), if_neg (by rw [hd]; decide)]
end
end Go.Proofs.Ytlcfjjjdhdfbdaa

/- A cache: hold. -/
set_option linter.unusedSimpArgs false
set_option linter.unusedVariables false
namespace Go.Proofs.Ytlcfjjjdhdfbdaa
noncomputable section
open Go.Eng
def holdS : List (Nat × List Ctr) := (24, [roomCtr]) :: cacheS
def holdG : SX := usG 283 (gA 2) (gA 3) (ai 4)
def holdEX : SX := usI 285 (gA 2) (gA 3) (ai 4)
/-- 0 the cache; 1 its device; 2, 3 how they stand; 4 the page; out of it: 5 the map, 6 the row's end, 7 the places, 8 the map's content, 9 the link. -/
def holdCtr : Ctr := ⟨[.int, .int, .g, .g, .int], [.one (.ptr (ai 0) 0), .one (.int .i64 (ai 4))], [csC (ai 0) (ai 1) (gA 2), plC (ai 1) (gA 3)],
  dvQ (gA 3) ++ [eLe (usI 205 (gA 3) z0 z0) big62, eLe (usI 258 (gA 2) z0 z0) big62, eLe (usI 259 (gA 2) z0 z0) big62, eLe (usI 260 (gA 2) z0 z0) big62], [.int, .int, .rows, .amap, .int],
  .tup [(false, [.ptr (ai 9) 0]), (false, [.int .i64 holdEX])],
  [.cel (ai 0) 0 (celQ (ai 1) (ai 5) (ai 6) holdG), mpC (ai 5) (mA 8), rgC (ai 6) (rgX (rA 7)), frC (rA 7) holdG, plC (ai 1) (usG 284 (gA 2) (gA 3) (ai 4))],
  [usB 251 (mA 8) (rA 7) holdG, usB 268 holdG z0 z0, usB 246 (ai 6) (rgX (rA 7)) z0, .f2 50 (.f1 2 (.f2 45 holdEX z0)) (.f2 45 (ai 9) (nt (rA 7) (SX.mk2 41 (lenR (rA 7)) (.int 1)) 0))]⟩
def holdCx : Cx := { specs := holdS, anns := [(18, [(0, .ghost nrPC []), (0, .ghost gdPC []), (1, .ghost unCsC [.tmp 0]), (1, .ghost ndRC []), (5, .ghost rtFC [.tmp 6]), (12, .ghost foKC [.tmp 0]), (14, .ghost unCsC [.tmp 0]), (14, .ghost ndRC []), (15, .ghost unCsC [.tmp 0]), (16, .ghost rwKC [.tmp 0]), (999999, .ghost rwKC [.tmp 0]), (999999, .ghost ndRC [])])] }
-- BEGIN VC hold
def holdX0 : SX := .us .int 258 (.at .g 2) (.int 0) (.int 0) (.int 0)
def holdX1 : SX := .us .int 259 (.at .g 2) (.int 0) (.int 0) (.int 0)
def holdX2 : SX := .us .int 260 (.at .g 2) (.int 0) (.int 0) (.int 0)
def holdX3 : SX := .us .g 234 (.at .g 3) (.int 0) (.int 0) (.int 0)
def holdX4 : SX := .us .int 256 (.at .g 2) (.int 0) (.int 0) (.int 0)
def holdX5 : SX := .us .ints 242 (.at .rows 7) (.int 0) (.int 0) (.int 0)
def holdX6 : SX := .us .bool 246 (.at .int 6) holdX5 (.int 0) (.int 0)
def holdX7 : SX := .us .bool 249 (.at .int 6) holdX5 (.int 0) (.int 0)
def holdX8 : SX := .f2 141 (.at .amap 8) (.at .int 4)
def holdX9 : SX := .f3 140 (.int (- (0 + 1))) (.at .amap 8) (.at .int 4)
def holdX10 : SX := .us .int 250 (.at .rows 7) holdX9 (.int 0) (.int 0)
def holdX11 : SX := .f2 40 holdX0 (.int 1)
def holdX12 : SX := .us .g 263 (.at .g 2) holdX10 (.int 0) (.int 0)
def holdX13 : SX := .us .int 257 (.at .g 2) (.int 0) (.int 0) (.int 0)
def holdX14 : SX := .us .ints 243 (.us .ints 240 holdX5 holdX9 (.int 0) (.int 0)) holdX9 (.int 0) (.int 0)
def holdX15 : SX := .us .rows 270 (.at .rows 7) holdX10 (.int 0) (.int 0)
def holdX16 : SX := .us .g 283 (.at .g 2) (.at .g 3) (.at .int 4) (.int 0)
def holdX17 : SX := .us .bool 268 holdX16 (.int 0) (.int 0) (.int 0)
def holdX18 : SX := .us .ints 242 holdX15 (.int 0) (.int 0) (.int 0)
def holdX19 : SX := .us .int 285 (.at .g 2) (.at .g 3) (.at .int 4) (.int 0)
def holdX20 : SX := .f2 45 holdX19 (.int 0)
def holdX21 : SX := .f1 2 holdX20
def holdX22 : SX := .us .g 284 (.at .g 2) (.at .g 3) (.at .int 4) (.int 0)
def holdX23 : SX := .f2 155 holdX22 holdX3
def holdX24 : SX := .us .g 267 holdX12 holdX11 holdX1 holdX2
def holdX25 : SX := .us .int 260 holdX16 (.int 0) (.int 0) (.int 0)
def holdX26 : SX := .us .int 259 holdX16 (.int 0) (.int 0) (.int 0)
def holdX27 : SX := .us .int 258 holdX16 (.int 0) (.int 0) (.int 0)
def holdX28 : SX := .us .int 257 holdX16 (.int 0) (.int 0) (.int 0)
def holdX29 : SX := .us .int 272 (.at .rows 7) (.at .g 2) (.int 0) (.int 0)
def holdX30 : SX := .us .bool 251 (.at .amap 8) (.at .rows 7) holdX16 (.int 0)
def holdX31 : SX := .f2 50 holdX21 (.f2 45 (.int (- (0 + 1))) (.f3 112 (.at .rows 7) (.f2 40 (.f1 32 (.at .rows 7)) (.int (- (0 + 1)))) (.int 0)))
def holdX32 : SX := .us .g 267 (.at .g 2) holdX0 holdX1 holdX2
def holdX33 : SX := .f2 155 holdX16 holdX32
def holdX34 : SX := .us .int 260 holdX32 (.int 0) (.int 0) (.int 0)
def holdX35 : SX := .f2 45 holdX25 holdX34
def holdX36 : SX := .f2 45 holdX26 (.us .int 259 holdX32 (.int 0) (.int 0) (.int 0))
def holdX37 : SX := .f2 45 holdX27 (.us .int 258 holdX32 (.int 0) (.int 0) (.int 0))
def holdX38 : SX := .f2 45 holdX28 (.us .int 257 holdX32 (.int 0) (.int 0) (.int 0))
def holdX39 : SX := .f2 47 (.us .int 205 holdX3 (.int 0) (.int 0) (.int 0)) (.int 4611686018427387904)
def holdX40 : SX := .f2 114 (.at .bytes 12) (.at .int 10)
def holdX41 : SX := .us .bytes 223 holdX3 (.at .int 4) (.int 0) (.int 0)
def holdX42 : SX := .f2 155 holdX40 holdX41
def holdX43 : SX := .f2 45 (.at .int 10) (.f1 31 holdX41)
def holdX44 : SX := .f2 47 (.at .int 10) (.f1 31 (.at .bytes 12))
def holdX45 : SX := .f2 47 (.at .int 10) (.at .int 11)
def holdX46 : SX := .f2 45 (.at .int 13) (.us .int 213 holdX3 (.at .int 4) (.int 0) (.int 0))
def holdX47 : SX := .f2 50 (.f2 47 (.int 0) (.at .int 9)) (.f2 45 (.at .int 10) (.int 0))
def holdX48 : SX := .f2 45 (.at .int 13) (.int 0)
def holdX49 : SX := .f1 2 holdX48
def holdX50 : SX := .us .g 220 holdX3 (.at .int 4) (.int 0) (.int 0)
def holdX51 : SX := .f2 155 holdX22 holdX50
def holdX52 : SX := .f2 45 holdX19 (.at .int 13)
def holdX53 : SX := .us .bool 268 holdX32 (.int 0) (.int 0) (.int 0)
def holdX54 : SX := .f2 47 (.us .int 206 holdX50 (.int 0) (.int 0) (.int 0)) (.int 4611686018427387904)
def holdX55 : SX := .f2 47 (.us .int 211 holdX50 (.int 0) (.int 0) (.int 0)) (.int 1099511627776)
def holdX56 : SX := .f2 47 (.f1 30 (.us .ints 209 holdX50 (.int 0) (.int 0) (.int 0))) (.int 140737488355328)
def holdX57 : SX := .f2 47 holdX34 (.int 4611686018427387904)
def holdX58 : SX := .us .int 282 holdX32 holdX50 (.int 0) (.int 0)
def holdX59 : SX := .f2 45 holdX58 (.int 0)
def holdX60 : SX := .f1 2 holdX59
def holdX61 : SX := .us .g 280 holdX32 holdX50 (.int 0) (.int 0)
def holdX62 : SX := .us .bool 251 (.at .amap 17) (.at .rows 16) holdX61 (.int 0)
def holdX63 : SX := .us .bool 268 holdX61 (.int 0) (.int 0) (.int 0)
def holdX64 : SX := .f2 45 (.f1 32 (.at .rows 16)) (.us .int 256 holdX61 (.int 0) (.int 0) (.int 0))
def holdX65 : SX := .f2 47 (.int 0) (.at .int 14)
def holdX66 : SX := .us .ints 242 (.at .rows 16) (.int 0) (.int 0) (.int 0)
def holdX67 : SX := .us .bool 246 (.at .int 15) holdX66 (.int 0) (.int 0)
def holdX68 : SX := .us .bool 249 (.at .int 15) holdX66 (.int 0) (.int 0)
def holdX69 : SX := .us .bool 251 (.at .amap 17) (.at .rows 16) holdX16 (.int 0)
def holdX70 : SX := .f2 50 holdX21 (.f2 45 (.int (- (0 + 1))) (.f3 112 (.at .rows 16) (.f2 40 (.f1 32 (.at .rows 16)) (.int (- (0 + 1)))) (.int 0)))
def holdX71 : SX := .f2 155 holdX22 (.us .g 281 holdX32 holdX50 (.int 0) (.int 0))
def holdX72 : SX := .us .int 258 holdX61 (.int 0) (.int 0) (.int 0)
def holdX73 : SX := .us .int 259 holdX61 (.int 0) (.int 0) (.int 0)
def holdX74 : SX := .us .int 260 holdX61 (.int 0) (.int 0) (.int 0)
def holdX75 : SX := .us .g 267 holdX61 holdX72 holdX73 holdX74
def holdX76 : SX := .f2 155 holdX16 holdX75
def holdX77 : SX := .f2 45 holdX25 (.us .int 260 holdX75 (.int 0) (.int 0) (.int 0))
def holdX78 : SX := .f2 45 holdX26 (.us .int 259 holdX75 (.int 0) (.int 0) (.int 0))
def holdX79 : SX := .f2 45 holdX27 (.us .int 258 holdX75 (.int 0) (.int 0) (.int 0))
def holdX80 : SX := .f2 45 holdX28 (.us .int 257 holdX75 (.int 0) (.int 0) (.int 0))
def holdX81 : SX := .f2 45 holdX19 holdX58
def holdX82 : SX := .f2 40 holdX73 (.int 1)
def holdX83 : SX := .f1 23 holdX82
def holdX84 : SX := .f2 155 holdX66 holdX66
def holdX85 : SX := .us .g 267 holdX61 holdX72 holdX82 holdX74
def holdX86 : SX := .us .bool 251 (.at .amap 17) (.at .rows 16) holdX85 (.int 0)
def holdX87 : SX := .us .bool 268 holdX85 (.int 0) (.int 0) (.int 0)
def holdX88 : SX := .f2 47 (.int 0) (.at .int 10)
def holdX89 : SX := .f2 47 (.at .int 10) (.int 65536)
def holdX90 : SX := .us .int 256 holdX85 (.int 0) (.int 0) (.int 0)
def holdX91 : SX := .f2 47 holdX90 (.us .int 262 holdX85 (.at .int 4) (.int 0) (.int 0))
def holdX92 : SX := .f2 46 holdX90 (.us .int 257 holdX85 (.int 0) (.int 0) (.int 0))
def holdX93 : SX := .us .g 265 holdX85 (.at .int 4) holdX40 (.int 0)
def holdX94 : SX := .us .bool 251 (.at .amap 20) (.at .rows 19) holdX93 (.int 0)
def holdX95 : SX := .us .bool 268 holdX93 (.int 0) (.int 0) (.int 0)
def holdX96 : SX := .f2 45 (.f1 32 (.at .rows 19)) (.f2 40 (.f1 32 (.at .rows 16)) (.int 1))
def holdX97 : SX := .f2 45 (.f3 112 (.at .rows 19) (.f1 32 (.at .rows 16)) (.int 0)) (.at .int 18)
def holdX98 : SX := .us .ints 242 (.at .rows 19) (.int 0) (.int 0) (.int 0)
def holdX99 : SX := .us .bool 246 (.at .int 15) holdX98 (.int 0) (.int 0)
def holdX100 : SX := .us .bool 249 (.at .int 15) holdX98 (.int 0) (.int 0)
def holdX101 : SX := .us .bool 251 (.at .amap 20) (.at .rows 19) holdX16 (.int 0)
def holdX102 : SX := .f2 50 holdX21 (.f2 45 (.at .int 18) (.f3 112 (.at .rows 19) (.f2 40 (.f1 32 (.at .rows 19)) (.int (- (0 + 1)))) (.int 0)))
def holdX103 : SX := .us .g 267 holdX93 (.us .int 258 holdX93 (.int 0) (.int 0) (.int 0)) (.us .int 259 holdX93 (.int 0) (.int 0) (.int 0)) (.us .int 260 holdX93 (.int 0) (.int 0) (.int 0))
def holdX104 : SX := .f2 155 holdX16 holdX103
def holdX105 : SX := .f2 45 holdX25 (.us .int 260 holdX103 (.int 0) (.int 0) (.int 0))
def holdX106 : SX := .f2 45 holdX26 (.us .int 259 holdX103 (.int 0) (.int 0) (.int 0))
def holdX107 : SX := .f2 45 holdX27 (.us .int 258 holdX103 (.int 0) (.int 0) (.int 0))
def holdX108 : SX := .f2 45 holdX28 (.us .int 257 holdX103 (.int 0) (.int 0) (.int 0))
def holdVc : VC := (.imp (.f2 47 (.us .int 206 (.at .g 3) (.int 0) (.int 0) (.int 0)) (.int 4611686018427387904)) (.imp (.f2 47 (.us .int 211 (.at .g 3) (.int 0) (.int 
    0) (.int 0)) (.int 1099511627776)) (.imp (.f2 47 (.f1 30 (.us .ints 209 (.at .g 3) (.int 0) (.int 0) (.int 0))) (.int 140737488355328)) (.imp (.f2 47 
    (.us .int 205 (.at .g 3) (.int 0) (.int 0) (.int 0)) (.int 4611686018427387904)) (.imp (.f2 47 holdX0 (.int 4611686018427387904)) (.imp (.f2 47 holdX1 
    (.int 4611686018427387904)) (.imp (.f2 47 holdX2 (.int 4611686018427387904)) (.imp (.us .bool 215 holdX3 (.int 0) (.int 0) (.int 0)) (.all 5 .int 
    (.all 6 .int (.all 7 .rows (.all 8 .amap (.imp (.us .bool 251 (.at .amap 8) (.at .rows 7) (.at .g 2) (.int 0)) (.imp (.us .bool 268 (.at .g 2) (.int 
    0) (.int 0) (.int 0)) (.imp (.f2 45 (.f1 32 (.at .rows 7)) holdX4) (.imp (.f2 47 (.int 0) (.at .int 5)) (.imp holdX6 (.imp holdX7 (.and (.imp holdX8 
    (.need (.us .bool 241 holdX5 holdX9 (.int 0) (.int 0)) (.all 9 .int (.all 10 .int (.need (.f2 46 holdX10 (.f1 32 (.at .rows 7))) (.need (.f1 23 
    holdX11) (.need (.f2 45 (.us .int 257 holdX12 (.int 0) (.int 0) (.int 0)) holdX13) (.imp (.us .bool 246 (.at .int 6) holdX14 (.int 0) (.int 0)) (.imp 
    (.us .bool 249 (.at .int 6) holdX14 (.int 0) (.int 0)) (.need (.us .bool 251 (.at .amap 8) holdX15 holdX16 (.int 0)) (.need holdX17 (.need (.us .bool 
    246 (.at .int 6) holdX18 (.int 0) (.int 0)) (.need (.f2 50 holdX21 (.f2 45 holdX9 (.f3 112 holdX15 (.f2 40 (.f1 32 holdX15) (.int (- (0 + 1)))) (.int 
    0)))) (.need holdX23 (.need (.f2 155 holdX16 holdX24) (.need (.f2 155 holdX18 holdX14) (.need (.f2 45 holdX25 (.us .int 260 holdX24 (.int 0) (.int 0) 
    (.int 0))) (.need (.f2 45 holdX26 (.us .int 259 holdX24 (.int 0) (.int 0) (.int 0))) (.need (.f2 45 holdX27 (.us .int 258 holdX24 (.int 0) (.int 0) 
    (.int 0))) (.need (.f2 45 holdX28 (.us .int 257 holdX24 (.int 0) (.int 0) (.int 0))) (.need holdX20 .tt))))))))))))))))))))) (.imp (.f1 2 holdX8) 
    (.need (.f2 155 holdX5 holdX5) (.and (.imp (.f2 47 holdX13 holdX4) (.and (.imp (.f2 46 holdX29 (.int 0)) (.imp holdX6 (.imp holdX7 (.need holdX30 
    (.need holdX17 (.need holdX31 (.need holdX23 (.need holdX33 (.need holdX35 (.need holdX36 (.need holdX37 (.need holdX38 (.need (.f2 45 holdX19 (.int 
    40)) .tt))))))))))))) (.imp (.f2 47 (.int 0) holdX29) (.need holdX39 (.all 9 .int (.all 10 .int (.all 11 .int (.all 12 .bytes (.all 13 .int (.imp 
    holdX42 (.imp holdX43 (.imp holdX44 (.imp holdX45 (.imp holdX46 (.imp holdX47 (.and (.imp holdX49 (.imp holdX6 (.imp holdX7 (.need holdX30 (.need 
    holdX17 (.need holdX31 (.need holdX51 (.need holdX33 (.need holdX35 (.need holdX36 (.need holdX37 (.need holdX38 (.need holdX52 .tt))))))))))))) (.imp 
    holdX48 (.need holdX53 (.need holdX54 (.need holdX55 (.need holdX56 (.need holdX57 (.and (.imp holdX60 (.all 14 .int (.all 15 .int (.all 16 .rows 
    (.all 17 .amap (.imp holdX62 (.imp holdX63 (.imp holdX64 (.imp holdX65 (.imp holdX67 (.imp holdX68 (.imp holdX67 (.imp holdX68 (.need holdX69 (.need 
    holdX17 (.need holdX70 (.need holdX71 (.need holdX76 (.need holdX77 (.need holdX78 (.need holdX79 (.need holdX80 (.need holdX81 
    .tt))))))))))))))))))))))) (.imp holdX59 (.all 14 .int (.all 15 .int (.all 16 .rows (.all 17 .amap (.imp holdX62 (.imp holdX63 (.imp holdX64 (.imp 
    holdX65 (.need holdX83 (.need holdX84 (.need holdX86 (.need holdX87 (.need holdX88 (.need holdX89 (.need holdX91 (.need holdX92 (.all 18 .int (.all 19 
    .rows (.all 20 .amap (.imp holdX94 (.imp holdX95 (.imp holdX96 (.imp holdX97 (.imp holdX99 (.imp holdX99 (.imp holdX100 (.need holdX101 (.need holdX17 
    (.need holdX102 (.need holdX71 (.need holdX104 (.need holdX105 (.need holdX106 (.need holdX107 (.need holdX108 (.need holdX20 
    .tt)))))))))))))))))))))))))))))))))))))))))))))))))))))))))))) (.imp (.f2 46 holdX4 holdX13) (.need holdX39 (.all 9 .int (.all 10 .int (.all 11 .int 
    (.all 12 .bytes (.all 13 .int (.imp holdX42 (.imp holdX43 (.imp holdX44 (.imp holdX45 (.imp holdX46 (.imp holdX47 (.and (.imp holdX49 (.imp holdX6 
    (.imp holdX7 (.need holdX30 (.need holdX17 (.need holdX31 (.need holdX51 (.need holdX33 (.need holdX35 (.need holdX36 (.need holdX37 (.need holdX38 
    (.need holdX52 .tt))))))))))))) (.imp holdX48 (.need holdX53 (.need holdX54 (.need holdX55 (.need holdX56 (.need holdX57 (.and (.imp holdX60 (.all 14 
    .int (.all 15 .int (.all 16 .rows (.all 17 .amap (.imp holdX62 (.imp holdX63 (.imp holdX64 (.imp holdX65 (.imp holdX67 (.imp holdX68 (.imp holdX67 
    (.imp holdX68 (.need holdX69 (.need holdX17 (.need holdX70 (.need holdX71 (.need holdX76 (.need holdX77 (.need holdX78 (.need holdX79 (.need holdX80 
    (.need holdX81 .tt))))))))))))))))))))))) (.imp holdX59 (.all 14 .int (.all 15 .int (.all 16 .rows (.all 17 .amap (.imp holdX62 (.imp holdX63 (.imp 
    holdX64 (.imp holdX65 (.need holdX83 (.need holdX84 (.need holdX86 (.need holdX87 (.need holdX88 (.need holdX89 (.need holdX91 (.need holdX92 (.all 18 
    .int (.all 19 .rows (.all 20 .amap (.imp holdX94 (.imp holdX95 (.imp holdX96 (.imp holdX97 (.imp holdX99 (.imp holdX99 (.imp holdX100 (.need holdX101 
    (.need holdX17 (.need holdX102 (.need holdX71 (.need holdX104 (.need holdX105 (.need holdX106 (.need holdX107 (.need holdX108 (.need holdX20 
    .tt))))))))))))))))))))))))))))))))))))))))))))))))))))))))))))))))))))))))))))))))
theorem hold_vc : vcOf Try.prog holdCx 12 18 holdCtr = holdVc := by kernel_rfl
-- END VC hold
-- PROOFS
theorem hold_specs {S : Sig GG} (hS : CsSig S) : SpecsOk S Try.prog holdS := ⟨one_spec (by decide) (room_ok S hS), cache_specs hS⟩
theorem GoodC.hit {c : Cs} (h : GoodC c) {n : Int} (hj : c.idx n < c.fr.length) (hn : ((c.fr.take (c.idx n) ++ c.fr.drop (c.idx n + 1) ++ [c.fr.getD (c.idx n) fr0]).map (·.n)).Nodup) : GoodC (c.hitC n) := by
  have hsub : ∀ f ∈ (c.hitC n).fr, f ∈ c.fr := by
    intro f hf
    have hf : f ∈ c.fr.take (c.idx n) ++ c.fr.drop (c.idx n + 1) ++ [c.fr.getD (c.idx n) fr0] := hf
    rcases List.mem_append.1 hf with hf | hf
    · rcases List.mem_append.1 hf with hf | hf
      · exact List.mem_of_mem_take hf
      · exact List.mem_of_mem_drop hf
    · rw [List.mem_singleton.1 hf, List.getD_eq_getElem?_getD, List.getElem?_eq_getElem hj]; exact List.getElem_mem _
  have hl := h.len
  have hc := h.cnt
  refine ⟨h.frames, ?_, hn, fun f hf => h.pins f (hsub f hf), ⟨show 0 ≤ c.hits + 1 by omega, hc.2.1, hc.2.2⟩, fun f hf => h.b f (hsub f hf)⟩
  show ((c.fr.take (c.idx n) ++ c.fr.drop (c.idx n + 1) ++ [c.fr.getD (c.idx n) fr0]).length : Int) ≤ c.frames
  simp only [List.length_append, List.length_take, List.length_drop, List.length_singleton]; omega
theorem rot_last {R : List (List Int)} {j : Nat} (hj : j < R.length) : (rotR R (j : Nat)).getD (((rotR R (j : Nat)).length : Int) + -1).toNat [] = R.getD j [] := by
  have hl : (gonR R (j : Nat)).length = R.length - 1 := by
    show (R.take j ++ R.drop (j + 1)).length = _
    rw [List.length_append, List.length_take, List.length_drop]; omega
  have hk : (((rotR R (j : Nat)).length : Int) + -1).toNat = (gonR R (j : Nat)).length := by
    show (((gonR R (j : Nat) ++ [_]).length : Int) + -1).toNat = _
    rw [List.length_append]; show (((_ + 1 : Nat) : Int) + -1).toNat = _; omega
  rw [hk]
  show (gonR R (j : Nat) ++ [R.getD j []]).getD _ [] = _
  rw [List.getD_eq_getElem?_getD, List.getElem?_append_right (Nat.le_refl _), Nat.sub_self]; rfl
theorem no_hit {c : Cs} {n : Int} (h : ¬ c.hit n) : ∀ f ∈ c.fr, (f.n == n) = false := by
  intro f hf
  obtain ⟨i, hi, e⟩ := List.getElem_of_mem hf
  have hl : i < c.idx n := Nat.lt_of_lt_of_le hi (Nat.le_of_not_lt h)
  have := (idxL_lt (P := fun f => f.n == n) hl).2
  rw [List.getD_eq_getElem?_getD, List.getElem?_eq_getElem hi, Option.getD_some, e] at this
  exact this
theorem room_is {c : Cs} {d : Dv} (hg : GoodC c) (h : c.roomE d = 0) : (c.roomC d = c ∧ (c.fr.length : Int) < c.frames) ∨ (c.roomC d = c.evict ∧ c.old < c.fr.length) := by
  unfold Cs.roomE at h
  unfold Cs.roomC
  by_cases h1 : (c.fr.length : Int) < c.frames
  · exact .inl ⟨if_pos (.inl h1), h1⟩
  · rw [if_neg h1] at h
    by_cases h2 : c.fr.length ≤ c.old
    · rw [if_pos h2] at h; cases h
    · rw [if_neg h2] at h
      refine .inr ⟨?_, by omega⟩
      rw [if_neg (by rintro (h | h); exact h1 h; exact h2 h)]
      by_cases h3 : c.oldF.dirty = true
      · rw [if_pos h3] at h
        exact if_neg (fun q => q.2 h)
      · exact if_neg (fun q => h3 q.1)
theorem evict_sub {c : Cs} : ∀ f ∈ c.evict.fr, f ∈ c.fr := by
  intro f hf
  have hf : f ∈ c.fr.take ((c.old : Nat) : Int).toNat ++ c.fr.drop (((c.old : Nat) : Int).toNat + 1) := hf
  rcases List.mem_append.1 hf with h | h
  · exact List.mem_of_mem_take h
  · exact List.mem_of_mem_drop h
theorem room_rest {c : Cs} {d : Dv} {n : Int} (hg : GoodC c) (hno : ¬ c.hit n) (h : c.roomE d = 0) : (c.roomC d).misses = c.misses ∧ ((c.roomC d).fr.length : Int) ≤ ((c.roomC d).idx n : Nat) ∧ ((c.roomC d).fr.length : Int) < (c.roomC d).frames := by
  have hl := hg.len
  rcases room_is hg h with ⟨e, h1⟩ | ⟨e, h1⟩
  · rw [e]
    refine ⟨rfl, ?_, h1⟩
    have := idxL_none (no_hit hno)
    show _ ≤ ((idxL _ c.fr : Nat) : Int)
    rw [this]; exact Int.le_refl _
  · rw [e]
    refine ⟨rfl, ?_, ?_⟩
    · have := idxL_none (P := fun f => f.n == n) (l := c.evict.fr) (fun f hf => no_hit hno f (evict_sub f hf))
      show _ ≤ ((idxL _ c.evict.fr : Nat) : Int)
      rw [this]; exact Int.le_refl _
    · show ((c.fr.take ((c.old : Nat) : Int).toNat ++ c.fr.drop (((c.old : Nat) : Int).toNat + 1)).length : Int) < c.frames
      rw [List.length_append, List.length_take, List.length_drop, Int.toNat_natCast]; omega
set_option maxRecDepth 20000 in
theorem hold_ok (S : Sig GG) (hS : CsSig S) : CtrOk S Try.prog 18 holdCtr := by
  refine vcOf_sound S (C := holdCx) (fuel := 12) (cx_of (hold_specs hS) ⟨⟨⟨by decide, nrP_gh S hS⟩, ⟨by decide, gdP_gh S hS⟩, ⟨by decide, unCs_gh S hS⟩, ⟨by decide, ndR_gh S hS.rg⟩, ⟨by decide, rtF_gh S hS⟩, ⟨by decide, foK_gh S hS⟩, ⟨by decide, unCs_gh S hS⟩, ⟨by decide, ndR_gh S hS.rg⟩, ⟨by decide, unCs_gh S hS⟩, ⟨by decide, rwK_gh S hS⟩, ⟨by decide, rwK_gh S hS⟩, ⟨by decide, ndR_gh S hS.rg⟩, trivial⟩, trivial⟩ trivial) fun ρ => ?_
  rw [hold_vc]
  simp only [holdVc, holdX0, holdX1, holdX2, holdX3, holdX4, holdX5, holdX6, holdX7, holdX8, holdX9, holdX10, holdX11, holdX12, holdX13, holdX14, holdX15, holdX16, holdX17, holdX18, holdX19, holdX20, holdX21, holdX22, holdX23, holdX24, holdX25, holdX26, holdX27, holdX28, holdX29, holdX30, holdX31, holdX32, holdX33, holdX34, holdX35, holdX36, holdX37, holdX38, holdX39, holdX40, holdX41, holdX42, holdX43, holdX44, holdX45, holdX46, holdX47, holdX48, holdX49, holdX50, holdX51, holdX52, holdX53, holdX54, holdX55, holdX56, holdX57, holdX58, holdX59, holdX60, holdX61, holdX62, holdX63, holdX64, holdX65, holdX66, holdX67, holdX68, holdX69, holdX70, holdX71, holdX72, holdX73, holdX74, holdX75, holdX76, holdX77, holdX78, holdX79, holdX80, holdX81, holdX82, holdX83, holdX84, holdX85, holdX86, holdX87, holdX88, holdX89, holdX90, holdX91, holdX92, holdX93, holdX94, holdX95, holdX96, holdX97, holdX98, holdX99, holdX100, holdX101, holdX102, holdX103, holdX104, holdX105, holdX106, holdX107, holdX108, hS.u280, hS.u281, hS.u282, hS.u283, hS.u284, hS.u285, co_g, dvOf_g, hS.dv.u200, hS.dv.u201, hS.dv.u202, hS.dv.u203, hS.dv.u204, hS.dv.u205, hS.dv.u206, hS.dv.u207, hS.dv.u208, hS.dv.u209, hS.dv.u210, hS.dv.u211, hS.dv.u212, hS.dv.u213, hS.dv.u214, hS.dv.u215, hS.dv.u216, hS.dv.u217, hS.dv.u220, hS.dv.u221, hS.dv.u222, hS.dv.u223, hS.dv.u224, hS.dv.u225, hS.dv.u226, hS.dv.u227, hS.dv.u228, hS.dv.u229, hS.dv.u230, hS.dv.u231, hS.dv.u232, hS.dv.u233, hS.dv.u234, co_g, csOf_g, hS.rg.u240, hS.rg.u241, hS.rg.u242, hS.rg.u243, hS.rg.u244, hS.rg.u245, hS.rg.u246, hS.rg.u247, hS.rg.u248, hS.rg.u249, hS.u250, hS.u251, hS.u252, hS.u253, hS.u254, hS.u255, hS.u256, hS.u257, hS.u258, hS.u259, hS.u260, hS.u261, hS.u262, hS.u263, hS.u264, hS.u265, hS.u266, hS.u267, hS.u268, hS.u269, hS.u270, hS.u271, hS.u272, hS.u273, hS.u274, VC.den, SX.den, co_int, co_bool, co_bytes, co_ints, co_rows, co_map, Env.upd, p155, p153, p23, p45, p46, p47, p50, b46, b47, t46, t47, p2_45, ap1_2, ap1_30, ap1_31, ap1_32, ap1_152, ap1_153, ap1_154, ap2_40, ap2_41, ap2_42, ap2_43, ap2_45, p48_b, ap2_51i, ap2_52i, ap2_110, ap2_111, ap2_113, ap2_114, ap2_115, ap2_117, ap2_120, ap2_126, ap2_141, ap3_112, ap3_140, beq_iff_eq, Bool.not_eq_true', beq_eq_false_iff_ne, ne_eq, Bool.not_not, U.toProp_bool, U.toBool_bool, i64lo, i64hi, U.toInt_int, U.toInts_ints, U.toBytes_bytes, U.toRows_rows, U.toMap_amap, Int.toNat_zero, Nat.reduceEqDiff, reduceIte, propB_iff, leB_iff, ltB_iff, U.int.injEq, U.bool.injEq, U.bytes.injEq, U.ints.injEq, U.rows.injEq]
  generalize csOf (U.co S .g (ρ 2)) = c
  generalize dvOf (U.co S .g (ρ 3)) = d
  generalize (ρ 4).toInt = n
  intro q1 q2 q3 q4 q5 q6 q7 hgd hm H R m hh hg hlen hpos hnd hp
  have hhas := hh.has n
  refine ⟨fun hit => ?_, fun nohit => ⟨?_, fun hfull => ⟨fun hneg => ?_, fun h0 => ?_⟩, fun hnf => ?_⟩⟩
  · have hj : c.idx n < c.fr.length := hhas.1 hit
    have hlen' := hh.1
    have hl : mget (-(0 + 1)) m n = g0 (R.getD (c.idx n) []) := by have := hh.get (d := -(0 + 1)) hj; rwa [Cs.idx_n hj] at this
    have hr : rowI (mget (-(0 + 1)) m n) R = c.idx n := by
      rw [hl, rowI_idx, ← map_getD R _ (by omega)]; exact idx_nod (List.nodup_cons.1 hnd).2 (by rw [List.length_map]; omega)
    have hC : c.holdC d n = c.hitC n := if_pos hj
    have hE : c.holdE d n = 0 := if_pos hj
    have hD : c.holdD d n = d := if_pos (.inl hj)
    have hrot : (rotR R (c.idx n : Nat)).map g0 = (R.map g0).erase (mget (-(0 + 1)) m n) ++ [mget (-(0 + 1)) m n] := by
      rw [erase_row, hr, hl]
      show (gonR R _ ++ [_]).map g0 = _
      rw [List.map_append]; rfl
    simp only [hr, hC, hE, hD]
    refine ⟨?_, fun _ _ => ⟨by omega, ?_, rfl, fun nd2 hp2 => ⟨hh.rot hj, ?_, by rw [hrot]; exact nd2, ?_, trivial, rfl, hrot, rfl, rfl, rfl, rfl, trivial, trivial⟩⟩⟩
    · exact rowI_mem (by rw [hr]; omega)
    · have hc := hg.cnt; omega
    · exact hg.hit hj (hh.rot hj).2.1
    · have e := rot_last (R := R) (show c.idx n < R.length by omega)
      exact .inr (hl.trans (congrArg g0 e.symm))
  · first | trivial | rfl
  · have hno : ¬ c.hit n := fun h => by rw [hhas.2 h] at nohit; cases nohit
    have hst : c.stuck := by
      refine ⟨hfull, ?_⟩
      rcases Nat.lt_or_ge c.old c.fr.length with ho | ho
      · unfold oldP at hneg
        rw [if_pos ho] at hneg
        have hoR : c.old < R.length := by omega
        have := hp (g0 (R.getD c.old [])) (List.mem_cons_of_mem _ (by
          rw [← map_getD R c.old hoR, List.getD_eq_getElem?_getD, List.getElem?_eq_getElem (by rw [List.length_map]; exact hoR)]; exact List.getElem_mem _))
        omega
      · exact ho
    have hC : c.holdC d n = c := by unfold Cs.holdC; rw [if_neg hno, if_pos (.inl hst)]
    have hE : c.holdE d n = 40 := by unfold Cs.holdE; rw [if_neg hno, if_pos hst]
    have hD : c.holdD d n = d := if_pos (.inr (.inl hst))
    simp only [hC, hE, hD]
    intro nd2 hp2
    refine ⟨hh, hg, .inl (by decide), trivial, trivial, trivial, trivial, trivial, trivial, trivial, trivial⟩
  all_goals
    have hno : ¬ c.hit n := fun h => by rw [hhas.2 h] at nohit; cases nohit
    have hst : ¬ c.stuck := by
      rintro ⟨s1, s2⟩
      first
        | omega
        | (unfold oldP at h0; rw [if_neg (by omega)] at h0; omega)
    have eta : ({ fr := c.fr, frames := c.frames, hits := c.hits, misses := c.misses, evic := c.evic } : Cs) = c := rfl
    have w1 : (d.rdD n).wr = d.wr := by unfold Dv.rdD; split <;> rfl
    have w2 : (d.rdD n).w = d.w := by unfold Dv.rdD; split <;> rfl
    have w3 : (d.rdD n).keep = d.keep := by unfold Dv.rdD; split <;> rfl
    simp only [eta, w1, w2, w3]
    refine ⟨q4, fun rb rl rc B re f1 f2 f3 f4 f5 f6 => ⟨fun he => ?_, fun he => ?_⟩⟩
    · rw [f5] at he ⊢
      have hC : c.holdC d n = c := by unfold Cs.holdC; rw [if_neg hno, if_pos (.inr he)]
      have hE : c.holdE d n = d.ref n := by unfold Cs.holdE; rw [if_neg hno, if_neg hst, if_pos he]
      have hD : c.holdD d n = d := if_pos (.inr (.inr he))
      have hrd : d.rdD n = d := if_pos he
      simp only [hC, hE, hD, hrd]
      intro nd2 hp2
      exact ⟨hh, hg, .inl he, trivial, trivial, trivial, trivial, trivial, trivial, trivial, trivial⟩
    · rw [f5] at he
      refine ⟨hg, q1, q2, q3, q7, fun he2 => ?_, fun he2 => ?_⟩
      · have hC : c.holdC d n = c.roomC (d.rdD n) := by unfold Cs.holdC; rw [if_neg hno, if_neg (by rintro (h | h); exact hst h; exact h he), if_pos he2]
        have hE : c.holdE d n = c.roomE (d.rdD n) := by unfold Cs.holdE; rw [if_neg hno, if_neg hst, if_neg (fun h => h he)]
        have hD : c.holdD d n = c.roomD (d.rdD n) := if_neg (by rintro (h | h | h); exact hno h; exact hst h; exact h he)
        simp only [hC, hE, hD]
        intro hm' H' R' m' hh' hg' hl' hpos' _ _ nd2 hp2
        exact ⟨hh', hg', .inl he2, trivial, trivial, trivial, trivial, trivial, trivial, trivial, trivial⟩
      · obtain ⟨r1, r2, r3⟩ := room_rest hg hno he2
        have hc := hg.cnt
        intro hm' H' R' m' hh' hg' hl' hpos'
        have hcnt' := hg'.cnt
        rw [r1] at hcnt'
        simp only [r1]
        refine ⟨by omega, ?_, hh', ⟨hg'.frames, hg'.len, hg'.nod, hg'.pins, ⟨hcnt'.1, by show 0 ≤ c.misses + 1; omega, hcnt'.2.2⟩, hg'.b⟩, ?_, ?_, r2, r3, fun l R2 m2 => ?_⟩
        · first | trivial | rfl
        · rw [f2]; omega
        · have hrd : d.rdB n = d.read n := if_neg (fun h => h he)
          have hn : 0 ≤ n ∧ n < d.pages := by
            unfold Dv.ref at he
            cases hdn : d.down
            · rw [hdn] at he
              have he : (if n < 0 ∨ d.pages ≤ n then (30 : Int) else 0) = 0 := he
              by_cases h : n < 0 ∨ d.pages ≤ n
              · rw [if_pos h] at he; cases he
              · omega
            · rw [hdn] at he; cases he
          have h1 := read_len hgd hn.1 hn.2
          have h2 := size_le hgd.size
          rw [f2, hrd]; omega
        · have hca : (c.roomC (d.rdD n)).came n (d.rdB n) = ({ c.roomC (d.rdD n) with misses := c.misses + 1 } : Cs).addF n (d.rdB n) := by unfold Cs.came; rw [r1]; rfl
          have hC : c.holdC d n = ({ c.roomC (d.rdD n) with misses := c.misses + 1 } : Cs).addF n (d.rdB n) := by rw [← hca]; unfold Cs.holdC; rw [if_neg hno, if_neg (by rintro (h | h); exact hst h; exact h he), if_neg (fun h => h he2)]
          have hE : c.holdE d n = 0 := by unfold Cs.holdE; rw [if_neg hno, if_neg hst, if_neg (fun h => h he)]; exact he2
          have hD : c.holdD d n = c.roomD (d.rdD n) := if_neg (by rintro (h | h | h); exact hno h; exact hst h; exact h he)
          simp only [hC, hE, hD, f1]
          intro hh2 hg2 hl2 hnt _ nd2 hp2
          have hl3 : (((R2.length : Nat) : Int) + -1).toNat = ((R'.length : Nat) : Int).toNat := by omega
          refine ⟨hh2, hg2, .inr ?_, by first | trivial | rfl, by first | trivial | rfl, by first | trivial | rfl, by first | trivial | rfl, by first | trivial | rfl, by first | trivial | rfl, trivial, trivial⟩
          show l = (R2.getD (((R2.length : Nat) : Int) + -1).toNat []).getD 0 0
          rw [hl3]
          exact hnt.symm
end
end Go.Proofs.Ytlcfjjjdhdfbdaa

/- A cache: Get. -/
set_option linter.unusedSimpArgs false
set_option linter.unusedVariables false
namespace Go.Proofs.Ytlcfjjjdhdfbdaa
noncomputable section
open Go.Eng
def getS : List (Nat × List Ctr) := (18, [holdCtr]) :: (19, [cl1Ctr]) :: holdS
/-- 0 the cache; 1 its device; 2, 3 how they stand; 4 the page; 5, 6, 7 the bytes, 8 what they hold. -/
def getCtr : Ctr := ⟨[.int, .int, .g, .g, .int], [.one (.ptr (ai 0) 0), .one (.int .i64 (ai 4))], [csC (ai 0) (ai 1) (gA 2), plC (ai 1) (gA 3)], holdCtr.reqs, [.int, .int, .int, .bytes],
  .tup [(false, [sl1 (ai 5) (ai 6) (ai 7)]), (false, [.int .i64 holdEX])], [csC (ai 0) (ai 1) (usG 273 holdG z0 z0), plC (ai 1) (usG 284 (gA 2) (gA 3) (ai 4)), bAr (ai 5) (bA 8) (ai 7)],
  [.f2 50 (.f1 2 (.f2 45 holdEX z0)) (eqS (tkB (bA 8) (ai 6)) (usY 253 holdG (SX.mk2 41 (usI 256 holdG z0 z0) (.int 1)) z0)), .f2 50 (eLe z0 (ai 5)) (.f2 45 (ai 6) z0), eLe z0 (ai 6), eLe (ai 6) (lenB (bA 8)), eLe (ai 6) (ai 7)]⟩
def getCx : Cx := { specs := getS, anns := [(7, [(4, .ghost opFC [.tmp 6]), (500004, .ghost rdFC [.tmp 6]), (999999, .ghost foKC [.tmp 0]), (999999, .ghost emBC [])])] }
-- BEGIN VC get
def getVc : VC := (.imp (.f2 47 (.us .int 206 (.at .g 3) (.int 0) (.int 0) (.int 0)) (.int 4611686018427387904)) (.imp (.f2 47 (.us .int 211 (.at .g 3) (.int 0) (.int 0)
    (.int 0)) (.int 1099511627776)) (.imp (.f2 47 (.f1 30 (.us .ints 209 (.at .g 3) (.int 0) (.int 0) (.int 0))) (.int 140737488355328)) (.imp (.f2 47
    (.us .int 205 (.at .g 3) (.int 0) (.int 0) (.int 0)) (.int 4611686018427387904)) (.imp (.f2 47 (.us .int 258 (.at .g 2) (.int 0) (.int 0) (.int 0))
    (.int 4611686018427387904)) (.imp (.f2 47 (.us .int 259 (.at .g 2) (.int 0) (.int 0) (.int 0)) (.int 4611686018427387904)) (.imp (.f2 47 (.us .int
    260 (.at .g 2) (.int 0) (.int 0) (.int 0)) (.int 4611686018427387904)) (.all 5 .int (.all 6 .int (.all 7 .rows (.all 8 .amap (.all 9 .int (.imp
    (.us .bool 251 (.at .amap 8) (.at .rows 7) (.us .g 283 (.at .g 2) (.at .g 3) (.at .int 4) (.int 0)) (.int 0)) (.imp (.us .bool 268 (.us .g 283 (.at
    .g 2) (.at .g 3) (.at .int 4) (.int 0)) (.int 0) (.int 0) (.int 0)) (.imp (.us .bool 246 (.at .int 6) (.us .ints 242 (.at .rows 7) (.int 0) (.int
    0) (.int 0)) (.int 0) (.int 0)) (.imp (.f2 50 (.f1 2 (.f2 45 (.us .int 285 (.at .g 2) (.at .g 3) (.at .int 4) (.int 0)) (.int 0))) (.f2 45 (.at
    .int 9) (.f3 112 (.at .rows 7) (.f2 40 (.f1 32 (.at .rows 7)) (.int (-(0 + 1)))) (.int 0)))) (.and (.imp (.f1 2 (.f2 45 (.us .int 285 (.at .g 2)
    (.at .g 3) (.at .int 4) (.int 0)) (.int 0))) (.need (.f2 155 (.us .ints 242 (.at .rows 7) (.int 0) (.int 0) (.int 0)) (.us .ints 242 (.at .rows 7)
    (.int 0) (.int 0) (.int 0))) (.need (.us .bool 268 (.us .g 267 (.us .g 283 (.at .g 2) (.at .g 3) (.at .int 4) (.int 0)) (.us .int 258 (.us .g 283
    (.at .g 2) (.at .g 3) (.at .int 4) (.int 0)) (.int 0) (.int 0) (.int 0)) (.us .int 259 (.us .g 283 (.at .g 2) (.at .g 3) (.at .int 4) (.int 0))
    (.int 0) (.int 0) (.int 0)) (.us .int 260 (.us .g 283 (.at .g 2) (.at .g 3) (.at .int 4) (.int 0)) (.int 0) (.int 0) (.int 0))) (.int 0) (.int 0)
    (.int 0)) (.need (.f2 50 (.f1 2 (.f2 45 (.us .int 285 (.at .g 2) (.at .g 3) (.at .int 4) (.int 0)) (.int 0))) (.f2 155 (.f1 153 (.int 0)) (.us
    .bytes 253 (.us .g 283 (.at .g 2) (.at .g 3) (.at .int 4) (.int 0)) (.f2 40 (.us .int 256 (.us .g 283 (.at .g 2) (.at .g 3) (.at .int 4) (.int 0))
    (.int 0) (.int 0) (.int 0)) (.int (-(0 + 1)))) (.int 0) (.int 0)))) (.need (.f2 155 (.us .g 273 (.us .g 283 (.at .g 2) (.at .g 3) (.at .int 4)
    (.int 0)) (.int 0) (.int 0) (.int 0)) (.us .g 267 (.us .g 283 (.at .g 2) (.at .g 3) (.at .int 4) (.int 0)) (.us .int 258 (.us .g 283 (.at .g 2)
    (.at .g 3) (.at .int 4) (.int 0)) (.int 0) (.int 0) (.int 0)) (.us .int 259 (.us .g 283 (.at .g 2) (.at .g 3) (.at .int 4) (.int 0)) (.int 0) (.int
    0) (.int 0)) (.us .int 260 (.us .g 283 (.at .g 2) (.at .g 3) (.at .int 4) (.int 0)) (.int 0) (.int 0) (.int 0)))) .tt))))) (.imp (.f2 45 (.us .int
    285 (.at .g 2) (.at .g 3) (.at .int 4) (.int 0)) (.int 0)) (.need (.f2 46 (.us .int 250 (.at .rows 7) (.at .int 9) (.int 0) (.int 0)) (.f1 32 (.at
    .rows 7))) (.imp (.f2 47 (.f1 31 (.us .bytes 253 (.us .g 283 (.at .g 2) (.at .g 3) (.at .int 4) (.int 0)) (.us .int 250 (.at .rows 7) (.at .int 9)
    (.int 0) (.int 0)) (.int 0) (.int 0))) (.f3 112 (.at .rows 7) (.us .int 250 (.at .rows 7) (.at .int 9) (.int 0) (.int 0)) (.int 2))) (.imp (.f2 50
    (.f2 47 (.int 0) (.f3 112 (.at .rows 7) (.us .int 250 (.at .rows 7) (.at .int 9) (.int 0) (.int 0)) (.int 1))) (.f2 45 (.f1 31 (.us .bytes 253 (.us
    .g 283 (.at .g 2) (.at .g 3) (.at .int 4) (.int 0)) (.us .int 250 (.at .rows 7) (.at .int 9) (.int 0) (.int 0)) (.int 0) (.int 0))) (.int 0)))
    (.need (.f2 47 (.f1 31 (.us .bytes 253 (.us .g 283 (.at .g 2) (.at .g 3) (.at .int 4) (.int 0)) (.us .int 250 (.at .rows 7) (.at .int 9) (.int 0)
    (.int 0)) (.int 0) (.int 0))) (.f1 31 (.us .bytes 253 (.us .g 283 (.at .g 2) (.at .g 3) (.at .int 4) (.int 0)) (.us .int 250 (.at .rows 7) (.at
    .int 9) (.int 0) (.int 0)) (.int 0) (.int 0)))) (.need (.f2 47 (.f1 31 (.us .bytes 253 (.us .g 283 (.at .g 2) (.at .g 3) (.at .int 4) (.int 0))
    (.us .int 250 (.at .rows 7) (.at .int 9) (.int 0) (.int 0)) (.int 0) (.int 0))) (.int 1099511627776)) (.all 10 .int (.all 11 .bytes (.all 12 .int
    (.imp (.f2 155 (.f2 114 (.at .bytes 11) (.f1 31 (.us .bytes 253 (.us .g 283 (.at .g 2) (.at .g 3) (.at .int 4) (.int 0)) (.us .int 250 (.at .rows
    7) (.at .int 9) (.int 0) (.int 0)) (.int 0) (.int 0)))) (.f2 114 (.us .bytes 253 (.us .g 283 (.at .g 2) (.at .g 3) (.at .int 4) (.int 0)) (.us .int
    250 (.at .rows 7) (.at .int 9) (.int 0) (.int 0)) (.int 0) (.int 0)) (.f1 31 (.us .bytes 253 (.us .g 283 (.at .g 2) (.at .g 3) (.at .int 4) (.int
    0)) (.us .int 250 (.at .rows 7) (.at .int 9) (.int 0) (.int 0)) (.int 0) (.int 0))))) (.imp (.f2 45 (.f1 31 (.at .bytes 11)) (.f1 31 (.us .bytes
    253 (.us .g 283 (.at .g 2) (.at .g 3) (.at .int 4) (.int 0)) (.us .int 250 (.at .rows 7) (.at .int 9) (.int 0) (.int 0)) (.int 0) (.int 0)))) (.imp
    (.f2 47 (.f1 31 (.us .bytes 253 (.us .g 283 (.at .g 2) (.at .g 3) (.at .int 4) (.int 0)) (.us .int 250 (.at .rows 7) (.at .int 9) (.int 0) (.int
    0)) (.int 0) (.int 0))) (.at .int 12)) (.imp (.f2 50 (.f2 47 (.int 0) (.at .int 10)) (.f2 45 (.f1 31 (.us .bytes 253 (.us .g 283 (.at .g 2) (.at .g
    3) (.at .int 4) (.int 0)) (.us .int 250 (.at .rows 7) (.at .int 9) (.int 0) (.int 0)) (.int 0) (.int 0))) (.int 0))) (.need (.f2 47 (.int 0) (.us
    .int 250 (.at .rows 7) (.at .int 9) (.int 0) (.int 0))) (.need (.f2 45 (.at .int 9) (.f3 112 (.at .rows 7) (.us .int 250 (.at .rows 7) (.at .int 9)
    (.int 0) (.int 0)) (.int 0))) (.need (.f2 45 (.f1 32 (.at .rows 7)) (.us .int 256 (.us .g 283 (.at .g 2) (.at .g 3) (.at .int 4) (.int 0)) (.int 0)
    (.int 0) (.int 0))) (.need (.f2 155 (.us .ints 242 (.at .rows 7) (.int 0) (.int 0) (.int 0)) (.us .ints 242 (.at .rows 7) (.int 0) (.int 0) (.int
    0))) (.need (.us .bool 268 (.us .g 267 (.us .g 283 (.at .g 2) (.at .g 3) (.at .int 4) (.int 0)) (.us .int 258 (.us .g 283 (.at .g 2) (.at .g 3)
    (.at .int 4) (.int 0)) (.int 0) (.int 0) (.int 0)) (.us .int 259 (.us .g 283 (.at .g 2) (.at .g 3) (.at .int 4) (.int 0)) (.int 0) (.int 0) (.int
    0)) (.us .int 260 (.us .g 283 (.at .g 2) (.at .g 3) (.at .int 4) (.int 0)) (.int 0) (.int 0) (.int 0))) (.int 0) (.int 0) (.int 0)) (.need (.f2 50
    (.f1 2 (.f2 45 (.us .int 285 (.at .g 2) (.at .g 3) (.at .int 4) (.int 0)) (.int 0))) (.f2 155 (.f2 114 (.at .bytes 11) (.f1 31 (.us .bytes 253 (.us
    .g 283 (.at .g 2) (.at .g 3) (.at .int 4) (.int 0)) (.us .int 250 (.at .rows 7) (.at .int 9) (.int 0) (.int 0)) (.int 0) (.int 0)))) (.us .bytes
    253 (.us .g 283 (.at .g 2) (.at .g 3) (.at .int 4) (.int 0)) (.f2 40 (.us .int 256 (.us .g 283 (.at .g 2) (.at .g 3) (.at .int 4) (.int 0)) (.int
    0) (.int 0) (.int 0)) (.int (-(0 + 1)))) (.int 0) (.int 0)))) (.need (.f2 47 (.f1 31 (.us .bytes 253 (.us .g 283 (.at .g 2) (.at .g 3) (.at .int 4)
    (.int 0)) (.us .int 250 (.at .rows 7) (.at .int 9) (.int 0) (.int 0)) (.int 0) (.int 0))) (.f1 31 (.at .bytes 11))) (.need (.f2 155 (.us .g 273
    (.us .g 283 (.at .g 2) (.at .g 3) (.at .int 4) (.int 0)) (.int 0) (.int 0) (.int 0)) (.us .g 267 (.us .g 283 (.at .g 2) (.at .g 3) (.at .int 4)
    (.int 0)) (.us .int 258 (.us .g 283 (.at .g 2) (.at .g 3) (.at .int 4) (.int 0)) (.int 0) (.int 0) (.int 0)) (.us .int 259 (.us .g 283 (.at .g 2)
    (.at .g 3) (.at .int 4) (.int 0)) (.int 0) (.int 0) (.int 0)) (.us .int 260 (.us .g 283 (.at .g 2) (.at .g 3) (.at .int 4) (.int 0)) (.int 0) (.int
    0) (.int 0)))) .tt))))))))))))))))))))))))))))))))))))))
theorem get_vc : vcOf Try.prog getCx 12 7 getCtr = getVc := by kernel_rfl
-- END VC get
-- PROOFS
theorem get_specs {S : Sig GG} (hS : CsSig S) : SpecsOk S Try.prog getS := ⟨one_spec (by decide) (hold_ok S hS), one_spec (by decide) (cl1_ok S), hold_specs hS⟩
theorem hold_pos {c : Cs} {d : Dv} {n : Int} (h : c.holdE d n = 0) : 0 < (c.holdC d n).fr.length := by
  unfold Cs.holdE at h
  unfold Cs.holdC
  by_cases h1 : c.hit n
  · rw [if_pos h1]
    show 0 < (_ ++ [_]).length
    rw [List.length_append]; exact Nat.succ_pos _
  · rw [if_neg h1] at h ⊢
    by_cases h2 : c.stuck
    · rw [if_pos h2] at h; cases h
    · rw [if_neg h2] at h
      by_cases h3 : d.ref n ≠ 0
      · rw [if_pos h3] at h; exact absurd h h3
      · rw [if_neg h3] at h
        rw [if_neg (by rintro (q | q); exact h2 q; exact h3 q), if_neg (fun q => q h)]
        show 0 < (_ ++ [_]).length
        rw [List.length_append]; exact Nat.succ_pos _
/-- The link that hold gives. -/
theorem last_row {R : List (List Int)} {H l : Int} (hn : (H :: R.map g0).Nodup) (h0 : 0 < R.length) (hl : l = g0 (R.getD (((R.length : Nat) : Int) + -1).toNat [])) : rowI l R = R.length - 1 ∧ l = g0 (R.getD (R.length - 1) []) := by
  have e : (((R.length : Nat) : Int) + -1).toNat = R.length - 1 := by omega
  rw [e] at hl
  refine ⟨?_, hl⟩
  rw [hl, rowI_idx, ← map_getD R _ (by omega)]
  exact idx_nod (List.nodup_cons.1 hn).2 (by rw [List.length_map]; omega)
theorem get_ok (S : Sig GG) (hS : CsSig S) : CtrOk S Try.prog 7 getCtr := by
  refine vcOf_sound S (C := getCx) (fuel := 12) (cx_of (get_specs hS) ⟨⟨⟨by decide, opF_gh S hS⟩, ⟨by decide, rdF_gh S hS⟩, ⟨by decide, foK_gh S hS⟩, ⟨by decide, emB_gh S⟩, trivial⟩, trivial⟩ trivial) fun ρ => ?_
  rw [get_vc]
  simp only [getVc, hS.u280, hS.u281, hS.u282, hS.u283, hS.u284, hS.u285, co_g, dvOf_g, hS.dv.u200, hS.dv.u201, hS.dv.u202, hS.dv.u203, hS.dv.u204, hS.dv.u205, hS.dv.u206, hS.dv.u207, hS.dv.u208, hS.dv.u209, hS.dv.u210, hS.dv.u211, hS.dv.u212, hS.dv.u213, hS.dv.u214, hS.dv.u215, hS.dv.u216, hS.dv.u217, hS.dv.u220, hS.dv.u221, hS.dv.u222, hS.dv.u223, hS.dv.u224, hS.dv.u225, hS.dv.u226, hS.dv.u227, hS.dv.u228, hS.dv.u229, hS.dv.u230, hS.dv.u231, hS.dv.u232, hS.dv.u233, hS.dv.u234, co_g, csOf_g, hS.rg.u240, hS.rg.u241, hS.rg.u242, hS.rg.u243, hS.rg.u244, hS.rg.u245, hS.rg.u246, hS.rg.u247, hS.rg.u248, hS.rg.u249, hS.u250, hS.u251, hS.u252, hS.u253, hS.u254, hS.u255, hS.u256, hS.u257, hS.u258, hS.u259, hS.u260, hS.u261, hS.u262, hS.u263, hS.u264, hS.u265, hS.u266, hS.u267, hS.u268, hS.u269, hS.u270, hS.u271, hS.u272, hS.u273, hS.u274, VC.den, SX.den, co_int, co_bool, co_bytes, co_ints, co_rows, co_map, Env.upd, p155, p153, p23, p45, p46, p47, p50, b46, b47, t46, t47, p2_45, ap1_2, ap1_30, ap1_31, ap1_32, ap1_152, ap1_153, ap1_154, ap2_40, ap2_41, ap2_42, ap2_43, ap2_45, p48_b, ap2_51i, ap2_52i, ap2_110, ap2_111, ap2_113, ap2_114, ap2_115, ap2_117, ap2_120, ap2_126, ap2_141, ap3_112, ap3_140, beq_iff_eq, Bool.not_eq_true', beq_eq_false_iff_ne, ne_eq, Bool.not_not, U.toProp_bool, U.toBool_bool, i64lo, i64hi, U.toInt_int, U.toInts_ints, U.toBytes_bytes, U.toRows_rows, U.toMap_amap, Int.toNat_zero, Nat.reduceEqDiff, reduceIte, propB_iff, leB_iff, ltB_iff, U.int.injEq, U.bool.injEq, U.bytes.injEq, U.ints.injEq, U.rows.injEq]
  generalize csOf (U.co S .g (ρ 2)) = c
  generalize dvOf (U.co S .g (ρ 3)) = d
  generalize (ρ 4).toInt = n
  intro q1 q2 q3 q4 q5 q6 q7 hm H R m l hh hg hnd hor
  refine ⟨fun he => ⟨?_, hg, .inl he, ?_, trivial⟩, fun he => ?_⟩
  · first | trivial | rfl
  · first | trivial | rfl
  · have h0 : 0 < R.length := by rw [hh.1]; exact hold_pos he
    obtain ⟨k1, k2⟩ := last_row hnd h0 (hor.resolve_left (fun h => h he))
    have hlen := hh.1
    have hb := hg.b ((c.holdC d n).at' ((R.length - 1 : Nat) : Int)) (by
      show (c.holdC d n).fr.getD (R.length - 1) fr0 ∈ _
      rw [List.getD_eq_getElem?_getD, List.getElem?_eq_getElem (by omega)]; exact List.getElem_mem _)
    have hix : (((c.holdC d n).fr.length : Nat) : Int) + -1 = ((R.length - 1 : Nat) : Int) := by omega
    simp only [k1, hix]
    refine ⟨by omega, fun f1 f2 => ⟨by omega, by omega, fun b B cp g1 g2 g3 g4 => ⟨by omega, k2, by omega, ?_, hg, .inr ?_, by omega, ?_, trivial⟩⟩⟩
    · first | trivial | rfl
    · have e : (-(0 + 1) : Int) = -1 := rfl
      have hix' : ((((c.holdC d n).fr.length : Nat) : Int) + -(0 + 1)) = ((R.length - 1 : Nat) : Int) := hix
      rw [hix', g1, Int.toNat_natCast, List.take_length]
      show (ap2 155 _ _).toProp
      rw [p155]
    · first | trivial | rfl
end
end Go.Proofs.Ytlcfjjjdhdfbdaa
