/- CacheTells answers true, and what was handed in stays as it is, where it is of bulk at most 1048576. No other condition. -/
import Derived.Test.YtlcfjjjdhdfbdaaPt7
import Derived.Test.YtlcfjjjdhdfbdaaPt8
import Derived.Test.YtlcfjjjdhdfbdaaPt3
import Derived.Test.YtlcfjjjdhdfbdaaRows
import Derived.WalkKit
import Derived.ProofKit
import Derived.OpenShut
import Derived.JoinedCond
import Derived.Carry
namespace Go.Proofs.Ytlcfjjjdhdfbdaa.cacheTells
open Go.ChangeShapes Go.WideShapes Go.ChangeAt Go.RowKit
open Go.Eng (post_below Sig CtrOk GhOk emp star sat_none Sat Env U Ctr SX eLe rowVals ArgIs arg_ops opFds)
set_option linter.unusedVariables false
set_option linter.unusedSimpArgs false

theorem own : ownKnob Try.prog.godebug = none := by kernel_rfl
noncomputable def usr (n : Nat) (a b c d : U GG) : U GG :=
  match n with
  | 200 => .int (dvOf a).page
  | 201 => .bool (dvOf a).down
  | 202 => .int (dvOf a).acts
  | 203 => .int (dvOf a).torn
  | 204 => .int (dvOf a).at'
  | 205 => .int (dvOf a).rd
  | 206 => .int (dvOf a).wr
  | 207 => .int (dvOf a).sy
  | 208 => .bytes (dvOf a).safe
  | 209 => .ints (dvOf a).keep
  | 210 => .int (dvOf a).pages
  | 211 => .int ((dvOf a).w.length : Nat)
  | 212 => .bytes ((dvOf a).dat b.toInt)
  | 213 => .int ((dvOf a).ref b.toInt)
  | 214 => .bool (propB (lastOk a.toMap (dvOf b).w ∧ posM a.toMap))
  | 215 => .bool (propB (GoodD (dvOf a)))
  | 216 => .bool (propB ((dvOf a).w = (dvOf b).w))
  | 217 => .int ((dvOf a).pg b.toInt)
  | 220 => .g (.dv ((dvOf a).rdD b.toInt))
  | 221 => .g (.dv ((dvOf a).wrD b.toInt c.toBytes))
  | 222 => .int ((dvOf a).wrE b.toInt c.toBytes)
  | 223 => .bytes ((dvOf a).rdB b.toInt)
  | 224 => .g (.dv { dvOf a with wr := (dvOf a).wr + 1, w := (dvOf a).w ++ [(b.toInt, c.toBytes)] })
  | 225 => .g (.dv (dvOf a).fall)
  | 226 => .bytes (fallS (dvOf a) 0 ((dvOf a).w.take b.toInt.toNat) (dvOf a).safe)
  | 227 => .g (.dv (dvOf a).sync)
  | 228 => .int (dvOf a).syE
  | 229 => .bytes (dvOf a).image
  | 230 => .g (.dv { dvOf a with sy := (dvOf a).sy + 1 })
  | 231 => .bool ((a.toInts.take b.toInt.toNat).contains c.toInt)
  | 232 => .bytes ((dvOf a).place b.toInt)
  | 233 => .g (.dv { dvOf a with acts := actN (dvOf a).acts })
  | 234 => .g (.dv (dvOf a))
  | 235 => .bool (propB (imgOk (dvOf c) a.toBytes b.toMap))
  | 236 => .bool (propB (subM a.toMap b.toMap))
  | 237 => .bool (propB (a.toMap.map (·.1)).Nodup)
  | 240 => .ints (a.toInts.erase b.toInt)
  | 241 => .bool (propB (b.toInt ∈ a.toInts))
  | 242 => .ints (a.toRows.map g0)
  | 243 => .ints (a.toInts ++ [b.toInt])
  | 244 => .int (((a.toInt :: b.toInts).idxOf c.toInt : Nat))
  | 245 => .int ((b.toInts ++ [a.toInt]).idxOf c.toInt : Nat)
  | 246 => .bool (propB ((a.toInt :: b.toInts).Nodup))
  | 247 => .int ((b.toInts ++ [a.toInt]).getD ((a.toInt :: b.toInts).idxOf c.toInt) 0)
  | 248 => .bool (propB (c.toInt ∈ a.toInt :: b.toInts))
  | 249 => .bool (propB (∀ y ∈ a.toInt :: b.toInts, 0 ≤ y))
  | 250 => .int (rowI b.toInt a.toRows : Nat)
  | 251 => .bool (propB (heldOk a.toMap b.toRows (csOf c).fr))
  | 252 => .int ((csOf a).at' b.toInt).n
  | 253 => .bytes ((csOf a).at' b.toInt).b
  | 254 => .bool ((csOf a).at' b.toInt).dirty
  | 255 => .int ((csOf a).at' b.toInt).pins
  | 256 => .int ((csOf a).fr.length : Nat)
  | 257 => .int (csOf a).frames
  | 258 => .int (csOf a).hits
  | 259 => .int (csOf a).misses
  | 260 => .int (csOf a).evic
  | 261 => .int ((csOf a).old : Nat)
  | 262 => .int ((csOf a).idx b.toInt : Nat)
  | 263 => .g (.cs ((csOf a).touch b.toInt))
  | 264 => .g (.cs ((csOf a).gone b.toInt))
  | 265 => .g (.cs ((csOf a).addF b.toInt c.toBytes))
  | 266 => .g (.cs ((csOf a).putF b.toInt c.toBytes d.toInts))
  | 267 => .g (.cs { csOf a with hits := b.toInt, misses := c.toInt, evic := d.toInt })
  | 268 => .bool (propB (GoodC (csOf a)))
  | 269 => .rows (setR a.toRows b.toInt c.toInts)
  | 270 => .rows (rotR a.toRows b.toInt)
  | 271 => .rows (gonR a.toRows b.toInt)
  | 272 => .int (oldP a.toRows (csOf b))
  | 273 => .g (.cs (csOf a))
  | 274 => .bool (propB ((csOf a).fr = (csOf b).fr))
  | 280 => .g (.cs ((csOf a).roomC (dvOf b)))
  | 281 => .g (.dv ((csOf a).roomD (dvOf b)))
  | 282 => .int ((csOf a).roomE (dvOf b))
  | 283 => .g (.cs ((csOf a).holdC (dvOf b) c.toInt))
  | 284 => .g (.dv ((csOf a).holdD (dvOf b) c.toInt))
  | 285 => .int ((csOf a).holdE (dvOf b) c.toInt)
  | 287 => .g (.cs ((csOf a).pinC (dvOf b) c.toInt))
  | 288 => .bool (propB (∀ f ∈ (csOf a).fr, f.pins ≤ 4611686018427387904))
  | 289 => .g (.cs ((csOf a).unpC b.toInt))
  | 290 => .int ((csOf a).unpE b.toInt)
  | 291 => .int ((csOf a).dirN b.toMap : Nat)
  | 292 => .int ((csOf a).pinN b.toMap : Nat)
  | 293 => .g (.cs ((csOf a).clean b.toInt))
  | 294 => .g (.cs (flS c.toInts (csOf a) (dvOf b)).1)
  | 295 => .g (.dv (flS c.toInts (csOf a) (dvOf b)).2.1)
  | 296 => .int (flS c.toInts (csOf a) (dvOf b)).2.2
  | 297 => .ints ((csOf a).keys)
  | 298 => .ints (sortK (a.toMap.map (·.1)))
  | 299 => .g (.cs ((csOf a).putC (dvOf b) c.toInt d.toBytes))
  | 300 => .g (.dv ((csOf a).putD (dvOf b) c.toInt d.toBytes))
  | 301 => .int ((csOf a).putE (dvOf b) c.toInt d.toBytes)
  | 302 => .g (.cs ((csOf a).dropC b.toInt))
  | 303 => .int ((csOf a).dropE b.toInt)
  | 304 => .g (.cs (csNew a.toInt))
  | 305 => .bool (propB (∀ f ∈ (csOf a).fr, 0 ≤ f.n ∧ f.n < 65536))
  | 306 => .bool (propB (∀ p ∈ a.toMap, 0 ≤ p.1 ∧ p.1 < 65536))
  | 307 => .g (.dv (dvOn a.toInt b.toBytes))
  | 308 => .bytes (filledB a.toInt)
  | 309 => .g (.dv (dvNew a.toInt))
  | 310 => .bool (propB (fillS a.toBytes b.toInt c.toInt))
  | 320 => .bool (propB (Tell (csOf a) (dvOf b) c.toInts d.toInts))
  | 321 => .bool (propB (Cnt (csOf a) (dvOf b) c.toInt c.toInt))
  | 322 => .int (cntK a.toInts b.toInt : Nat)
  | 323 => .bool (propB (ansOk (csOf a) b.toInt c.toInt))
  | _ => .int 0
noncomputable def prd (n : Nat) (w0 : World) (k x : U GG) : Go.Eng.HProp :=
  match n with
  | 50 => plP k.toInt (dvOf x)
  | 51 => kp51 k.toRows (dvOf x)
  | 52 => kp52 k.toRows (dvOf x)
  | 60 => ringH k.toInt x.toInts
  | 61 => rsO (kRow k.toRows 0) (kRow k.toRows 1) (kRow k.toRows 2) (kRow k.toRows 3) (kRow k.toRows 4) (kRow k.toRows 5) x.toInts
  | 62 => rsL (kRow k.toRows 0) (kRow k.toRows 1) (kRow k.toRows 2) (kRow k.toRows 3) x.toInts
  | 63 => rsN (kRow k.toRows 0) (kRow k.toRows 1) (kRow k.toRows 2) (kRow k.toRows 3) (kRow k.toRows 4) x.toInts
  | 64 => rs2 (kRow k.toRows 0) (kRow k.toRows 1) (kRow k.toRows 2) (kRow k.toRows 3) (kRow k.toRows 4) (kRow k.toRows 5) x.toInts
  | 70 => frH k.toRows (csOf x).fr
  | 71 => kp71 k.toRows (csOf x)
  | 72 => csP (kRow k.toRows 0) (kRow k.toRows 1) (csOf x)
  | _ => emp
noncomputable def sig : Sig GG := { dg := gg0, ch := fun _ => true, usr := usr, prd := prd }
theorem hD : DvSig sig := by constructor <;> intros <;> rfl
theorem hR : RgSig sig := by constructor <;> intros <;> rfl
theorem hC : CsSig sig where
  dv := hD
  rg := hR
  p70 := fun _ _ _ => rfl
  p71 := fun _ _ _ => rfl
  p72 := fun _ _ _ => rfl
  u250 := fun _ _ _ _ => rfl
  u251 := fun _ _ _ _ => rfl
  u252 := fun _ _ _ _ => rfl
  u253 := fun _ _ _ _ => rfl
  u254 := fun _ _ _ _ => rfl
  u255 := fun _ _ _ _ => rfl
  u256 := fun _ _ _ _ => rfl
  u257 := fun _ _ _ _ => rfl
  u258 := fun _ _ _ _ => rfl
  u259 := fun _ _ _ _ => rfl
  u260 := fun _ _ _ _ => rfl
  u261 := fun _ _ _ _ => rfl
  u262 := fun _ _ _ _ => rfl
  u263 := fun _ _ _ _ => rfl
  u264 := fun _ _ _ _ => rfl
  u265 := fun _ _ _ _ => rfl
  u266 := fun _ _ _ _ => rfl
  u267 := fun _ _ _ _ => rfl
  u268 := fun _ _ _ _ => rfl
  u269 := fun _ _ _ _ => rfl
  u270 := fun _ _ _ _ => rfl
  u271 := fun _ _ _ _ => rfl
  u272 := fun _ _ _ _ => rfl
  u273 := fun _ _ _ _ => rfl
  u274 := fun _ _ _ _ => rfl
  u280 := fun _ _ _ _ => rfl
  u281 := fun _ _ _ _ => rfl
  u282 := fun _ _ _ _ => rfl
  u283 := fun _ _ _ _ => rfl
  u284 := fun _ _ _ _ => rfl
  u285 := fun _ _ _ _ => rfl
  u287 := fun _ _ _ _ => rfl
  u288 := fun _ _ _ _ => rfl
  u289 := fun _ _ _ _ => rfl
  u290 := fun _ _ _ _ => rfl
  u291 := fun _ _ _ _ => rfl
  u292 := fun _ _ _ _ => rfl
  u293 := fun _ _ _ _ => rfl
  u294 := fun _ _ _ _ => rfl
  u295 := fun _ _ _ _ => rfl
  u296 := fun _ _ _ _ => rfl
  u297 := fun _ _ _ _ => rfl
  u298 := fun _ _ _ _ => rfl
  u299 := fun _ _ _ _ => rfl
  u300 := fun _ _ _ _ => rfl
  u301 := fun _ _ _ _ => rfl
  u302 := fun _ _ _ _ => rfl
  u303 := fun _ _ _ _ => rfl
  u304 := fun _ _ _ _ => rfl
  u305 := fun _ _ _ _ => rfl
  u306 := fun _ _ _ _ => rfl
  u307 := fun _ _ _ _ => rfl
  u308 := fun _ _ _ _ => rfl
  u309 := fun _ _ _ _ => rfl
  u310 := fun _ _ _ _ => rfl
theorem hT : TlSig sig where
  cs := hC
  u320 := fun _ _ _ _ => rfl
  u321 := fun _ _ _ _ => rfl
  u322 := fun _ _ _ _ => rfl
  u323 := fun _ _ _ _ => rfl
noncomputable def env (f b o l c : Int) (L : List (List Int)) : Env GG := fun i => match i with
  | 0 => .int f | 1 => .int b | 2 => .int o | 3 => .int l | 4 => .int c | _ => .rows L
abbrev V6 (L : List (List Int)) : List Value := L.flatMap (rowVals opFds)
def Ro (w : World) (b o : Int) (vals : List Value) : Prop := (0 ≤ b ∨ vals = []) ∧ ∀ i v, vals[i]? = some v → b.toNat < w.heap.size ∧ w.cell? ⟨b.toNat, o.toNat + i, none⟩ = some v
def slV4 (b o l c : Int) : Value := .slice (if b < 0 then none else some ⟨b.toNat, o.toNat, none⟩) l.toNat c.toNat
/-- What was handed in, in memory: the law's call. -/
theorem walk (f b o l c : Int) (L : List (List Int)) (w : World) (h0 : 0 ≤ l ∧ l ≤ L.length ∧ l ≤ c ∧ l ≤ 1048576) (hr : Ro w b o (V6 L)) :
    Calls Try.prog 3 #[.int .i64 f, slV4 b o l c] w fun e w' => e = .returned (.bool true) ∧ Below w.heap.size w w' := by
  have q : ∀ e ∈ ctCtr.reqs, (e.den sig (env f b o l c L)).toProp := by
    intro e he
    simp only [ctCtr, List.mem_cons, List.not_mem_nil, or_false] at he
    rcases he with rfl | rfl | rfl | rfl
    all_goals simp [eLe, Go.Eng.SX.mk2, Go.Eng.SX.den, Go.Eng.ap1, Go.Eng.ap2, ai, rA, lenR, z0, env, U.co]
    all_goals omega
  have := (ct_ok sig hT) (fun _ => true) w emp (env f b o l c L) w [.int .i64 f, slV4 b o l c] (by
    show Go.Eng.argsR _ _ [.one (.int .i64 (ai 0)), .one (.slice (ai 1) (ai 2) z0 z0 (ai 3) (ai 4) 6)] _
    refine ⟨.inr ?_, .inr ?_, trivial⟩
    all_goals simp [slV4, Go.Eng.SV.den, Go.Eng.SC.den, Go.Eng.SX.den, ai, z0, env, U.co]) q (by
    obtain ⟨x, hx, hi⟩ := sat_none w
    rw [Go.Eng.emp_star] at hx
    refine ⟨x, ?_, hi⟩
    have e : Go.Eng.hpDen (sig.wc fun _ => true) (env f b o l c L) w ctCtr.pre = star (Go.Eng.roDen sig w opE (.int b) (.int o) (.rows L)) emp := rfl
    rw [e, Go.Eng.star_assoc, Go.Eng.roDen, Go.Eng.star_pure, Go.Eng.emp_star]
    exact ⟨hr, hx⟩)
  refine this.mono ?_
  rintro e w' ⟨ρ', v, hx, rfl, hv, hs, hfa⟩
  have hv : v = (Go.Eng.SC.bool (.bool true)).den sig ρ' := Go.Eng.R_one sig ρ' hv
  subst hv
  exact ⟨rfl, hs.below⟩
theorem bulk_len {H : Type} : ∀ l : List (DataW H), l.length ≤ Rows.uptoBulkAll l
  | [] => by simp [Rows.uptoBulkAll]
  | d :: r => by
    have h1 : 1 ≤ Rows.uptoBulk d := by
      cases d with
      | lit l => cases l <;> simp [Rows.uptoBulk]
      | _ => simp [Rows.uptoBulk]
    have := bulk_len r
    simp only [Rows.uptoBulkAll, List.length_cons]; omega
theorem arg_bulk {H : Type} {w : World} {v : Value} {d : DataW H} {b o l c : Int} {n : Nat} {vals : List Value} (h : ArgIs w v d b o l c n vals) : l ≤ Rows.uptoBulk d := by
  rcases h.2.2.2.2.2.2 with ⟨rfl, h⟩ | ⟨ds, sp, rfl, h⟩
  · simp [Rows.uptoBulk]; omega
  · have := bulk_len ds
    simp only [Rows.uptoBulk]; omega
theorem laid : laidOutB Try.prog = true := by kernel_rfl
set_option maxRecDepth 100000 in
theorem contract (H : Type) (enc : TypeId × Value → H) (W : World) (base : Nat) (args : Array Value) (ds gs : List (DataW H)) (before : List MemPlace)
    (hval : ∀ (j : Nat) t v, Try.f3.params[j]? = some t → args[j]? = some v → Value.okWide Try.prog W .any base t v)
    (hW : DataW.Whole enc Try.prog Try.f3.params.toList Rows.cacheTellsSpec.vars false W args.toList ds gs before) (hk : Rows.uptoSmall H (ds ++ gs) = true) :
    Calls Try.prog 3 args W fun e W' => ∃ v, e = .returned v ∧ Rows.cacheTellsSpec.post enc Try.prog Try.f3 false true false false W args v W' := by
  have hW' := hW
  obtain ⟨p, q, hA0, hV, rfl, hfz, hnd⟩ := hW
  have hA : DataW.TrodAll enc Try.prog W 0 (fun _ => true) true Try.f3.params.toList args.toList ds p := hA0
  rw [Try.params3] at hA hval
  obtain ⟨v0, vs0, d0, ds0, p0, q0, hargs, rfl, rfl, h0, r0⟩ := trodAll_cons hA
  obtain ⟨v1, vs1, d1, ds1, p1, q1, rfl, rfl, rfl, h1, r1⟩ := trodAll_cons r0
  obtain ⟨rfl, rfl, rfl⟩ := trodAll_nil r1
  obtain rfl : args = #[v0, v1] := by cases args; simp_all
  obtain ⟨rfl, rfl⟩ := trodVars_none hV
  have hlt : ∀ x ∈ p0 ++ (p1 ++ []), x.block < W.heap.size := fun x hx => hW'.lt x (List.mem_append_left _ hx)
  have fin : ∀ (e : Ending) (W' : World), (e = .returned (.bool true) ∧ Below W.heap.size W W') → ∃ v, e = .returned v ∧ Rows.cacheTellsSpec.post enc Try.prog Try.f3 false true false false W #[v0, v1] v W' := by
    rintro e W' ⟨rfl, hb⟩
    clear hA0
    refine ⟨_, rfl, post_below (pa := p0 ++ (p1 ++ [])) (pv := []) hW' (fun _ _ _ => (trodAll_cons_mk (shut_bool Try.underlying4 _) trodAll_mk0)) ?_ (fun _ _ => rfl) rfl hb
      (ok_one (by kernel_rfl) rfl (okWide_bool_mk Try.underlying4 _))⟩
    intro sp hsp
    refine trodAll_cons_mk ?_ (trodAll_cons_mk ?_ trodAll_mk0)
    · exact WideElems.Trod_stays laid (by kernel_rfl) (of_decide_eq_true (by kernel_rfl)) h0 (fun x hx => hb.same (hlt x (by simp [hx]))) (fun x hx => hsp x (by simp [hx]))
    · exact WideElems.Trod_stays laid (by kernel_rfl) (of_decide_eq_true (by kernel_rfl)) h1 (fun x hx => hb.same (hlt x (by simp [hx]))) (fun x hx => hsp x (by simp [hx]))
  obtain ⟨f, e0⟩ := okWide_int Try.underlying3 (hval 0 3 v0 rfl rfl)
  obtain ⟨b, o, l, c, L, g1⟩ := arg_ops (enc := enc) (W := W) (base := base) (v := v1) (d := d1) (ps := p1) Try.underlying22 Try.underlying32 (by kernel_rfl) rfl rfl rfl rfl (by kernel_rfl) (by kernel_rfl) (by kernel_rfl) (by kernel_rfl) Try.underlying3 Try.underlying3 Try.underlying3
    Try.underlying30 rfl rfl rfl (by kernel_rfl) (by kernel_rfl) (by kernel_rfl) Try.underlying28 Try.underlying3 Try.underlying3 (hval 1 22 v1 rfl rfl) h1
  have hb : Rows.uptoBulkAll ([d0, d1] ++ [] : List (DataW H)) ≤ 1048576 := of_decide_eq_true hk
  simp only [List.append_nil, Rows.uptoBulkAll] at hb
  have k1 := arg_bulk g1
  refine Calls.mono ?_ fin
  have := walk f b o l c L W ⟨g1.2.1, g1.2.2.1, g1.2.2.2.1, by omega⟩ g1.2.2.2.2.2.1
  have e1 : v1 = slV4 b o l c := g1.1
  rw [e0, e1]
  exact this

set_option maxRecDepth 100000 in
theorem lifted (os : Os) (started : os.Started) (H : Type) (enc : TypeId × Value → H) (F : Stop.Interp) :
    ReturnsInHanded {} Try.checked os 3 .any ((Rows.OpenSpec.upto Rows.cacheTellsSpec).pre6 enc Try.prog Try.f3 Rows.cacheTellsUptoRow.domain false) (((Rows.OpenSpec.upto Rows.cacheTellsSpec).at F).post enc Try.prog Try.f3 false true false false) := by
  refine returnsInHanded_of_cond (C := Try.checked) (s := Rows.OpenSpec.upto Rows.cacheTellsSpec) (k := Rows.uptoSmall) rfl own started (by kernel_rfl) Try.func3
    (OpenSpec.witness (enc := enc) (C := Try.checked) (s := Rows.OpenSpec.upto Rows.cacheTellsSpec) (k := Rows.uptoSmall) rfl false ⟨#[], #[.int .i64 0, .slice none 0 0], []⟩ 8 (by kernel_rfl) (by kernel_rfl) (by kernel_rfl)
      (x := ([.lit (.int .i64 0), .nil], [], [])) (by kernel_rfl) rfl (by kernel_rfl)) ?_
  intro W base args ds gs before hval hW _ hk _
  exact contract H enc W base args ds gs before hval hW hk

theorem over : Rows.cacheTellsUptoRow.holds Try.pinned (Rows.OpenSpec.upto Rows.cacheTellsSpec) :=
  OpenClaim.holds_of_cond 3 Try.f3 rfl rfl rfl rfl rfl rfl rfl ⟨rfl, rfl, rfl, rfl, rfl⟩ rfl rfl rfl rfl rfl (by kernel_rfl) Try.func3 (by kernel_rfl)
    (of_decide_eq_true (by kernel_rfl)) (by unfold Func.isWrapper; first | (rw [if_pos (by decide +kernel)]; kernel_rfl) | (rw [if_neg (by decide +kernel)]; exact ⟨rfl, rfl⟩))
    (fun os started H enc _ F => lifted os started H enc F)

/-- The statement. -/
theorem proved : Rows.CacheTellsUptoSaid :=
  over
#print axioms proved
end Go.Proofs.Ytlcfjjjdhdfbdaa.cacheTells
