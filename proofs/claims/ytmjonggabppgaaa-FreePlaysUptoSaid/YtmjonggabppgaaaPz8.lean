/- FreePlays answers true, and what was handed in stays as it is, where it is of bulk at most 1048576. No other condition. -/
import Derived.Test.YtmjonggabppgaaaPz7
import Derived.Test.YtmjonggabppgaaaPz3
import Derived.Test.YtmjonggabppgaaaRows
import Derived.WalkKit
import Derived.ProofKit
import Derived.OpenShut
import Derived.JoinedCond
import Derived.Carry
namespace Go.Proofs.Ytmjonggabppgaaa.freePlays
open Go.ChangeShapes Go.WideShapes Go.ChangeAt Go.RowKit
open Go.Eng (post_below Sig CtrOk GhOk emp star sat_none Sat Env U Ctr SX eLe rowVals ArgIs arg_ints arg_ops)
set_option linter.unusedVariables false
set_option linter.unusedSimpArgs false

theorem own : ownKnob Try.prog.godebug = none := by kernel_rfl
noncomputable def usr (n : Nat) (a b c d : U FL) : U FL :=
  match n with
  | 0 => .bool (adjB a.toRows b.toInt) | 1 => .bool (sortB a.toRows b.toRows) | 2 => .bool (allNB a.toInts b.toInt) | 3 => .rows (entsB a.toInts b.toInt) | 4 => .bool (distB a.toInts b.toInt)
  | 5 => .bool (a.toRows == b.toRows) | 6 => .bool (hasB a.toRows b.toInt c.toInt) | 7 => .rows (insRow c.toInts (nrm a.toRows b.toInt)) | 8 => .bool (inB a.toRows b.toInt c.toInts d.toRows)
  | 9 => .bool (outB a.toRows b.toInt c.toInts d.toRows) | 10 => .ints (selB isFree a.toRows b.toInt) | 11 => .ints (selB isWait a.toRows b.toInt) | 12 => .ints (selB (fun _ => true) a.toRows b.toInt)
  | 13 => .ints (selB isAny a.toRows b.toInt)
  | 20 => .int (gOf a).last | 21 => .rows (gOf a).e | 22 => .g { gOf a with e := b.toRows.take c.toInt.toNat } | 23 => .int (takeN (gOf a).e) | 24 => .bool (takeB (gOf a).e) | 25 => .g { gOf a with e := takeE (gOf a).e }
  | 26 => .int (idxL (a.toRows.take b.toInt.toNat)) | 28 => .int (relN b.toInt (gOf a).e) | 29 => .g { gOf a with e := (gOf a).e.map (relE b.toInt) }
  | 30 => .rows ((a.toRows.take b.toInt.toNat).map (relE c.toInt) ++ a.toRows.drop b.toInt.toNat) | 31 => .int (relN c.toInt (a.toRows.take b.toInt.toNat))
  | 33 => .ints (selE isF (gOf a).e) | 34 => .ints (selE isW (gOf a).e) | 35 => .ints (selE (fun _ => true) (gOf a).e) | 36 => .int (lowE c.toInt (a.toRows.take b.toInt.toNat)) | 37 => .bool (hasE c.toInt (a.toRows.take b.toInt.toNat))
  | 38 => .rows ((a.toRows.take b.toInt.toNat).take c.toInt.toNat ++ d.toRows ++ (a.toRows.take b.toInt.toNat).drop c.toInt.toNat) | 39 => .int (giveE b.toInt c.toInt (gOf a).e) | 40 => .g ⟨[], [], 0⟩
  | 41 => .bool (goodB a.toRows b.toInt) | 42 => .g { gOf a with e := giveL b.toInt c.toInt (gOf a).e } | 43 => .ints (selE isF (a.toRows.take b.toInt.toNat)) | 44 => .ints (selE isW (a.toRows.take b.toInt.toNat))
  | 45 => .ints (selE (fun _ => true) (a.toRows.take b.toInt.toNat)) | 46 => .int (cmpI a.toInt b.toInt)
  | 57 => .g (pushS (gOf a) b.toInt (c.toRows.take d.toInt.toNat)) | 58 => .int (preN a.toRows b.toInt) | 61 => .g (dropS (gOf a) b.toInt) | 62 => .g (markS (gOf a)) | 63 => .int ((gOf a).last + 1)
  | 64 => .int (idxR c.toInt (a.toRows.take b.toInt.toNat)) | 65 => .rows (atM (gOf a) b.toInt) | 66 => .g { gOf a with m := (gOf a).m.take b.toInt.toNat } | 67 => .bool ((a.toRows.take b.toInt.toNat).map hd0 == (gOf c).m.map (·.1))
  | 68 => .g (backS (gOf a) b.toInt) | 69 => .int (backE (gOf a) b.toInt) | 71 => .int ((gOf a).m.length : Nat) | 72 => .int (actR (gOf a) b.toInt c.toInt d.toInt) | 73 => .g (actS (gOf a) b.toInt c.toInt d.toInt)
  | 80 => .g { gOf a with e := atM (gOf a) b.toInt, m := (gOf a).m.take (b.toInt + 1).toNat } | 81 => .rows ((a.toRows.take b.toInt.toNat).eraseIdx c.toInt.toNat) | 82 => .rows ((a.toRows.take b.toInt.toNat).map (relE c.toInt)) | 83 => .g (pushS (gOf a) b.toInt (gOf a).e)
  | 84 => .bool (numB (gOf a)) | 86 => .int (rbackE (gOf a) b.toInt) | 87 => .g (rbackS (gOf a) b.toInt) | 88 => .bool (srB a.toRows b.toInt c.toInt d.toInt)
  | 90 => .g (nwS a.toInts b.toInt) | 91 => .int (nwE a.toInts b.toInt) | 92 => .bool (relB (gOf a) (gOf b))
  | _ => .int 0
noncomputable def prd (n : Nat) (_w : World) (k x : U FL) : Go.Eng.HProp :=
  match n with
  | 0 => freeP k.toInt (gOf x) | 1 => marksP k.toInts (gOf x) | 2 => mrkP k.toRows (gOf x) | 3 => holP k.toRows (gOf x) | 10 => refP k.toInt (gOf x) | 11 => restP k.toRows (gOf x)
  | 20 => keptP (g0 k.toInts) (g1 k.toInts) x.toInt | 21 => kp21 k.toRows x.toRows | 23 => kp23 k.toRows x.toRows | 24 => kp24 k.toRows | 25 => kp25 k.toRows | 26 => kp26 k.toRows | 27 => kp27 k.toRows | 28 => kp28 k.toRows x.toInts
  | 30 => nwP freeP k.toInt (gOf x) | 31 => nwP refP k.toInt (gOf x) | _ => emp
noncomputable def sig : Sig FL := { dg := ⟨[], [], 0⟩, ch := fun _ => true, usr := usr, prd := prd }
theorem hF : FreeSig sig := ⟨fun _ _ _ _ => rfl, fun _ _ _ _ => rfl, fun _ _ _ _ => rfl, fun _ _ _ _ => rfl, fun _ _ _ _ => rfl, fun _ _ _ _ => rfl, fun _ _ _ _ => rfl, fun _ _ _ _ => rfl, fun _ _ _ _ => rfl, fun _ _ _ _ => rfl⟩
theorem hA : PlAll sig where
  free := hF
  pick := ⟨fun _ _ _ _ => rfl, fun _ _ _ _ => rfl, fun _ _ _ _ => rfl, fun _ _ _ _ => rfl⟩
  fl := by constructor <;> intros <;> rfl
  mks := by constructor <;> intros <;> rfl
  rf := by constructor <;> intros <;> rfl
  rs := by constructor <;> intros <;> rfl
  kp := by constructor <;> intros <;> rfl
  st := by constructor <;> intros <;> rfl
  pl := by constructor <;> intros <;> rfl
theorem hE : Go.Eng.GhOk sig emptW := by
  have h := empt_gh sig
  exact h
noncomputable def env (b o l c : Int) (L : List Int) (b1 o1 l1 c1 : Int) (L1 : List Int) (b2 o2 l2 c2 : Int) (L2 : List (List Int)) : Env FL := fun i => match i with
  | 0 => .int b | 1 => .int o | 2 => .int l | 3 => .int c | 4 => .ints L | 5 => .int b1 | 6 => .int o1 | 7 => .int l1 | 8 => .int c1 | 9 => .ints L1 | 10 => .int b2 | 11 => .int o2 | 12 => .int l2 | 13 => .int c2 | _ => .rows L2
abbrev V3 (L : List (List Int)) : List Value := L.flatMap (rowVals [.int .i64, .int .i64, .int .i64])
def Ro (w : World) (b o : Int) (vals : List Value) : Prop := (0 ≤ b ∨ vals = []) ∧ ∀ i v, vals[i]? = some v → b.toNat < w.heap.size ∧ w.cell? ⟨b.toNat, o.toNat + i, none⟩ = some v
def slV4 (b o l c : Int) : Value := .slice (if b < 0 then none else some ⟨b.toNat, o.toNat, none⟩) l.toNat c.toNat
/-- What was handed in, in memory: the law's call. -/
theorem walk (b o l c : Int) (L : List Int) (b1 o1 l1 c1 : Int) (L1 : List Int) (b2 o2 l2 c2 : Int) (L2 : List (List Int)) (w : World)
    (h0 : 0 ≤ l ∧ l ≤ L.length ∧ l ≤ c ∧ l ≤ 1048576) (h1 : 0 ≤ l1 ∧ l1 ≤ L1.length ∧ l1 ≤ c1 ∧ l1 ≤ 1048576) (h2 : 0 ≤ l2 ∧ l2 ≤ L2.length ∧ l2 ≤ c2 ∧ l2 ≤ 1048576)
    (hr : Ro w b o (L.map (Value.int .i64))) (hr1 : Ro w b1 o1 (L1.map (Value.int .i64))) (hr2 : Ro w b2 o2 (V3 L2)) :
    Calls Try.prog 7 #[slV4 b o l c, slV4 b1 o1 l1 c1, slV4 b2 o2 l2 c2] w fun e w' => e = .returned (.bool true) ∧ Below w.heap.size w w' := by
  have q : ∀ e ∈ plR, (e.den sig (env b o l c L b1 o1 l1 c1 L1 b2 o2 l2 c2 L2)).toProp := by
    intro e he
    simp only [plR, List.mem_cons, List.not_mem_nil, or_false] at he
    rcases he with rfl | rfl | rfl | rfl | rfl | rfl | rfl | rfl | rfl | rfl | rfl | rfl
    all_goals simp [eLe, Go.Eng.SX.mk2, Go.Eng.SX.den, Go.Eng.ap1, Go.Eng.ap2, ai, iA, rA, mil, env, U.co]
    all_goals omega
  have := (pls_ok sig hA hE) (fun _ => true) w emp (env b o l c L b1 o1 l1 c1 L1 b2 o2 l2 c2 L2) w [slV4 b o l c, slV4 b1 o1 l1 c1, slV4 b2 o2 l2 c2] (by
    show Go.Eng.argsR _ _ plA _
    refine ⟨.inr ?_, .inr ?_, .inr ?_, trivial⟩
    all_goals simp [slV4, Go.Eng.SV.den, Go.Eng.SC.den, Go.Eng.SX.den, ai, z0, env, U.co]) q (by
    obtain ⟨x, hx, hi⟩ := sat_none w
    rw [Go.Eng.emp_star] at hx
    refine ⟨x, ?_, hi⟩
    have e : Go.Eng.hpDen (sig.wc fun _ => true) (env b o l c L b1 o1 l1 c1 L1 b2 o2 l2 c2 L2) w plsCtr.pre = star (Go.Eng.roDen sig w (.ints .i64) (.int b) (.int o) (.ints L)) (star (Go.Eng.roDen sig w (.ints .i64) (.int b1) (.int o1) (.ints L1)) (star (Go.Eng.roDen sig w opT (.int b2) (.int o2) (.rows L2)) emp)) := rfl
    rw [e, Go.Eng.star_assoc, Go.Eng.star_assoc, Go.Eng.star_assoc, Go.Eng.roDen, Go.Eng.roDen, Go.Eng.roDen, Go.Eng.star_pure, Go.Eng.star_pure, Go.Eng.star_pure, Go.Eng.emp_star]
    exact ⟨hr, hr1, hr2, hx⟩)
  refine this.mono ?_
  rintro e w' ⟨ρ', v, hx, rfl, hv, hs, hfa⟩
  have hv : v = (Go.Eng.SC.bool (.at .bool 15)).den sig ρ' := Go.Eng.R_one sig ρ' hv
  have := hfa (.at .bool 15) List.mem_cons_self
  subst hv
  refine ⟨?_, hs.below⟩
  have h5 : (ρ' 15).toBool = true := by simpa [Go.Eng.SX.den, U.co] using this
  simp [Go.Eng.SC.den, Go.Eng.SX.den, U.co, h5]
theorem bulk_len {H : Type} : ∀ l : List (DataW H), l.length ≤ Rows.uptoBulkAll l
  | [] => by simp [Rows.uptoBulkAll]
  | d :: r => by
    have h1 : 1 ≤ Rows.uptoBulk d := by
      cases d with
      | lit l => cases l <;> simp [Rows.uptoBulk]
      | _ => simp [Rows.uptoBulk]
    have := bulk_len r
    simp only [Rows.uptoBulkAll, List.length_cons]; omega
theorem arg_bulk {H : Type} {w : World} {v : Value} {d : DataW H} {b o l c : Int} {n : Nat} {vals : List Value} (h : ArgIs w v d b o l c n vals) : l ≤ Rows.uptoBulk d := by
  rcases h.2.2.2.2.2.2 with ⟨rfl, h⟩ | ⟨ds, sp, rfl, h⟩
  · simp [Rows.uptoBulk]; omega
  · have := bulk_len ds
    simp only [Rows.uptoBulk]; omega
theorem laid : laidOutB Try.prog = true := by kernel_rfl
set_option maxRecDepth 100000 in
theorem contract (H : Type) (enc : TypeId × Value → H) (W : World) (base : Nat) (args : Array Value) (ds gs : List (DataW H)) (before : List MemPlace)
    (hval : ∀ (j : Nat) t v, Try.f7.params[j]? = some t → args[j]? = some v → Value.okWide Try.prog W .any base t v)
    (hW : DataW.Whole enc Try.prog Try.f7.params.toList Rows.freePlaysSpec.vars false W args.toList ds gs before) (hk : Rows.uptoSmall H (ds ++ gs) = true) :
    Calls Try.prog 7 args W fun e W' => ∃ v, e = .returned v ∧ Rows.freePlaysSpec.post enc Try.prog Try.f7 false true false false W args v W' := by
  have hW' := hW
  obtain ⟨p, q, hA0, hV, rfl, hfz, hnd⟩ := hW
  have hA : DataW.TrodAll enc Try.prog W 0 (fun _ => true) true Try.f7.params.toList args.toList ds p := hA0
  rw [Try.params7] at hA hval
  obtain ⟨v0, vs0, d0, ds0, p0, q0, hargs, rfl, rfl, h0, r0⟩ := trodAll_cons hA
  obtain ⟨v1, vs1, d1, ds1, p1, q1, rfl, rfl, rfl, h1, r1⟩ := trodAll_cons r0
  obtain ⟨v2, vs2, d2, ds2, p2, q2, rfl, rfl, rfl, h2, r2⟩ := trodAll_cons r1
  obtain ⟨rfl, rfl, rfl⟩ := trodAll_nil r2
  obtain rfl : args = #[v0, v1, v2] := by cases args; simp_all
  obtain ⟨rfl, rfl⟩ := trodVars_none hV
  have hlt : ∀ x ∈ p0 ++ (p1 ++ (p2 ++ [])), x.block < W.heap.size := fun x hx => hW'.lt x (List.mem_append_left _ hx)
  have fin : ∀ (e : Ending) (W' : World), (e = .returned (.bool true) ∧ Below W.heap.size W W') → ∃ v, e = .returned v ∧ Rows.freePlaysSpec.post enc Try.prog Try.f7 false true false false W #[v0, v1, v2] v W' := by
    rintro e W' ⟨rfl, hb⟩
    clear hA0
    refine ⟨_, rfl, post_below (pa := p0 ++ (p1 ++ (p2 ++ []))) (pv := []) hW' (fun _ _ _ => (trodAll_cons_mk (shut_bool Try.underlying4 _) trodAll_mk0)) ?_ (fun _ _ => rfl) rfl hb
      (ok_one (by kernel_rfl) rfl (okWide_bool_mk Try.underlying4 _))⟩
    intro sp hsp
    refine trodAll_cons_mk ?_ (trodAll_cons_mk ?_ (trodAll_cons_mk ?_ trodAll_mk0))
    · exact WideElems.Trod_stays laid (by kernel_rfl) (of_decide_eq_true (by kernel_rfl)) h0 (fun x hx => hb.same (hlt x (by simp [hx]))) (fun x hx => hsp x (by simp [hx]))
    · exact WideElems.Trod_stays laid (by kernel_rfl) (of_decide_eq_true (by kernel_rfl)) h1 (fun x hx => hb.same (hlt x (by simp [hx]))) (fun x hx => hsp x (by simp [hx]))
    · exact WideElems.Trod_stays laid (by kernel_rfl) (of_decide_eq_true (by kernel_rfl)) h2 (fun x hx => hb.same (hlt x (by simp [hx]))) (fun x hx => hsp x (by simp [hx]))
  obtain ⟨b, o, l, c, L, g0⟩ := arg_ints Try.underlying23 Try.underlying3 (by kernel_rfl) (hval 0 23 v0 rfl rfl) h0
  have ops := fun (v : Value) (d : DataW H) ps hv h => arg_ops (enc := enc) (W := W) (base := base) (v := v) (d := d) (ps := ps) Try.underlying55 Try.underlying58 (by kernel_rfl) rfl rfl rfl (by kernel_rfl) (by kernel_rfl) (by kernel_rfl) Try.underlying3 Try.underlying3 Try.underlying3 hv h
  obtain ⟨b1, o1, l1, c1, L1, g1⟩ := arg_ints Try.underlying23 Try.underlying3 (by kernel_rfl) (hval 1 23 v1 rfl rfl) h1
  obtain ⟨b2, o2, l2, c2, L2, g2⟩ := ops v2 d2 p2 (hval 2 55 v2 rfl rfl) h2
  have hb : Rows.uptoBulkAll ([d0, d1, d2] ++ [] : List (DataW H)) ≤ 1048576 := of_decide_eq_true hk
  simp only [List.append_nil, Rows.uptoBulkAll] at hb
  have k0 := arg_bulk g0
  have k1 := arg_bulk g1
  have k2 := arg_bulk g2
  refine Calls.mono ?_ fin
  have := walk b o l c L b1 o1 l1 c1 L1 b2 o2 l2 c2 L2 W ⟨g0.2.1, g0.2.2.1, g0.2.2.2.1, by omega⟩ ⟨g1.2.1, g1.2.2.1, g1.2.2.2.1, by omega⟩ ⟨g2.2.1, g2.2.2.1, g2.2.2.2.1, by omega⟩
    g0.2.2.2.2.2.1 g1.2.2.2.2.2.1 g2.2.2.2.2.2.1
  have e0 : v0 = slV4 b o l c := g0.1
  have e1 : v1 = slV4 b1 o1 l1 c1 := g1.1
  have e2 : v2 = slV4 b2 o2 l2 c2 := g2.1
  rw [e0, e1, e2]
  exact this

set_option maxRecDepth 100000 in
theorem lifted (os : Os) (started : os.Started) (H : Type) (enc : TypeId × Value → H) (F : Stop.Interp) :
    ReturnsInHanded {} Try.checked os 7 .any ((Rows.OpenSpec.upto Rows.freePlaysSpec).pre6 enc Try.prog Try.f7 Rows.freePlaysUptoRow.domain false) (((Rows.OpenSpec.upto Rows.freePlaysSpec).at F).post enc Try.prog Try.f7 false true false false) := by
  refine returnsInHanded_of_cond (C := Try.checked) (s := Rows.OpenSpec.upto Rows.freePlaysSpec) (k := Rows.uptoSmall) rfl own started (by kernel_rfl) Try.func7
    (OpenSpec.witness (enc := enc) (C := Try.checked) (s := Rows.OpenSpec.upto Rows.freePlaysSpec) (k := Rows.uptoSmall) rfl false ⟨#[], #[.slice none 0 0, .slice none 0 0, .slice none 0 0], []⟩ 8 (by kernel_rfl) (by kernel_rfl) (by kernel_rfl)
      (x := ([.nil, .nil, .nil], [], [])) (by kernel_rfl) rfl (by kernel_rfl)) ?_
  intro W base args ds gs before hval hW _ hk _
  exact contract H enc W base args ds gs before hval hW hk

theorem over : Rows.freePlaysUptoRow.holds Try.pinned (Rows.OpenSpec.upto Rows.freePlaysSpec) :=
  OpenClaim.holds_of_cond 7 Try.f7 rfl rfl rfl rfl rfl rfl rfl ⟨rfl, rfl, rfl, rfl, rfl⟩ rfl rfl rfl rfl rfl (by kernel_rfl) Try.func7 (by kernel_rfl)
    (of_decide_eq_true (by kernel_rfl)) (by unfold Func.isWrapper; first | (rw [if_pos (by decide +kernel)]; kernel_rfl) | (rw [if_neg (by decide +kernel)]; exact ⟨rfl, rfl⟩))
    (fun os started H enc _ F => lifted os started H enc F)

/-- The statement. -/
theorem proved : Rows.FreePlaysUptoSaid :=
  over
#print axioms proved
end Go.Proofs.Ytmjonggabppgaaa.freePlays
