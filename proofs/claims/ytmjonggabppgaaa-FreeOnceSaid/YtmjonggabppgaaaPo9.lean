/- FreeOnce answers true, and the calls that were handed in stay as they are. No condition. -/
import Derived.Test.YtmjonggabppgaaaPo7
import Derived.Test.YtmjonggabppgaaaPo8
import Derived.Test.YtmjonggabppgaaaPo3
import Derived.Test.YtmjonggabppgaaaRows
import Derived.WalkKit
import Derived.ProofKit
import Derived.OpenShut
import Derived.JoinedCond
import Derived.Carry
namespace Go.Proofs.Ytmjonggabppgaaa.freeOnce
open Go.ChangeShapes Go.WideShapes Go.ChangeAt Go.RowKit
open Go.Eng (post_below Sig CtrOk GhOk emp star sat_none Sat Env U Ctr eLe rowVals)
set_option linter.unusedVariables false
set_option linter.unusedSimpArgs false

theorem own : ownKnob Try.prog.godebug = none := by kernel_rfl
noncomputable def usr (n : Nat) (a b c d : U FL) : U FL :=
  match n with
  | 0 => .bool (adjB a.toRows b.toInt) | 1 => .bool (sortB a.toRows b.toRows) | 2 => .bool (allNB a.toInts b.toInt) | 3 => .rows (entsB a.toInts b.toInt) | 4 => .bool (distB a.toInts b.toInt)
  | 5 => .bool (a.toRows == b.toRows) | 6 => .bool (hasB a.toRows b.toInt c.toInt) | 7 => .rows (insRow c.toInts (nrm a.toRows b.toInt)) | 8 => .bool (inB a.toRows b.toInt c.toInts d.toRows)
  | 9 => .bool (outB a.toRows b.toInt c.toInts d.toRows) | 10 => .ints (selB isFree a.toRows b.toInt) | 11 => .ints (selB isWait a.toRows b.toInt) | 12 => .ints (selB (fun _ => true) a.toRows b.toInt)
  | 13 => .ints (selB isAny a.toRows b.toInt)
  | 20 => .int (gOf a).last | 21 => .rows (gOf a).e | 22 => .g { gOf a with e := b.toRows.take c.toInt.toNat } | 23 => .int (takeN (gOf a).e) | 24 => .bool (takeB (gOf a).e) | 25 => .g { gOf a with e := takeE (gOf a).e }
  | 26 => .int (idxL (a.toRows.take b.toInt.toNat)) | 28 => .int (relN b.toInt (gOf a).e) | 29 => .g { gOf a with e := (gOf a).e.map (relE b.toInt) }
  | 30 => .rows ((a.toRows.take b.toInt.toNat).map (relE c.toInt) ++ a.toRows.drop b.toInt.toNat) | 31 => .int (relN c.toInt (a.toRows.take b.toInt.toNat))
  | 33 => .ints (selE isF (gOf a).e) | 34 => .ints (selE isW (gOf a).e) | 35 => .ints (selE (fun _ => true) (gOf a).e) | 36 => .int (lowE c.toInt (a.toRows.take b.toInt.toNat)) | 37 => .bool (hasE c.toInt (a.toRows.take b.toInt.toNat))
  | 38 => .rows ((a.toRows.take b.toInt.toNat).take c.toInt.toNat ++ d.toRows ++ (a.toRows.take b.toInt.toNat).drop c.toInt.toNat) | 39 => .int (giveE b.toInt c.toInt (gOf a).e) | 40 => .g ⟨[], [], 0⟩
  | 41 => .bool (goodB a.toRows b.toInt) | 42 => .g { gOf a with e := giveL b.toInt c.toInt (gOf a).e } | 43 => .ints (selE isF (a.toRows.take b.toInt.toNat)) | 44 => .ints (selE isW (a.toRows.take b.toInt.toNat))
  | 45 => .ints (selE (fun _ => true) (a.toRows.take b.toInt.toNat)) | 46 => .int (cmpI a.toInt b.toInt)
  | 50 => .bool (onceB a.toInts (gOf b).e) | 51 => .int (lstF a.toInts 2 (b.toInt.toNat - 2)) | 52 => .ints (relA a.toInts b.toInt.toNat c.toInt) | 53 => .int (cntF a.toInts c.toInt 2 (b.toInt.toNat - 2))
  | 54 => .ints (selF (fun x => x == 0) a.toInts b.toInt.toNat (10 - b.toInt.toNat)) | 55 => .ints (selF (fun x => decide (0 < x)) a.toInts b.toInt.toNat (10 - b.toInt.toNat))
  | _ => .int 0
noncomputable def prd (n : Nat) (_w : World) (k x : U FL) : Go.Eng.HProp := match n with | 0 => freeP k.toInt (gOf x) | 1 => marksP k.toInts (gOf x) | _ => emp
noncomputable def sig : Sig FL := { dg := ⟨[], [], 0⟩, ch := fun _ => true, usr := usr, prd := prd }
theorem hA : AllSig sig := ⟨⟨fun _ _ _ _ => rfl, fun _ _ _ _ => rfl, fun _ _ _ _ => rfl, fun _ _ _ _ => rfl, fun _ _ _ _ => rfl, fun _ _ _ _ => rfl, fun _ _ _ _ => rfl, fun _ _ _ _ => rfl, fun _ _ _ _ => rfl, fun _ _ _ _ => rfl⟩,
  ⟨fun _ _ _ _ => rfl, fun _ _ _ _ => rfl, fun _ _ _ _ => rfl, fun _ _ _ _ => rfl⟩,
  ⟨fun _ _ _ => rfl, fun _ _ _ => rfl, fun _ _ _ _ => rfl, fun _ _ _ _ => rfl, fun _ _ _ _ => rfl, fun _ _ _ _ => rfl, fun _ _ _ _ => rfl, fun _ _ _ _ => rfl, fun _ _ _ _ => rfl, fun _ _ _ _ => rfl, fun _ _ _ _ => rfl, fun _ _ _ _ => rfl, fun _ _ _ _ => rfl, fun _ _ _ _ => rfl, fun _ _ _ _ => rfl, fun _ _ _ _ => rfl, fun _ _ _ _ => rfl, fun _ _ _ _ => rfl, fun _ _ _ _ => rfl, fun _ _ _ _ => rfl, fun _ _ _ _ => rfl, fun _ _ _ _ => rfl, fun _ _ _ _ => rfl, fun _ _ _ _ => rfl, fun _ _ _ _ => rfl, fun _ _ _ _ => rfl, fun _ _ _ _ => rfl⟩,
  ⟨fun _ _ _ _ => rfl, fun _ _ _ _ => rfl, fun _ _ _ _ => rfl, fun _ _ _ _ => rfl, fun _ _ _ _ => rfl, fun _ _ _ _ => rfl⟩⟩
noncomputable def env (b o l c : Int) (L : List (List Int)) : Env FL := fun i => match i with | 0 => .int b | 1 => .int o | 2 => .int l | 3 => .int c | _ => .rows L
/-- The calls in memory: the law's call. -/
theorem walk (b o l c : Int) (L : List (List Int)) (w : World) (h0 : 0 ≤ l) (h1 : l ≤ L.length) (h2 : l ≤ c) (h3 : l ≤ 9223372036854775807)
    (hr : (0 ≤ b ∨ L.flatMap (rowVals [.int .i64, .int .i64, .int .i64]) = []) ∧ ∀ i v, (L.flatMap (rowVals [.int .i64, .int .i64, .int .i64]))[i]? = some v → b.toNat < w.heap.size ∧ w.cell? ⟨b.toNat, o.toNat + i, none⟩ = some v) :
    Calls Try.prog 8 #[.slice (if b < 0 then none else some ⟨b.toNat, o.toNat, none⟩) l.toNat c.toNat] w fun e w' => e = .returned (.bool true) ∧ Below w.heap.size w w' := by
  have := once_ok sig hA (fun _ => true) w emp (env b o l c L) w [.slice (if b < 0 then none else some ⟨b.toNat, o.toNat, none⟩) l.toNat c.toNat] (by
    refine ⟨.inr ?_, trivial⟩
    simp [onceCtr, Go.Eng.SV.den, Go.Eng.SC.den, Go.Eng.SX.den, ai, z0, env, U.co]) (fun e he => by
    simp only [onceCtr, List.mem_cons, List.not_mem_nil, or_false] at he
    rcases he with rfl | rfl | rfl | rfl
    · simpa [eLe, Go.Eng.SX.mk2, Go.Eng.SX.den, Go.Eng.ap2, ai, env, U.co] using h0
    · simpa [eLe, Go.Eng.SX.mk2, Go.Eng.SX.den, Go.Eng.ap1, Go.Eng.ap2, ai, rA, env, U.co] using h1
    · simpa [eLe, Go.Eng.SX.mk2, Go.Eng.SX.den, Go.Eng.ap2, ai, env, U.co] using h2
    · simpa [eLe, Go.Eng.SX.mk2, Go.Eng.SX.den, Go.Eng.ap2, ai, env, U.co] using h3) (by
    obtain ⟨x, hx, hi⟩ := sat_none w
    rw [Go.Eng.emp_star] at hx
    refine ⟨x, ?_, hi⟩
    have e : Go.Eng.hpDen (sig.wc fun _ => true) (env b o l c L) w onceCtr.pre = star (Go.Eng.roDen sig w opT (.int b) (.int o) (.rows L)) emp := rfl
    rw [e, Go.Eng.star_assoc, Go.Eng.roDen, Go.Eng.star_pure, Go.Eng.emp_star]
    exact ⟨hr, hx⟩)
  refine this.mono ?_
  rintro e w' ⟨ρ', v, hx, rfl, hv, hs, hfa⟩
  have hv : v = (Go.Eng.SC.bool (.at .bool 5)).den sig ρ' := Go.Eng.R_one sig ρ' hv
  have := hfa (.at .bool 5) List.mem_cons_self
  subst hv
  refine ⟨?_, hs.below⟩
  have h5 : (ρ' 5).toBool = true := by simpa [Go.Eng.SX.den, U.co] using this
  simp [Go.Eng.SC.den, Go.Eng.SX.den, U.co, h5]
theorem laid : laidOutB Try.prog = true := by kernel_rfl
set_option maxRecDepth 100000 in
theorem contract (H : Type) (enc : TypeId × Value → H) (W : World) (base : Nat) (args : Array Value) (ds gs : List (DataW H)) (before : List MemPlace)
    (hval : ∀ (j : Nat) t v, Try.f8.params[j]? = some t → args[j]? = some v → Value.okWide Try.prog W .any base t v)
    (hW : DataW.Whole enc Try.prog Try.f8.params.toList Rows.freeOnceSpec.vars false W args.toList ds gs before) :
    Calls Try.prog 8 args W fun e W' => ∃ v, e = .returned v ∧ Rows.freeOnceSpec.post enc Try.prog Try.f8 false true false false W args v W' := by
  have hW' := hW
  obtain ⟨p, q, hA0, hV, rfl, hfz, hnd⟩ := hW
  have hA : DataW.TrodAll enc Try.prog W 0 (fun _ => true) true Try.f8.params.toList args.toList ds p := hA0
  rw [Try.params8] at hA hval
  obtain ⟨v0, vs0, d0, ds0, p0, q0, hargs, rfl, rfl, h0, r0⟩ := trodAll_cons hA
  obtain ⟨rfl, rfl, rfl⟩ := trodAll_nil r0
  obtain rfl : args = #[v0] := by cases args; simp_all
  obtain ⟨rfl, rfl⟩ := trodVars_none hV
  have h0k := h0
  have hlt : ∀ x ∈ p0, x.block < W.heap.size := fun x hx => hW'.lt x (by simpa using hx)
  have fin : ∀ (e : Ending) (W' : World), (e = .returned (.bool true) ∧ Below W.heap.size W W') → ∃ v, e = .returned v ∧ Rows.freeOnceSpec.post enc Try.prog Try.f8 false true false false W #[v0] v W' := by
    rintro e W' ⟨rfl, hb⟩
    clear hA0
    simp only [List.append_nil] at hW'
    exact ⟨_, rfl, post_below (pa := p0) (pv := []) hW' (fun _ _ _ => (trodAll_cons_mk (shut_bool Try.underlying4 _) trodAll_mk0))
      (fun sp hsp => trodAll_mk1 (WideElems.Trod_stays laid (by kernel_rfl) (of_decide_eq_true (by kernel_rfl)) h0k (fun x hx => hb.same (hlt x hx)) (fun x hx => hsp x hx))) (fun _ _ => rfl) (by simp) hb
      (ok_one (by kernel_rfl) rfl (okWide_bool_mk Try.underlying4 _))⟩
  obtain ⟨fuel, hf⟩ := h0
  have hv0 := hval 0 55 v0 rfl rfl
  obtain ⟨a0, len, cap, rfl⟩ := okWide_slice Try.underlying55 hv0
  rcases Go.Eng.open_ops Try.underlying55 Try.underlying58 (by kernel_rfl) rfl rfl rfl (by kernel_rfl) (by kernel_rfl) (by kernel_rfl) Try.underlying3 Try.underlying3 Try.underlying3 hf with ⟨hcs, hx⟩ | ⟨a, len', cap', rows, hcs, _, hl, hm, hz, hcell⟩
  · simp [Value.cells] at hcs
    obtain ⟨rfl, rfl, rfl⟩ := hcs
    refine Calls.mono ?_ fin
    have := walk (-1) 0 0 0 [] W (by decide) (by decide) (by decide) (by decide) ⟨.inr rfl, fun i v h => by simp at h⟩
    rw [if_pos (by decide)] at this
    exact this
  · simp [Value.cells] at hcs
    obtain ⟨rfl, rfl, rfl⟩ := hcs
    have hspot : a.spot = none := by
      unfold Value.okWide at hv0
      rw [Try.underlying55] at hv0
      unfold Cell.okWide at hv0
      rw [Try.underlying55] at hv0
      simp only [Cell.ok] at hv0
      rw [Try.underlying55] at hv0
      exact hv0.2.2.2.1
    obtain ⟨b, off, spot⟩ := a
    subst hspot
    refine Calls.mono ?_ fin
    have hmax : maxLen = 9223372036854775807 := by decide
    have := walk b off len cap rows W (by omega) (by omega) (by omega) (by omega) ⟨.inl (by omega), fun i v h => by
      have hc := hcell i v h
      rw [add_plain] at hc
      exact ⟨by simpa using (World.block_lt_of_cell? W ⟨b, off + i, none⟩ hc), by simpa using hc⟩⟩
    rw [if_neg (by omega)] at this
    simpa using this

set_option maxRecDepth 100000 in
theorem lifted (os : Os) (started : os.Started) (H : Type) (enc : TypeId × Value → H) :
    ReturnsInHanded {} Try.checked os 8 .any (Rows.freeOnceSpec.pre6 enc Try.prog Try.f8 Rows.freeOnceRow.domain false) (Rows.freeOnceSpec.post enc Try.prog Try.f8 false true false false) := by
  refine returnsInHanded_of_change (C := Try.checked) own started (by kernel_rfl) Try.func8
    (ChangeSpec.witness6 (enc := enc) (C := Try.checked) false ⟨#[], #[.slice none 0 0], []⟩ 8 (by kernel_rfl) (by kernel_rfl) (by kernel_rfl) (by kernel_rfl)) ?_
  intro W base args ds gs before hval hW hcnd _
  exact contract H enc W base args ds gs before hval hW

theorem over : Rows.freeOnceRow.holds Try.pinned (OpenSpec.ofChange Rows.freeOnceSpec) :=
  OpenClaim.holds_of_wide 8 Try.f8 rfl rfl rfl rfl rfl rfl rfl ⟨rfl, rfl, rfl, rfl, rfl⟩ rfl rfl rfl rfl rfl (by kernel_rfl) Try.func8 (by kernel_rfl)
    (of_decide_eq_true (by kernel_rfl)) (by unfold Func.isWrapper; first | (rw [if_pos (by decide +kernel)]; kernel_rfl) | (rw [if_neg (by decide +kernel)]; exact ⟨rfl, rfl⟩))
    (fun os started H enc _ => lifted os started H enc)

/-- The statement. -/
theorem proved : Rows.FreeOnceSaid :=
  over
#print axioms proved
end Go.Proofs.Ytmjonggabppgaaa.freeOnce
