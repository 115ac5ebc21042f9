/- FreeDecodes answers true, and what was handed in stays as it is, where it is of bulk at most 1048576. No other condition. -/
import Derived.Test.YtmjonggabppgaaaPd7
import Derived.Test.YtmjonggabppgaaaPd3
import Derived.Test.YtmjonggabppgaaaRows
import Derived.WalkKit
import Derived.ProofKit
import Derived.OpenShut
import Derived.JoinedCond
import Derived.Carry
namespace Go.Proofs.Ytmjonggabppgaaa.freeDecodes
open Go.ChangeShapes Go.WideShapes Go.ChangeAt Go.RowKit
open Go.Eng (post_below Sig CtrOk GhOk emp star sat_none Sat Env U Ctr SX eLe rowVals ArgIs arg_bytes)
set_option linter.unusedVariables false
set_option linter.unusedSimpArgs false

theorem own : ownKnob Try.prog.godebug = none := by kernel_rfl
noncomputable def usr (n : Nat) (a b c d : U FL) : U FL :=
  match n with
  | 93 => .bytes (fixB a.toInt b.toInt.toNat) | 94 => .bytes (List.replicate (c.toInt + 1).toNat 0 ++ fixB a.toInt (b.toInt - 1 - c.toInt).toNat) | 95 => .int (shN a.toInt b.toInt.toNat) | 96 => .bytes ((fixB a.toInt b.toInt.toNat).take c.toInt.toNat)
  | 97 => .bool (sizeB a.toInt) | 98 => .int (roomI a.toInt) | 99 => .int (Go.Eng.crcByte a.toInt.toNat b.toInt.toNat : Nat) | 100 => .int (bitN (a.toInt.toNat ^^^ b.toInt.toNat) c.toInt.toNat : Nat)
  | 101 => .int (encE a.toInt (b.toInts.take c.toInt.toNat) d.toInt) | 102 => .bytes (encR a.toInt (b.toInts.take c.toInt.toNat) d.toInt) | 103 => .bool (scanE 0 (a.toInts.take b.toInt.toNat) == 0)
  | 104 => .bytes (headB a.toInt c.toInt ++ bodyB (b.toInts.take d.toInt.toNat)) | 105 => .bytes (fillB a.toInt c.toInt (b.toInts.take c.toInt.toNat) d.toInt) | 106 => .int (lastF 0 (a.toInts.take b.toInt.toNat))
  | 110 => .int (rdN a.toBytes b.toInt c.toInt) | 111 => .int (decE (a.toBytes.take b.toInt.toNat)) | 112 => .int (decN (a.toBytes.take b.toInt.toNat)) | 113 => .ints (decP (a.toBytes.take b.toInt.toNat)) | 114 => .ints (pagesN a.toBytes b.toInt.toNat)
  | 115 => .bool (((a.toBytes.drop b.toInt.toNat).take c.toInt.toNat).all (· == 0)) | 116 => .bool ((a.toRows.take b.toInt.toNat).all fun r => g0 r == c.toInt && g1 r == d.toInt)
  | _ => .int 0
noncomputable def prd (n : Nat) (_w : World) (k x : U FL) : Go.Eng.HProp :=
  match n with
  | 20 => keptP (g0 k.toInts) (g1 k.toInts) x.toInt | 21 => kp21 k.toRows x.toRows | 23 => kp23 k.toRows x.toRows | 24 => kp24 k.toRows | 25 => kp25 k.toRows | 26 => kp26 k.toRows | 27 => kp27 k.toRows | 28 => kp28 k.toRows x.toInts
  | 22 => kp22 k.toRows | 29 => kp29 k.toRows | _ => emp
noncomputable def sig : Sig FL := { dg := ⟨[], [], 0⟩, ch := fun _ => true, usr := usr, prd := prd }
theorem hE : EnSig sig := by constructor <;> intros <;> rfl
theorem hZ : SzSig sig := by constructor <;> intros <;> rfl
theorem hU : SuSig sig := by constructor <;> intros <;> rfl
theorem hC : EcSig sig := by constructor <;> intros <;> rfl
theorem hD : DcSig sig := by constructor <;> intros <;> rfl
theorem hK : KpSig sig := by constructor <;> intros <;> rfl
theorem hQ : KsSig sig := by constructor <;> intros <;> rfl
noncomputable def env (b o l c : Int) (L : List UInt8) : Env FL := fun i => match i with | 0 => .int b | 1 => .int o | 2 => .int l | 3 => .int c | _ => .bytes L
def Ro (w : World) (b o : Int) (vals : List Value) : Prop := (0 ≤ b ∨ vals = []) ∧ ∀ i v, vals[i]? = some v → b.toNat < w.heap.size ∧ w.cell? ⟨b.toNat, o.toNat + i, none⟩ = some v
def slV4 (b o l c : Int) : Value := .slice (if b < 0 then none else some ⟨b.toNat, o.toNat, none⟩) l.toNat c.toNat
/-- What was handed in, in memory: the law's call. -/
theorem walk (b o l c : Int) (L : List UInt8) (w : World) (h0 : 0 ≤ l ∧ l ≤ L.length ∧ l ≤ c ∧ l ≤ 1048576) (hr : Ro w b o (L.map fun x => Value.int .u8 (x.toNat : Nat))) :
    Calls Try.prog 5 #[slV4 b o l c] w fun e w' => e = .returned (.bool true) ∧ Below w.heap.size w w' := by
  have q : ∀ e ∈ decsCtr.reqs, (e.den sig (env b o l c L)).toProp := by
    intro e he
    simp only [decsCtr, List.mem_cons, List.not_mem_nil, or_false] at he
    rcases he with rfl | rfl | rfl | rfl
    all_goals simp [eLe, Go.Eng.SX.mk2, Go.Eng.SX.den, Go.Eng.ap1, Go.Eng.ap2, ai, bA, lenB, env, U.co]
    all_goals omega
  have := (decs_ok sig hE hZ hU hC hD hK hQ) (fun _ => true) w emp (env b o l c L) w [slV4 b o l c] (by
    show Go.Eng.argsR _ _ decsCtr.args _
    refine ⟨.inr ?_, trivial⟩
    all_goals simp [slV4, Go.Eng.SV.den, Go.Eng.SC.den, Go.Eng.SX.den, ai, z0, env, U.co]) q (by
    obtain ⟨x, hx, hi⟩ := sat_none w
    rw [Go.Eng.emp_star] at hx
    refine ⟨x, ?_, hi⟩
    have e : Go.Eng.hpDen (sig.wc fun _ => true) (env b o l c L) w decsCtr.pre = star (Go.Eng.roDen sig w .bytes (.int b) (.int o) (.bytes L)) emp := rfl
    rw [e, Go.Eng.star_assoc, Go.Eng.roDen, Go.Eng.star_pure, Go.Eng.emp_star]
    exact ⟨hr, hx⟩)
  refine this.mono ?_
  rintro e w' ⟨ρ', v, hx, rfl, hv, hs, hfa⟩
  have hv : v = (Go.Eng.SC.bool (.at .bool 5)).den sig ρ' := Go.Eng.R_one sig ρ' hv
  have := hfa (.at .bool 5) List.mem_cons_self
  subst hv
  refine ⟨?_, hs.below⟩
  have h5 : (ρ' 5).toBool = true := by simpa [Go.Eng.SX.den, U.co] using this
  simp [Go.Eng.SC.den, Go.Eng.SX.den, U.co, h5]
theorem bulk_len {H : Type} : ∀ l : List (DataW H), l.length ≤ Rows.uptoBulkAll l
  | [] => by simp [Rows.uptoBulkAll]
  | d :: r => by
    have h1 : 1 ≤ Rows.uptoBulk d := by
      cases d with
      | lit l => cases l <;> simp [Rows.uptoBulk]
      | _ => simp [Rows.uptoBulk]
    have := bulk_len r
    simp only [Rows.uptoBulkAll, List.length_cons]; omega
theorem arg_bulk {H : Type} {w : World} {v : Value} {d : DataW H} {b o l c : Int} {n : Nat} {vals : List Value} (h : ArgIs w v d b o l c n vals) : l ≤ Rows.uptoBulk d := by
  rcases h.2.2.2.2.2.2 with ⟨rfl, h⟩ | ⟨ds, sp, rfl, h⟩
  · simp [Rows.uptoBulk]; omega
  · have := bulk_len ds
    simp only [Rows.uptoBulk]; omega
theorem laid : laidOutB Try.prog = true := by kernel_rfl
set_option maxRecDepth 100000 in
theorem contract (H : Type) (enc : TypeId × Value → H) (W : World) (base : Nat) (args : Array Value) (ds gs : List (DataW H)) (before : List MemPlace)
    (hval : ∀ (j : Nat) t v, Try.f5.params[j]? = some t → args[j]? = some v → Value.okWide Try.prog W .any base t v)
    (hW : DataW.Whole enc Try.prog Try.f5.params.toList Rows.freeDecodesSpec.vars false W args.toList ds gs before) (hk : Rows.uptoSmall H (ds ++ gs) = true) :
    Calls Try.prog 5 args W fun e W' => ∃ v, e = .returned v ∧ Rows.freeDecodesSpec.post enc Try.prog Try.f5 false true false false W args v W' := by
  have hW' := hW
  obtain ⟨p, q, hA0, hV, rfl, hfz, hnd⟩ := hW
  have hA : DataW.TrodAll enc Try.prog W 0 (fun _ => true) true Try.f5.params.toList args.toList ds p := hA0
  rw [Try.params5] at hA hval
  obtain ⟨v0, vs0, d0, ds0, p0, q0, hargs, rfl, rfl, h0, r0⟩ := trodAll_cons hA
  obtain ⟨rfl, rfl, rfl⟩ := trodAll_nil r0
  obtain rfl : args = #[v0] := by cases args; simp_all
  obtain ⟨rfl, rfl⟩ := trodVars_none hV
  have hlt : ∀ x ∈ p0 ++ [], x.block < W.heap.size := fun x hx => hW'.lt x (List.mem_append_left _ hx)
  have fin : ∀ (e : Ending) (W' : World), (e = .returned (.bool true) ∧ Below W.heap.size W W') → ∃ v, e = .returned v ∧ Rows.freeDecodesSpec.post enc Try.prog Try.f5 false true false false W #[v0] v W' := by
    rintro e W' ⟨rfl, hb⟩
    clear hA0
    refine ⟨_, rfl, post_below (pa := p0 ++ []) (pv := []) hW' (fun _ _ _ => (trodAll_cons_mk (shut_bool Try.underlying4 _) trodAll_mk0)) ?_ (fun _ _ => rfl) rfl hb
      (ok_one (by kernel_rfl) rfl (okWide_bool_mk Try.underlying4 _))⟩
    intro sp hsp
    refine trodAll_cons_mk ?_ trodAll_mk0
    exact WideElems.Trod_stays laid (by kernel_rfl) (of_decide_eq_true (by kernel_rfl)) h0 (fun x hx => hb.same (hlt x (by simp [hx]))) (fun x hx => hsp x (by simp [hx]))
  obtain ⟨b, o, l, c, L, g0⟩ := arg_bytes Try.underlying25 Try.underlying5 (by kernel_rfl) (hval 0 25 v0 rfl rfl) h0
  have hb : Rows.uptoBulkAll ([d0] ++ [] : List (DataW H)) ≤ 1048576 := of_decide_eq_true hk
  simp only [List.append_nil, Rows.uptoBulkAll] at hb
  have k0 := arg_bulk g0
  refine Calls.mono ?_ fin
  have := walk b o l c L W ⟨g0.2.1, g0.2.2.1, g0.2.2.2.1, by omega⟩ g0.2.2.2.2.2.1
  have e0 : v0 = slV4 b o l c := g0.1
  rw [e0]
  exact this

set_option maxRecDepth 100000 in
theorem lifted (os : Os) (started : os.Started) (H : Type) (enc : TypeId × Value → H) (F : Stop.Interp) :
    ReturnsInHanded {} Try.checked os 5 .any ((Rows.OpenSpec.upto Rows.freeDecodesSpec).pre6 enc Try.prog Try.f5 Rows.freeDecodesUptoRow.domain false) (((Rows.OpenSpec.upto Rows.freeDecodesSpec).at F).post enc Try.prog Try.f5 false true false false) := by
  refine returnsInHanded_of_cond (C := Try.checked) (s := Rows.OpenSpec.upto Rows.freeDecodesSpec) (k := Rows.uptoSmall) rfl own started (by kernel_rfl) Try.func5
    (OpenSpec.witness (enc := enc) (C := Try.checked) (s := Rows.OpenSpec.upto Rows.freeDecodesSpec) (k := Rows.uptoSmall) rfl false ⟨#[], #[.slice none 0 0], []⟩ 8 (by kernel_rfl) (by kernel_rfl) (by kernel_rfl)
      (x := ([.nil], [], [])) (by kernel_rfl) rfl (by kernel_rfl)) ?_
  intro W base args ds gs before hval hW _ hk _
  exact contract H enc W base args ds gs before hval hW hk

theorem over : Rows.freeDecodesUptoRow.holds Try.pinned (Rows.OpenSpec.upto Rows.freeDecodesSpec) :=
  OpenClaim.holds_of_cond 5 Try.f5 rfl rfl rfl rfl rfl rfl rfl ⟨rfl, rfl, rfl, rfl, rfl⟩ rfl rfl rfl rfl rfl (by kernel_rfl) Try.func5 (by kernel_rfl)
    (of_decide_eq_true (by kernel_rfl)) (by unfold Func.isWrapper; first | (rw [if_pos (by decide +kernel)]; kernel_rfl) | (rw [if_neg (by decide +kernel)]; exact ⟨rfl, rfl⟩))
    (fun os started H enc _ F => lifted os started H enc F)

/-- The statement. -/
theorem proved : Rows.FreeDecodesUptoSaid :=
  over
#print axioms proved
end Go.Proofs.Ytmjonggabppgaaa.freeDecodes
