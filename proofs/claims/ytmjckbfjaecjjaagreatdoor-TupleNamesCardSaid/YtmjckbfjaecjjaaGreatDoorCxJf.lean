/- A run with written-out values: the loud operations' soundness (sixth part: elements). -/
import Derived.Test.YtmjckbfjaecjjaaGreatDoorCxJe
set_option linter.unusedVariables false
set_option linter.unusedSimpArgs false
set_option linter.unnecessarySimpa false
namespace Go.Cx
open Go.RowKit (Below)
theorem growBy_le {need : Nat} : ∀ (r c : Nat), 256 ≤ c → c ≤ 2 * need → Builtin.growBy need r c ≤ 2 * need
  | 0, c, _, h => h
  | r + 1, c, h0, h => by
    simp only [Builtin.growBy]
    split
    · exact h
    · exact growBy_le r _ (by omega) (by omega)
theorem nextcap_le {need old : Nat} (h : old < need) : Builtin.nextslicecap need old ≤ 2 * need := by
  unfold Builtin.nextslicecap
  split
  · omega
  · split
    · omega
    · exact growBy_le _ _ (by omega) (by omega)
def notInt (d : TypeDesc) : Bool := match d with | .int _ => false | _ => true
theorem notInt_eq {d : TypeDesc} : notInt d = true → Builtin.append_.match_1 (fun _ => Bool) d (fun _ => true) (fun _ => false) = false := by
  intro h
  cases d <;> first | rfl | (simp [notInt] at h; done)
section
variable {P : Program} {w0 : World} {σ : Sg} {hp : H} {n : Nat} {w : World} {fr : F} {ev : Operand → Value} {k : KS} {φ : Out → Prop}
theorem append_fit {ts : Array TypeId} {t t2 et ty : TypeId} {d2 : TypeDesc} {sz m sLen sCap : Nat} {base : Option Addr} {x : Value} {cells : List Value} {w w' : World} (h0 : ts[0]? = some t) (h1 : ts[1]? = some t2)
    (ht : P.underlying t = some (.slice et)) (ht2 : P.underlying t2 = some d2) (hd : notInt d2 = true) (hsz : (sizeOf et).run P w = .ok sz w) (hx : (Builtin.lenOf x).run P w = .ok m w) (hf : (Builtin.firstCells sz m x).run P w = .ok cells.toArray w) (hfit : sLen + m ≤ sCap)
    (hrun : match base with | some a => (storeCells (a.add (sLen * sz)) cells).run P w = .ok () w' | none => w' = w) :
    (Builtin.append_ ts ty #[.slice base sLen sCap, x]).run P w = .ok (.slice base (sLen + m) sCap) w' := by
  have hd' := notInt_eq hd
  cases base with
  | none => subst hrun; simp [Builtin.append_, h0, h1, run_underlying ht, run_underlying ht2, hsz, hx, hfit, hf, hd']
  | some a => simp [Builtin.append_, h0, h1, run_underlying ht, run_underlying ht2, hsz, hx, hfit, hf, hrun, hd']
theorem append_grow {ts : Array TypeId} {t t2 et ty : TypeId} {d2 : TypeDesc} {m sLen sCap : Nat} {base : Option Addr} {x z : Value} {i : TypeInfo} {cells old : List Value} {w : World} (h0 : ts[0]? = some t) (h1 : ts[1]? = some t2)
    (ht : P.underlying t = some (.slice et)) (ht2 : P.underlying t2 = some d2) (hd : notInt d2 = true) (hi : P.info? et = some i) (hz : i.zero = some z) (hzs : z.cells.size = i.size) (hb : 1 ≤ i.bytes)
    (hx : (Builtin.lenOf x).run P w = .ok m w) (hf : (Builtin.firstCells i.size m x).run P w.drew = .ok cells.toArray w.drew) (hfit : ¬ sLen + m ≤ sCap)
    (hold : (Builtin.firstCells i.size sLen (.slice base sLen sCap)).run P w.drew = .ok old.toArray w.drew) (hroom : i.bytes * (sLen + m) ≤ 140737488355328) :
    ∃ c spare, sLen + m ≤ c ∧ spare.length = (c - (sLen + m)) * i.size ∧ (Builtin.append_ ts ty #[.slice base sLen sCap, x]).run P w =
      .ok (.slice (some ⟨w.heap.size, 0, none⟩) (sLen + m) c) { w.drew with heap := w.heap.push (.cells (old ++ cells ++ spare).toArray et) } := by
  refine ⟨(Question.appendCap (sLen + m) sCap et).cut (w.tape w.drawn (.appendCap (sLen + m) sCap et)), (Builtin.zeroCells z.cells ((Question.appendCap (sLen + m) sCap et).cut (w.tape w.drawn (.appendCap (sLen + m) sCap et)) - (sLen + m))).toList, by simp [Question.cut], by simp [Builtin.zeroCells, hzs], ?_⟩
  have hsz : ∀ w, (sizeOf et).run P w = .ok i.size w := fun w => by simp [sizeOf, typeInfo, hi]
  have hcap := nextcap_le (show sCap < sLen + m by omega)
  have hcapb : ¬ (281474976710656 < Builtin.nextslicecap (sLen + m) sCap * i.bytes) := by
    have : Builtin.nextslicecap (sLen + m) sCap * i.bytes ≤ 2 * (sLen + m) * i.bytes := Nat.mul_le_mul_right _ hcap
    have e : 2 * (sLen + m) * i.bytes = 2 * (i.bytes * (sLen + m)) := by rw [Nat.mul_assoc, Nat.mul_comm (sLen + m)]
    omega
  have hnb : ¬ i.bytes = 0 := by omega
  have hd' := notInt_eq hd
  have hzr : ∀ w, (zeroValue et).run P w = .ok z w := fun w => zeroValue_run hi hz w
  have harr : ∀ Z : Array Value, old.toArray ++ (cells.toArray ++ Z) = (old ++ (cells ++ Z.toList)).toArray := fun Z => by apply Array.ext'; simp
  simp [Builtin.append_, h0, h1, run_underlying ht, run_underlying ht2, hsz, hx, hfit, typeInfo, hi, hnb, hcapb, hd', Question.forced, hold, hf, hzr, run_newRow]
  rw [harr]
  rfl
theorem copy_run {ts : Array TypeId} {t et ty : TypeId} {sz m l cap : Nat} {base : Option Addr} {x : Value} {cells : List Value} {w w' : World} (h0 : ts[0]? = some t) (ht : P.underlying t = some (.slice et)) (hsz : (sizeOf et).run P w = .ok sz w)
    (hx : (Builtin.lenOf x).run P w = .ok m w) (hf : (Builtin.firstCells sz (min m l) x).run P w = .ok cells.toArray w)
    (hrun : match base with | some a => (storeCells a cells).run P w = .ok () w' | none => w' = w) :
    (Builtin.copy_ ts ty #[.slice base l cap, x]).run P w = .ok (goInt (min m l : Nat)) w' := by
  have hmin : m.min l = min m l := rfl
  cases base with
  | none => subst hrun; simp [Builtin.copy_, h0, run_underlying ht, hx, hsz, hmin, hf]
  | some a => simp [Builtin.copy_, h0, run_underlying ht, hx, hsz, hmin, hf, hrun]
theorem clearS_run {ts : Array TypeId} {t et ty : TypeId} {l cap : Nat} {a : Addr} {i : TypeInfo} {zv : Value} {w w' : World} (h0 : ts[0]? = some t) (ht : P.underlying t = some (.slice et)) (hi : P.info? et = some i) (hz : i.zero = some zv)
    (hrun : (storeCells a (List.replicate (l + 1) zv.cells.toList).flatten).run P w = .ok () w') :
    (Builtin.clear_ ts ty #[.slice (some a) (l + 1) cap]).run P w = .ok (.tuple #[]) w' := by
  have hc : (Builtin.zeroCells zv.cells (l + 1)).toList = (List.replicate (l + 1) zv.cells.toList).flatten := range_mod_arr _ _
  simp [Builtin.clear_, h0, run_underlying ht, zeroValue_run hi hz, hc, hrun]

/-! ### Elements -/
def ElsR (σ : Sg) : Els → List Value → Prop
  | .cs l, vs => VRs σ l vs
  | .bs l m, vs => vs = (bys l m).map bval
theorem ElsR.mono {τ : Sg} (h : Le σ τ) {e : Els} {vs : List Value} (k : ElsR σ e vs) : ElsR τ e vs := by
  cases e with
  | cs l => exact VRs.mono h k
  | bs l m => exact k
theorem lenOf_sound {c : CV} {v : Value} (hv : VR σ c v) {m : Nat} (h : lenOf c = some m) (w : World) : (Builtin.lenOf v).run P w = .ok m w := by
  unfold lenOf at h
  split at h
  · simp only [VR] at hv; subst hv; cases h; rfl
  · rename_i l x; simp only [VR] at hv; subst hv; cases h; simp [Builtin.lenOf, ByteArray.size, bys_len]
  · simp only [VR] at hv; obtain ⟨_, _, _, _, _, rfl, _⟩ := hv; cases h; rfl
  · cases h
theorem elsOf_sound (hR : Rel w0 σ hp n w) {c : CV} {v : Value} (hv : VR σ c v) {u8 : Bool} {s m : Nat} {e : Els} (h : elsOf hp u8 s c m = some e) (h1 : 1 ≤ s) (h8 : u8 = true → s = 1) :
    ∃ vs, ElsR σ e vs ∧ vs.length = m * s ∧ ∀ w', (∀ a, w'.cell? a = w.cell? a) → (Builtin.firstCells s m v).run P w' = .ok vs.toArray w' := by
  unfold elsOf at h
  split at h
  · obtain ⟨h2, h3⟩ := cbif h
    have := Nat.eq_of_beq_eq_true h2; subst this
    simp only [VR] at hv; subst hv
    refine ⟨[], ?_, by simp, fun w' _ => rfl⟩
    cases h3; cases u8 <;> simp [ElsR, VRs, bys]
  · rename_i l x
    obtain ⟨h2, h3⟩ := cbif h
    obtain ⟨h4, h5⟩ := cbif h3
    cases h5
    have h4 := Nat.le_of_ble_eq_true h4
    have := h8 h2; subst this
    simp only [VR] at hv; subst hv
    refine ⟨(bys m x).map bval, rfl, by simp [bys_len], fun w' _ => ?_⟩
    have e := extract_bys l x 0 m h4 (Nat.zero_le _)
    simp only [Builtin.firstCells, Sem.run_pure]
    rw [e]
    congr 1
    simp only [Nat.sub_zero]
    have e2 : bys m (bsub x 0 m) = bys m x := by unfold bsub; rw [bys_mod, pw_zero, Nat.div_one]
    rw [e2]
    apply Array.ext'; simp [bval]
  · rename_i b o s' l kk ex
    obtain ⟨h2, h3⟩ := cbif h
    have := Nat.eq_of_beq_eq_true h2; subst this
    obtain ⟨h4, h5⟩ := cbif h3
    have h4 := Nat.le_of_ble_eq_true h4
    simp only [VR] at hv; obtain ⟨p, t, o', C, hs, rfl, hlk, hkc, hex, ho, hle, heq⟩ := hv
    cases hm0 : Nat.beq m 0
    · rw [hm0] at h5; simp only [cond_false] at h5
      have hm : m ≠ 0 := fun e => by rw [e] at hm0; cases hm0
      have hoo := ho (.inl (by omega)); subst hoo
      have rd : ∀ (vs ws : List Value) (fz : Bool), Row w p t ws fz → vs.length = m * s → (∀ j v, vs[j]? = some v → ws[o' + j]? = some v) → ∀ w', (∀ a, w'.cell? a = w.cell? a) → (Builtin.firstCells s m (.slice (some ⟨p, o', none⟩) l C)).run P w' = .ok vs.toArray w' := by
        intro vs ws fz hrow hl hj w' hw'
        simp only [Builtin.firstCells]
        rw [← hl]
        exact run_loadCells _ vs w' (fun j v hv => by rw [hw', add_eq]; exact (hrow.cell (hj j v hv)).1)
      cases hu : u8
      · rw [hu] at h5; simp only [cond_false] at h5
        split at h5
        · rename_i cs hc
          split at h5
          · rename_i r hr
            cases h5
            obtain ⟨ws, g1, g2⟩ := hR.at hs hc (by simp)
            obtain ⟨a1, a2, a3⟩ := (g1.drop (n := o')).take hr
            refine ⟨_, a1, by rw [List.length_take]; omega, rd _ ws _ g2 (by rw [List.length_take]; omega) (fun j v hj => ?_)⟩
            have hlt := (List.getElem?_eq_some_iff.1 hj).1
            rw [List.getElem?_take_of_lt (by simp at hlt; omega), List.getElem?_drop] at hj
            exact hj
          · cases h5
        · cases h5
      · rw [hu] at h5; simp only [cond_true] at h5
        have := h8 hu; subst this
        split at h5
        · rename_i kk2 x hc
          obtain ⟨h6, h7⟩ := cbif h5
          cases h7
          have h6 := Nat.le_of_ble_eq_true h6
          have g2 : Row w p t ((bys kk2 x).map bval) true := (hR.at hs hc (by simp)).1
          refine ⟨(bys m (bsub x o' m)).map bval, rfl, by simp [bys_len], rd _ _ _ g2 (by simp [bys_len]) (fun j v hj => ?_)⟩
          have hlt := (List.getElem?_eq_some_iff.1 hj).1
          rw [List.length_map, bys_len] at hlt
          rw [← bys_sub kk2 x o' m h6, List.getElem?_map, List.getElem?_take_of_lt hlt, List.getElem?_drop, ← List.getElem?_map] at hj
          exact hj
        · cases h5
    · rw [hm0] at h5; simp only [cond_true] at h5
      have := Nat.eq_of_beq_eq_true hm0; subst this
      refine ⟨[], ?_, by simp, fun w' _ => by simp [Builtin.firstCells, loadCells, loadCellsFrom]⟩
      cases h5; cases u8 <;> simp [ElsR, VRs, bys]
  · cases h
theorem Row.len {p t : Nat} {vs : List Value} {fz : Bool} (h : Row w p t vs fz) : vs.length ≤ t := by
  obtain ⟨arr, _, _, _, _, q1, ⟨sp, q2⟩, _⟩ := h; have := congrArg List.length q2; simp at this; omega
end
end Go.Cx
