/- A run with written-out values: the quiet operations' soundness (fifth part: operators, conversions, maps, builtins). -/
import Derived.Test.YtmjckbfjaecjjaaGreatDoorCxI
set_option linter.unusedVariables false
set_option linter.unusedSimpArgs false
set_option linter.unnecessarySimpa false
namespace Go.Cx
open Go.RowKit (Below)
section
variable {P : Program} {w0 : World} {σ : Sg} {hp : H} {n : Nat} {w : World} {fr : F} {ev : Operand → Value} {k : CV → Res} {φ : Out → Prop}
theorem int_shape {a : CV} (hj : a ≠ .junk) {i : IntKind} {x : Int} (ha : VR σ a (.int i x)) : ∃ k, a = .int k x := by
  cases a <;> simp only [VR] at ha
  all_goals first | exact absurd rfl hj | (cases ha; exact ⟨_, rfl⟩) | (cases ha; done) | (obtain ⟨_, _, _, hc⟩ := ha; cases hc; done) | (obtain ⟨_, _, hc⟩ := ha; cases hc; done) | (obtain ⟨_, _, _, _, _, hc, _⟩ := ha; cases hc; done) | (obtain ⟨_, _, _, _, hc⟩ := ha; cases hc; done)
theorem str_shape {a : CV} (hj : a ≠ .junk) {x : ByteArray} (ha : VR σ a (.string x)) : ∃ l m, a = .str l m := by
  cases a <;> simp only [VR] at ha
  all_goals first | exact absurd rfl hj | exact ⟨_, _, rfl⟩ | (cases ha; done) | (obtain ⟨_, _, _, hc⟩ := ha; cases hc; done) | (obtain ⟨_, _, hc⟩ := ha; cases hc; done) | (obtain ⟨_, _, _, _, _, hc, _⟩ := ha; cases hc; done) | (obtain ⟨_, _, _, _, hc⟩ := ha; cases hc; done)
theorem float_shape {a : CV} (hj : a ≠ .junk) {f : FloatKind} {x : Nat} (ha : VR σ a (.float f x)) : False := by
  cases a <;> simp only [VR] at ha
  all_goals first | exact absurd rfl hj | (cases ha; done) | (obtain ⟨_, _, _, hc⟩ := ha; cases hc; done) | (obtain ⟨_, _, hc⟩ := ha; cases hc; done) | (obtain ⟨_, _, _, _, _, hc, _⟩ := ha; cases hc; done) | (obtain ⟨_, _, _, _, hc⟩ := ha; cases hc; done)
theorem complex_shape {a : CV} (hj : a ≠ .junk) {f : FloatKind} {x y : Nat} (ha : VR σ a (.complex f x y)) : False := by
  cases a <;> simp only [VR] at ha
  all_goals first | exact absurd rfl hj | (cases ha; done) | (obtain ⟨_, _, _, hc⟩ := ha; cases hc; done) | (obtain ⟨_, _, hc⟩ := ha; cases hc; done) | (obtain ⟨_, _, _, _, _, hc, _⟩ := ha; cases hc; done) | (obtain ⟨_, _, _, _, hc⟩ := ha; cases hc; done)
theorem q_bin (hR : Rel w0 σ hp n w) (hL : ∀ x, VR σ (lk fr x) (ev x)) {op : BinOp} {t : Nat} {x y : Operand} (h : Good (qBin P fr hp op t x y k) φ) :
    QR P σ w (do eqGuard op t x y (ev x) (ev y); binOp op t (ev x) (ev y)) k φ := by
  unfold qBin at h
  have hx := hL x
  have hy := hL y
  split at h
  · rename_i kd a kd' b e1 e2
    rw [e1] at hx; rw [e2] at hy
    simp only [VR] at hx hy
    have key : QR P σ w (binOp op t (.int (kc kd) a) (.int (kc kd') b)) k φ := by
      split at h
      · exact q_sh t (.inl rfl) h
      · exact q_sh t (.inr rfl) h
      · rename_i n1 n2
        obtain ⟨g, h2⟩ := h.bif
        have := Nat.eq_of_beq_eq_true g; subst this
        exact q_int t (fun e => n1 e) (fun e => n2 e) h2
    obtain ⟨c, v, g1, g2, g3⟩ := key
    rw [hx, hy]
    exact ⟨c, v, run_guard rfl g1, g2, g3⟩
  · rename_i l m l' m' e1 e2
    rw [e1] at hx; rw [e2] at hy
    simp only [VR] at hx hy
    obtain ⟨c, v, g1, g2, g3⟩ := q_str (P := P) (σ := σ) (w := w) t h
    rw [hx, hy]
    exact ⟨c, v, run_guard rfl g1, g2, g3⟩
  · rename_i n1 n2
    cases ht : twoNil x y (lk fr x) (lk fr y)
    · rw [ht] at h; simp only [cond_false] at h
      have pre : ∀ {r : Bool}, eqVal P hp t (lk fr x) (lk fr y) = some r → binOp .eql t (ev x) (ev y) = (do pure (.bool (← Op.equal t (ev x) (ev y)))) ∧ binOp .neq t (ev x) (ev y) = (do pure (.bool (!(← Op.equal t (ev x) (ev y))))) := fun hr => by
        obtain ⟨j1, j2⟩ := eqVal_junk hr
        refine binOp_eqd (fun i j a b e1 e2 => ?_) (fun a b e1 e2 => ?_) (fun i j a b e1 e2 => ?_) (fun i j a b c d e1 e2 => ?_)
        · rw [e1] at hx; rw [e2] at hy
          obtain ⟨k1, q1⟩ := int_shape j1 hx; obtain ⟨k2, q2⟩ := int_shape j2 hy
          exact n1 _ _ _ _ q1 q2
        · rw [e1] at hx; rw [e2] at hy
          obtain ⟨k1, m1, q1⟩ := str_shape j1 hx; obtain ⟨k2, m2, q2⟩ := str_shape j2 hy
          exact n2 _ _ _ _ q1 q2
        · rw [e1] at hx; exact float_shape j1 hx
        · rw [e1] at hx; exact complex_shape j1 hx
      split at h
      · split at h
        · rename_i r hr
          have e := (eqVal_sound hR hx hy hr).1
          refine ⟨_, .bool r, ?_, by simp only [VR], h⟩
          have g := guard_ok hR hx hy hr ht (op := .eql)
          have e2 : (do eqGuard .eql t x y (ev x) (ev y); binOp .eql t (ev x) (ev y) : Sem Value) = (eqGuard .eql t x y (ev x) (ev y)).bind fun _ => binOp .eql t (ev x) (ev y) := rfl
          rw [e2, Sem.run_bind', g]; simp only [Result.andThen]
          rw [(pre hr).1]
          rw [show (do pure (.bool (← Op.equal t (ev x) (ev y))) : Sem Value) = (Op.equal t (ev x) (ev y)).bind (fun r => Sem.pure (.bool r)) from rfl, Sem.run_bind', e]
          rfl
        · exact h.no.elim
      · split at h
        · rename_i r hr
          have e := (eqVal_sound hR hx hy hr).1
          refine ⟨_, .bool (!r), ?_, by simp only [VR], h⟩
          have g := guard_ok hR hx hy hr ht (op := .neq)
          have e2 : (do eqGuard .neq t x y (ev x) (ev y); binOp .neq t (ev x) (ev y) : Sem Value) = (eqGuard .neq t x y (ev x) (ev y)).bind fun _ => binOp .neq t (ev x) (ev y) := rfl
          rw [e2, Sem.run_bind', g]; simp only [Result.andThen]
          rw [(pre hr).2]
          rw [show (do pure (.bool (!(← Op.equal t (ev x) (ev y)))) : Sem Value) = (Op.equal t (ev x) (ev y)).bind (fun r => Sem.pure (.bool (!r))) from rfl, Sem.run_bind', e]
          rfl
        · exact h.no.elim
      · exact h.no.elim
    · rw [ht] at h; exact h.no.elim
theorem q_un (hL : ∀ x, VR σ (lk fr x) (ev x)) {op : UnOp} {x : Operand} (h : Good (qUn fr op x k) φ) : QR P σ w (Op.unary op (ev x)) k φ := by
  unfold qUn at h
  have hx := hL x
  split at h
  · rename_i b e; rw [e] at hx; simp only [VR] at hx
    exact ⟨_, .bool (!b), by rw [hx]; rfl, by simp only [VR], h⟩
  · rename_i kd m e; rw [e] at hx; simp only [VR] at hx
    rw [wrapK_eq] at h
    exact ⟨_, _, by rw [hx]; rfl, by simp only [VR], h⟩
  · rename_i kd m e; rw [e] at hx; simp only [VR] at hx
    exact ⟨_, _, by rw [hx]; rfl, by simp only [VR], h⟩
  · exact h.no.elim
theorem conv_mem {src dst : Nat} {x : Value} {ds dd : TypeDesc} (h1 : P.underlying src = some ds) (h2 : P.underlying dst = some dd) : True := trivial
theorem q_conv (hR : Rel w0 σ hp n w) (hL : ∀ x, VR σ (lk fr x) (ev x)) {src dst : Nat} {x : Operand} (h : Good (qConv P fr hp src dst x k) φ) : QR P σ w (convert src dst (ev x)) k φ := by
  unfold qConv at h
  have hx := hL x
  split at h
  · rename_i kd k' m hd e; rw [e] at hx; simp only [VR] at hx
    split at h
    · rename_i ds hs
      rw [wrapK_eq, kc_kn] at h
      refine ⟨_, .int kd (kd.wrap m), ?_, by simp only [VR, kc_kn], h⟩
      rw [hx]
      have h1 := tyD_und hd; have h2 := tyD_und hs
      cases ds <;> simp [convert, run_underlying h1, run_underlying h2, Conv.intToInt]
    · exact h.no.elim
  · rename_i l m hd e; rw [e] at hx; simp only [VR] at hx
    split at h
    · rename_i ds hs
      refine ⟨_, .string ⟨(bys l m).toArray⟩, ?_, by simp only [VR], h⟩
      rw [hx]
      have h1 := tyD_und hd; have h2 := tyD_und hs
      cases ds <;> simp [convert, run_underlying h1, run_underlying h2]
    · exact h.no.elim
  · rename_i hd e; rw [e] at hx; simp only [VR] at hx
    split at h
    · rename_i el hs
      obtain ⟨hu, h⟩ := h.bif
      refine ⟨_, .string ⟨(bys 0 0).toArray⟩, ?_, by simp only [VR], h⟩
      rw [hx, run_convert_bytes_string w src dst el none 0 0 (tyD_und hs) (isU8_spec hu) (tyD_und hd)]; rfl
    · exact h.no.elim
  · rename_i b o s l kk ex hd e; rw [e] at hx; simp only [VR] at hx
    obtain ⟨p, u, o', c, hs, hv, hlk, hkc, hex, ho, hle, heq⟩ := hx
    split at h
    · rename_i el hsl
      obtain ⟨hu, h'⟩ := h.bif
      clear h
      split at h'
      · rename_i m y hb
        have hrow := (hR.at hs hb (by simp)).1
        cases hl0 : Nat.beq l 0
        · rw [hl0] at h'; simp only [cond_false] at h'
          obtain ⟨hom, h⟩ := h'.bif
          clear h'
          have hom := Nat.le_of_ble_eq_true hom
          have hl1 : l ≠ 0 := fun e => by rw [e] at hl0; cases hl0
          have hoo := ho (.inl (by omega)); subst hoo
          refine ⟨_, .string ⟨(bys l (bsub y o' l)).toArray⟩, ?_, by simp only [VR], h⟩
          rw [hv]
          have := run_convert_bytes_back (P := P) w src dst el ⟨p, o', none⟩ c (bys l (bsub y o' l)) (tyD_und hsl) (isU8_spec hu) (tyD_und hd) (fun j hj => by
            rw [add_eq]
            rw [bys_len] at hj
            refine (Row.cell hrow ?_).1
            rw [List.getElem?_map]
            have e1 := bys_sub m y o' l hom
            have e2 : (bys m y)[o' + j]? = some (bys l (bsub y o' l))[j] := by
              have : (bys l (bsub y o' l))[j]? = some (bys l (bsub y o' l))[j] := List.getElem?_eq_getElem (by rw [bys_len]; exact hj)
              rw [← this, ← e1, List.getElem?_take_of_lt hj, List.getElem?_drop]
            rw [e2]; rfl)
          rw [bys_len] at this; exact this
        · rw [hl0] at h'; simp only [cond_true] at h'
          have := Nat.eq_of_beq_eq_true hl0; subst this
          refine ⟨_, .string ⟨(bys 0 0).toArray⟩, ?_, by simp only [VR], h'⟩
          rw [hv]
          exact run_convert_bytes_back (P := P) w src dst el ⟨p, o', none⟩ c [] (tyD_und hsl) (isU8_spec hu) (tyD_und hd) (fun j hj => by simp at hj)
      · exact h'.no.elim
    · exact h.no.elim
  · exact h.no.elim
theorem q_extract (hL : ∀ x, VR σ (lk fr x) (ev x)) {t : Operand} {ix : Nat} (h : Good (qExtract fr t ix k) φ) : QR P σ w (Instr.extract (ev t) ix) k φ := by
  unfold qExtract at h
  have hx := hL t
  split at h
  · rename_i vs e; rw [e] at hx; simp only [VR] at hx
    obtain ⟨ws, h1, hv⟩ := hx
    split at h
    · rename_i c hc
      obtain ⟨y, g1, g2⟩ := h1.get hc
      exact ⟨_, y, by rw [hv]; simp [Instr.extract, g1], g2, h⟩
    · exact h.no.elim
  · exact h.no.elim
theorem q_makeI (hL : ∀ x, VR σ (lk fr x) (ev x)) {t : Nat} {x : Operand} (h : Good (qMakeI P fr t x k) φ) : QR P σ w (Instr.makeInterface t (ev x)) k φ := by
  unfold qMakeI at h
  split at h
  · exact h.no.elim
  · rename_i d hni hd
    have h1 := tyD_und hd
    split at h
    · exact h.no.elim
    · refine ⟨_, .iface t (ev x), ?_, by simp only [VR]; exact ⟨_, hL x, rfl⟩, h⟩
      cases d <;> first | exact (hni _ rfl).elim | simp [Instr.makeInterface, run_underlying h1]
  · exact h.no.elim
theorem lks_R (hL : ∀ x, VR σ (lk fr x) (ev x)) : ∀ (l : List Operand), VRs σ (lks fr l) (l.map ev)
  | [] => by simp only [lks, VRs, List.map_nil]
  | x :: l => by simp only [lks, VRs, List.map_cons]; exact ⟨_, _, rfl, hL x, lks_R hL l⟩
theorem amap (a : Array Operand) : a.map ev = (a.toList.map ev).toArray := by apply Array.ext'; simp
theorem q_makeF (hL : ∀ x, VR σ (lk fr x) (ev x)) {fn : Fn} {first caps : Array Operand} (h : Good (qMakeF fr fn first caps k) φ) : QR P σ w (Instr.makeFunc fn (first.map ev) (caps.map ev)) k φ := by
  unfold qMakeF at h
  split at h
  · rename_i f
    exact ⟨_, _, rfl, by simp only [VR]; exact ⟨_, _, lks_R hL _, lks_R hL _, by rw [amap, amap]⟩, h⟩
  · rename_i name
    split at h
    · rename_i x e1 e2
      have hx := hL x
      split at h
      · rename_i t v e
        rw [e] at hx
        have f1 : first = #[x] := by rw [← Array.toArray_toList (xs := first), e1]
        have f2 : caps = #[] := by rw [← Array.toArray_toList (xs := caps), e2]
        subst f1; subst f2
        exact ⟨_, _, rfl, by simp only [VR] at hx ⊢; exact ⟨_, hx, by simp⟩, h⟩
      · exact h.no.elim
    · exact h.no.elim
  · exact h.no.elim
end
end Go.Cx
