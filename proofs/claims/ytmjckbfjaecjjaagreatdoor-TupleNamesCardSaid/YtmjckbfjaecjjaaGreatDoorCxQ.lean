/- A run with written-out values: contracts for the model's own entries. -/
import Derived.Test.YtmjckbfjaecjjaaGreatDoorCxP
import Derived.Laws.Externs
import Derived.Lib.Bytealg
set_option linter.unusedVariables false
set_option linter.unusedSimpArgs false
set_option linter.unnecessarySimpa false
namespace Go.Cx
open Go.RowKit (Below)
/-! ### maps.clone -/
noncomputable def cloneC : Cn := fun args hp n => match args with
  | [.ifc t (.map b)] => (match hget hp b with | .map es c => newCk hp n (.map es c) (fun i => .ifc t (.map i)) (fun v hp n => some [⟨v, hp, n⟩]) | _ => none)
  | _ => none
/-! ### internal/bytealg.Compare -/
def cmpN : Nat → Nat → Nat → Nat → Int
  | 0, 0, _, _ => 0
  | 0, _ + 1, _, _ => -1
  | _ + 1, 0, _, _ => 1
  | l + 1, m + 1, x, y => bif Nat.blt (x % 256) (y % 256) then -1 else bif Nat.blt (y % 256) (x % 256) then 1 else cmpN l m (x / 256) (y / 256)
noncomputable def cmpC : Cn := fun args hp n => match args with
  | [a, b] => (match lenOf a, lenOf b with
    | some l, some m => (match elsOf hp true 1 a l, elsOf hp true 1 b m with
      | some (.bs l x), some (.bs m y) => some [⟨.int 3 (cmpN l m x y), hp, n⟩]
      | _, _ => none)
    | _, _ => none)
  | _ => none
section
variable {P : Program} {w0 : World}
theorem clone_ok {f : Nat} {fn : Func} (hf : P.funcs[f]? = some fn) (hname : (fn.name == "runtime.NumGoroutine") = false)
    (hb : fn.body.isNone = true) (hn : Extern.findNext fn = none) (he : Extern.find fn = some Extern.MapsClone.clone) : CallOk P w0 f cloneC := by
  intro args hp n σ w xs l hR hx h
  left
  unfold cloneC at h
  split at h
  · rename_i t b
    split at h
    · rename_i es c hm
      simp only [VRs, VR] at hx
      obtain ⟨v, ws, rfl, ⟨x, ⟨p, u, hs, rfl⟩, rfl⟩, rfl⟩ := hx
      obtain ⟨ms, h1, h2⟩ := hR.at hs hm (by simp)
      obtain ⟨σ', s1, s2, s3, s4, s5⟩ := newCk_sound (φ := (· ∈ l)) (t := 0) hR ⟨l, h, fun o ho => ho⟩ (.map ms.toArray c) (fun τ hle _ => ⟨ms, h1.mono hle, heap_push w _⟩)
      obtain ⟨q, hq, hm⟩ := s5
      cases hq
      refine ⟨.iface t (.map (some w.heap.size)), _, ?_, ⟨CV.ifc t (CV.map (idN n)), hset hp (idN n) (Ck.map es c), n + 1⟩, σ', hm _ (by simp), ?_, s2, s3, s4⟩
      · rw [run_callFunc_extern hf hname hb hn he]
        have : (Extern.MapsClone.clone #[.iface t (.map (some p))]).run P w = .ok (.iface t (.map (some w.heap.size))) { w with heap := w.heap.push (.map ms.toArray c) } := by
          change Sem.run P (do
            let .map entries clock ← getObj p | stuck "maps.clone: a map expected"
            pure (Value.iface t (Value.map (some (← newObj (Obj.map entries clock)))))) w = _
          simp [getObj, newObj, Sem.run, h2]
        rw [show [Value.iface t (.map (some p))].toArray = #[.iface t (.map (some p))] from rfl, this]
        rfl
      · simp only [VR]; exact ⟨_, ⟨_, _, s1, rfl⟩, rfl⟩
    · cases h
  · cases h
theorem blt_of {a b : Nat} (h : a < b) : Nat.blt a b = true := by simpa [Nat.blt_eq] using h
theorem of_blt {a b : Nat} (h : Nat.blt a b = true) : a < b := by simpa [Nat.blt_eq] using h
theorem cmpN_eq : ∀ (l m x y : Nat), cmpN l m x y = Lib.compareBytes (bys l x) (bys m y)
  | 0, 0, _, _ => rfl
  | 0, _ + 1, _, _ => rfl
  | _ + 1, 0, _, _ => rfl
  | l + 1, m + 1, x, y => by
    simp only [cmpN, bys, Lib.compareBytes, cmpN_eq l m (x / 256) (y / 256)]
    have key : ∀ a b : Nat, a < 256 → b < 256 → (UInt8.ofNat a < UInt8.ofNat b ↔ a < b) := fun a b ha hb => by
      rw [UInt8.lt_iff_toNat_lt, u8_nat a ha, u8_nat b hb]
    have k1 := key (x % 256) (y % 256) (Nat.mod_lt _ (by decide)) (Nat.mod_lt _ (by decide))
    have k2 := key (y % 256) (x % 256) (Nat.mod_lt _ (by decide)) (Nat.mod_lt _ (by decide))
    cases h1 : Nat.blt (x % 256) (y % 256)
    · have : ¬ x % 256 < y % 256 := fun e => by have := blt_of e; rw [h1] at this; cases this
      rw [if_neg (fun e => this (k1.1 e))]
      cases h2 : Nat.blt (y % 256) (x % 256)
      · have : ¬ y % 256 < x % 256 := fun e => by have := blt_of e; rw [h2] at this; cases this
        rw [if_neg (fun e => this (k2.1 e))]; rfl
      · rw [if_pos (k2.2 (of_blt h2))]; rfl
    · rw [if_pos (k1.2 (of_blt h1))]; rfl
theorem loadBytes_run {w : World} : ∀ (bs : List UInt8) (p o : Nat) (acc : ByteArray), (∀ i b, bs[i]? = some b → w.cell? ⟨p, o + i, none⟩ = some (bval b)) → (Extern.Bytes.loadBytes ⟨p, o, none⟩ bs.length acc).run P w = .ok ⟨acc.data ++ bs.toArray⟩ w
  | [], p, o, acc, _ => by simp [Extern.Bytes.loadBytes]
  | b :: bs, p, o, acc, h => by
    have h0 := h 0 b rfl
    have ih := loadBytes_run bs p (o + 1) (acc.push b) (fun i c hc => by
      have := h (i + 1) c (by simpa using hc)
      rw [show o + 1 + i = o + (i + 1) by omega]; exact this)
    simp only [Nat.add_zero] at h0
    simp only [List.length_cons, Extern.Bytes.loadBytes, Sem.run_bind, run_load, h0, bval, Result.andThen_ok, add_eq]
    have e : ((b.toNat : Nat) : Int).toNat.toUInt8 = b := by simp
    rw [e, ih]
    congr 2
    simp [ByteArray.push]
theorem bytesOf_sound {σ : Sg} {hp : H} {n : Nat} {w : World} (hR : Rel w0 σ hp n w) {c : CV} {v : Value} (hv : VR σ c v) {l m x : Nat} (h1 : lenOf c = some l) (h : elsOf hp true 1 c l = some (.bs m x)) :
    (Extern.Bytes.bytesOf v).run P w = .ok ⟨(bys m x).toArray⟩ w := by
  unfold elsOf at h
  split at h
  · obtain ⟨_, h3⟩ := cbif h
    cases h3
    simp only [VR] at hv; subst hv; rfl
  · rename_i l' x'
    obtain ⟨_, h3⟩ := cbif h
    obtain ⟨_, h4⟩ := cbif h3
    cases h4
    simp only [lenOf] at h1; cases h1
    simp only [VR] at hv; subst hv; rfl
  · rename_i b o s l' kk ex
    simp only [lenOf] at h1; cases h1
    simp only [VR] at hv
    obtain ⟨p, t, o', c, hs, rfl, hk, _, _, ho, _, _⟩ := hv
    obtain ⟨_, h⟩ := cbif h
    obtain ⟨_, h⟩ := cbif h
    cases hz : Nat.beq l 0
    · rw [hz] at h
      simp only [cond_false, cond_true] at h
      split at h
      · rename_i k x' hb
        obtain ⟨hfit, h⟩ := cbif h
        cases h
        have hfit := Nat.le_of_ble_eq_true hfit
        have hne : l ≠ 0 := fun e => by subst e; cases hz
        have ho := ho (.inl (by omega))
        subst ho
        have hrow : Row w p t ((bys k x').map bval) true := (hR.at hs hb (by simp)).1
        have := loadBytes_run (P := P) (w := w) (bys l (bsub x' o' l)) p o' .empty (fun i b hb => by
          refine (hrow.cell (i := o' + i) ?_).1
          rw [← bys_sub k x' o' l hfit, List.getElem?_take] at hb
          split at hb
          · rw [List.getElem?_drop] at hb
            simp [hb]
          · cases hb)
        rw [bys_len] at this
        show (Extern.Bytes.loadBytes ⟨p, o', none⟩ l .empty).run P w = _
        rw [this]
        have e : (ByteArray.empty.data ++ (bys l (bsub x' o' l)).toArray) = (bys l (bsub x' o' l)).toArray := by
          show (#[] ++ _ : Array UInt8) = _
          simp
        rw [e]
      · cases h
    · rw [hz] at h
      cases h
      have := nbq hz; subst this
      rfl
  · cases h
theorem cmp_ok {f : Nat} {fn : Func} (hf : P.funcs[f]? = some fn) (hname : (fn.name == "runtime.NumGoroutine") = false)
    (hb : fn.body.isNone = true) (hn : Extern.findNext fn = none) (he : Extern.find fn = some Extern.BytealgCompare.compare) : CallOk P w0 f cmpC := by
  intro args hp n σ w xs l hR hx h
  left
  unfold cmpC at h
  split at h
  · rename_i a b
    split at h
    · rename_i l1 m1 h1 h2
      split at h
      · rename_i l2 x m2 y h3 h4
        cases h
        simp only [VRs] at hx
        obtain ⟨va, ws, rfl, ha, vb, ws', rfl, hb', rfl⟩ := hx
        have q1 := bytesOf_sound (P := P) hR ha h1 h3
        have q2 := bytesOf_sound (P := P) hR hb' h2 h4
        refine ⟨.int .i64 (cmpN l2 m2 x y), w, ?_, _, σ, List.mem_singleton.2 rfl, ?_, hR, Ex.refl _ _, Nle.refl _⟩
        · rw [run_callFunc_extern hf hname hb hn he]
          have : (Extern.BytealgCompare.compare #[va, vb]).run P w = .ok (.int .i64 (cmpN l2 m2 x y)) w := by
            change Sem.run P (do pure (goInt (Extern.BytealgCompare.cmp (← Extern.Bytes.bytesOf va) (← Extern.Bytes.bytesOf vb)))) w = _
            simp only [Sem.run_bind, q1, q2, Result.andThen_ok, Sem.run_pure, Lib.cmp_eq, goInt, cmpN_eq]
          rw [show [va, vb].toArray = #[va, vb] from rfl, this]
          rfl
        · simp only [VR]; rfl
      · cases h
    · cases h
  · cases h
end
end Go.Cx
