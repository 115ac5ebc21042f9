/- A run with written-out values: the tables, reading memory, the quiet operations' soundness (first part). -/
import Derived.Test.YtmjckbfjaecjjaaGreatDoorCxE
import Derived.LaidEql
import Derived.WalkKit
import Derived.Laws.Tables
import Derived.Laws.IdiomStrings
set_option linter.unusedVariables false
set_option linter.unusedSimpArgs false
set_option linter.unnecessarySimpa false
namespace Go.Cx
open Go.RowKit (Below)

/-! ### Outcomes -/
def Good (r : Res) (φ : Out → Prop) : Prop := ∃ l, r = some l ∧ ∀ o ∈ l, φ o
theorem Good.no {φ : Out → Prop} (h : Good none φ) : False := by obtain ⟨l, h, _⟩ := h; cases h
theorem Good.cat {a b : Res} {φ : Out → Prop} (h : Good (Res.cat a b) φ) : Good a φ ∧ Good b φ := by
  obtain ⟨l, h, hl⟩ := h
  unfold Res.cat at h
  split at h
  · cases h
  · split at h
    · cases h
    · cases h
      exact ⟨⟨_, rfl, fun o ho => hl o (List.mem_append_left _ ho)⟩, ⟨_, rfl, fun o ho => hl o (List.mem_append_right _ ho)⟩⟩
theorem cbif {α : Type} {b : Bool} {x : Option α} {y : α} (h : (bif b then x else none) = some y) : b = true ∧ x = some y :=
  match b, h with
  | true, h => ⟨rfl, h⟩
theorem Good.bif {b : Bool} {x : Res} {φ : Out → Prop} (h : Good (bif b then x else none) φ) : b = true ∧ Good x φ :=
  match b, h with
  | true, h => ⟨rfl, h⟩
  | false, h => h.no.elim

/-! ### The program's tables -/
theorem nthL_eq {α : Type} : ∀ (l : List α) (i : Nat), nthL l i = l[i]?
  | [], _ => by simp [nthL]
  | a :: l, 0 => by simp [nthL]
  | a :: l, i + 1 => by simp [nthL, nthL_eq l i]
theorem dropL_eq {α : Type} : ∀ (n : Nat) (l : List α), dropL n l = l.drop n
  | 0, _ => by simp [dropL]
  | n + 1, [] => by simp [dropL]
  | n + 1, a :: l => by simp [dropL, dropL_eq n l]
theorem blk_eq {α : Type} (l : List α) : ∀ j, blk l j = l.drop (64 * j)
  | 0 => by simp [blk]
  | j + 1 => by simp only [blk]; rw [dropL_eq, blk_eq l j, List.drop_drop]; congr 1
theorem look_eq {α : Type} (l : List α) (i : Nat) : look l i = l[i]? := by
  unfold look; rw [nthL_eq, blk_eq, List.getElem?_drop]; congr 1; omega
section
variable {P : Program}
theorem tyI_info {t : Nat} {i : TypeInfo} (h : tyI P t = some i) : P.info? t = some i := by
  unfold tyI at h
  rw [look_eq, Array.getElem?_toList] at h
  have hlt := (Array.getElem?_eq_some_iff.1 h).1
  unfold Tables.info?
  rw [if_pos hlt]; exact h
theorem tyD_und {t : Nat} {d : TypeDesc} (h : tyD P t = some d) : P.underlying t = some d := by
  unfold tyD at h
  split at h
  · rename_i i hi
    have := tyI_info hi
    split at h
    · rename_i nm u hd
      split at h
      · rename_i j hj
        cases h
        unfold Program.underlying
        obtain ⟨ds, a1, a2, a3, a4, a5, a6, a7, a8, a9⟩ := i
        simp only at hd; subst hd
        rw [this]; simp [tyI_info hj]
      · cases h
    · rename_i hn
      cases h
      unfold Program.underlying
      rw [this]
      split
      · rename_i heq; cases heq; exact absurd rfl (hn _ _)
      · rename_i heq; cases heq; rfl
      · rename_i heq; cases heq
  · cases h
theorem tySz_info {t n : Nat} (h : tySz P t = some n) : ∃ i, P.info? t = some i ∧ i.size = n := by
  unfold tySz at h
  split at h
  · rename_i i hi; cases h; exact ⟨i, tyI_info hi, rfl⟩
  · cases h
theorem run_size {t n : Nat} (h : tySz P t = some n) (w : World) : (sizeOf t).run P w = .ok n w := by
  obtain ⟨i, hi, rfl⟩ := tySz_info h
  simp [sizeOf, typeInfo, hi]
theorem run_isAg {t : Nat} {d : TypeDesc} (h : P.underlying t = some d) (w : World) : (isAgg t).run P w = .ok (isAg d) w := by
  simp only [isAgg, go_sem, run_underlying h]
  cases d <;> simp [isAg, run_underlying h]
theorem tyA_spec {t n : Nat} {b : Bool} (h : tyA P t = some (b, n)) : ∃ d, P.underlying t = some d ∧ isAg d = b ∧ tySz P t = some n := by
  unfold tyA at h
  split at h
  · rename_i d hd
    split at h
    · rename_i m hm; cases h; exact ⟨d, tyD_und hd, rfl, hm⟩
    · cases h
  · cases h
theorem isU8_spec {t : Nat} (h : isU8 P t = true) : P.underlying t = some (.int .u8) := by
  unfold isU8 at h
  cases hq : Nat.beq t u8T
  · rw [hq] at h; cases h
  rw [hq, cond_true] at h
  split at h
  · rename_i hd; exact tyD_und hd
  · cases h
theorem isU8_ty {t : Nat} (h : isU8 P t = true) : t = u8T := by
  unfold isU8 at h
  cases hq : Nat.beq t u8T
  · rw [hq] at h; cases h
  exact Nat.eq_of_beq_eq_true hq
theorem run_v {s : Sem Value} {v : Value} {w w' : World} (h : s.run P w = .ok v w') : (do pure (Next.value (← s)) : Sem Next).run P w = .ok (.value v) w' := by
  have : (do pure (Next.value (← s)) : Sem Next) = s.bind (fun v => Sem.pure (Next.value v)) := rfl
  rw [this, Sem.run_bind', h]; rfl
theorem run_loadCells (a : Addr) (vs : List Value) (w : World) (h : ∀ j v, vs[j]? = some v → w.cell? (a.add j) = some v) : (loadCells a vs.length).run P w = .ok vs.toArray w := by
  have key : ∀ (n i : Nat) (acc : Array Value), i + n = vs.length → (loadCellsFrom a i n acc).run P w = .ok (acc ++ (vs.drop i).toArray) w := by
    intro n
    induction n with
    | zero => intro i acc h'; simp [loadCellsFrom, List.drop_eq_nil_of_le (show vs.length ≤ i by omega)]
    | succ n ih =>
      intro i acc h'
      have hlt : i < vs.length := by omega
      have hc := h i vs[i] (List.getElem?_eq_getElem hlt)
      have e : (loadCellsFrom a i (n + 1) acc) = (load (a.add i)).bind (fun v => loadCellsFrom a (i + 1) n (acc.push v)) := rfl
      rw [e, Sem.run_bind']
      have e2 : (load (a.add i)).run P w = .ok vs[i] w := by simp [load, Sem.run, hc]
      rw [e2]
      simp only [Result.andThen]
      rw [ih (i + 1) _ (by omega)]
      congr 1
      rw [List.drop_eq_getElem_cons hlt]
      simp
  have := key vs.length 0 #[] (by omega)
  simpa [loadCells] using this
theorem add_eq (b o n : Nat) : Addr.add ⟨b, o, none⟩ n = ⟨b, o + n, none⟩ := by unfold Addr.add; split <;> simp_all
theorem run_loadOne {t : Nat} {d : TypeDesc} (hd : P.underlying t = some d) (ha : isAg d = false) {b o : Nat} {v : Value} {w : World} (h : w.cell? ⟨b, o, none⟩ = some v) : (loadVar t ⟨b, o, none⟩).run P w = .ok v w := by
  have e : loadVar t ⟨b, o, none⟩ = (isAgg t).bind (fun x => if x then ((sizeOf t).bind fun k => (loadCells ⟨b, o, none⟩ k).bind fun vs => Sem.pure (Value.agg vs)) else load ⟨b, o, none⟩) := by
    unfold loadVar; rfl
  rw [e, Sem.run_bind', run_isAg hd, ha]
  simp [Result.andThen, load, Sem.run, h]
theorem run_loadAgg {t n : Nat} {d : TypeDesc} (hd : P.underlying t = some d) (ha : isAg d = true) (hn : tySz P t = some n) {b o : Nat} {vs : List Value} {w : World} (hl : vs.length = n)
    (h : ∀ j v, vs[j]? = some v → w.cell? ⟨b, o + j, none⟩ = some v) : (loadVar t ⟨b, o, none⟩).run P w = .ok (.agg vs.toArray) w := by
  have e : loadVar t ⟨b, o, none⟩ = (isAgg t).bind (fun x => if x then ((sizeOf t).bind fun k => (loadCells ⟨b, o, none⟩ k).bind fun vs => Sem.pure (Value.agg vs)) else load ⟨b, o, none⟩) := by
    unfold loadVar; rfl
  rw [e, Sem.run_bind', run_isAg hd, ha]
  simp only [Result.andThen, if_true]
  rw [Sem.run_bind', run_size hn]
  simp only [Result.andThen]
  rw [Sem.run_bind', ← hl, run_loadCells _ vs w (fun j v hj => by rw [add_eq]; exact h j v hj)]
  rfl
end

/-! ### Reading -/
theorem Row.cell {w : World} {p t : Nat} {vs : List Value} {fz : Bool} (h : Row w p t vs fz) {i : Nat} {v : Value} (hv : vs[i]? = some v) : w.cell? ⟨p, i, none⟩ = some v ∧ w.frozen? ⟨p, i, none⟩ = false ∧ i < t := by
  obtain ⟨arr, ty, lo, hi, h1, h2, ⟨sp, h3⟩, h4⟩ := h
  have hi' : i < vs.length := (List.getElem?_eq_some_iff.1 hv).1
  have ha : arr[i]? = some v := by rw [← Array.getElem?_toList, h3, List.getElem?_append_left hi']; exact hv
  have hlt : i < arr.size := (Array.getElem?_eq_some_iff.1 ha).1
  refine ⟨by simp [World.cell?, h1, ha], ?_, by omega⟩
  simp only [World.frozen?, h1]
  rcases h4 with ⟨rfl, rfl⟩ | ⟨_, h4⟩ <;> simp <;> omega
theorem byteCVs_R (σ : Sg) : ∀ (l n : Nat), VRs σ (byteCVs n l) ((bys l n).map bval)
  | 0, _ => by simp [byteCVs, bys, VRs]
  | l + 1, n => by
    simp only [byteCVs, bys, List.map_cons, VRs]
    refine ⟨_, _, rfl, ?_, byteCVs_R σ l (n / 256)⟩
    simp only [VR, bval, kc]
    congr 1
    rw [UInt8.toNat_ofNat']; have : n % 256 < 256 := Nat.mod_lt _ (by decide)
    simp
section
variable {w0 : World} {σ : Sg} {hp : H} {n : Nat} {w : World}
theorem rd1_sound (hR : Rel w0 σ hp n w) {b o p t : Nat} {c : CV} (h : rd1 hp b o = some c) (hs : σ b = some (p, t)) : ∃ v, w.cell? ⟨p, o, none⟩ = some v ∧ VR σ c v := by
  unfold rd1 at h
  split at h
  · rename_i cs hc
    obtain ⟨vs, h1, h2⟩ := hR.at hs hc (by simp)
    obtain ⟨y, hy, hr⟩ := h1.get h
    exact ⟨y, (h2.cell hy).1, hr⟩
  · rename_i l m hc
    obtain ⟨h1, h⟩ := cbif h
    have h1 : o < l := by simpa [Nat.blt_eq] using h1
    cases h
    have h2 := (hR.at hs hc (by simp)).1
    have hb : ((bys l m).map bval)[o]? = some (bval (UInt8.ofNat (bnth m o))) := by rw [List.getElem?_map, bys_get _ _ _ h1]; rfl
    refine ⟨_, (Row.cell h2 hb).1, ?_⟩
    simp only [VR, bval, kc]
    congr 1
    rw [UInt8.toNat_ofNat']; have := bnth_lt m o
    simp; first | done | omega
  · rename_i cs hc
    obtain ⟨vs, h1, h2, _⟩ := hR.at hs hc (by simp)
    obtain ⟨y, hy, hr⟩ := h1.get h
    exact ⟨y, (h2.cell hy).1, hr⟩
  · cases h
theorem rdN_sound (hR : Rel w0 σ hp n w) {b o p t m : Nat} {cs : List CV} (h : rdN hp b o m = some cs) (hs : σ b = some (p, t)) :
    ∃ vs, vs.length = m ∧ VRs σ cs vs ∧ ∀ j v, vs[j]? = some v → w.cell? ⟨p, o + j, none⟩ = some v := by
  unfold rdN at h
  split at h
  · rename_i old hc
    obtain ⟨vs, h1, h2⟩ := hR.at hs hc (by simp)
    obtain ⟨h3, h4, _⟩ := (h1.drop (n := o)).take h
    refine ⟨_, by rw [List.length_take]; omega, h3, fun j v hj => ?_⟩
    have hlt := (List.getElem?_eq_some_iff.1 hj).1
    rw [List.getElem?_take_of_lt (by simp at hlt; omega), List.getElem?_drop] at hj
    exact (h2.cell hj).1
  · rename_i l x hc
    obtain ⟨h1, h⟩ := cbif h
    have h1 : o + m ≤ l := by simpa [Nat.ble_eq] using h1
    cases h
    have h2 := (hR.at hs hc (by simp)).1
    refine ⟨_, by rw [List.length_map, bys_len], byteCVs_R σ m (x / pw o), fun j v hj => ?_⟩
    have hlt := (List.getElem?_eq_some_iff.1 hj).1
    rw [List.length_map, bys_len] at hlt
    refine (Row.cell h2 ?_).1
    rw [List.getElem?_map, bys_get _ _ _ hlt] at hj
    rw [List.getElem?_map, bys_get _ _ _ (by omega), ← bnth_div]; exact hj
  · rename_i old hc
    obtain ⟨vs, h1, h2, _⟩ := hR.at hs hc (by simp)
    obtain ⟨h3, h4, _⟩ := (h1.drop (n := o)).take h
    refine ⟨_, by rw [List.length_take]; omega, h3, fun j v hj => ?_⟩
    have hlt := (List.getElem?_eq_some_iff.1 hj).1
    rw [List.getElem?_take_of_lt (by simp at hlt; omega), List.getElem?_drop] at hj
    exact (h2.cell hj).1
  · cases h
end
end Go.Cx
