/- The quiet operations: that what they answer symbolically is what the model does. Part 5: the whole. -/
import Derived.Test.YtmjonggabppgaaaEngH
import Derived.Laws.Tables
import Derived.Laws.IdiomStrings
set_option linter.unusedSimpArgs false
set_option linter.unusedVariables false
namespace Go.Eng
open Go.RowKit (Below)

section
variable {G : Type} (S : Sig G) (ρ : Env G) (w0 : World) {P : Program}

theorem places_of : ∀ (fs : List Field), (∀ f ∈ fs, (szOf P f.type).isSome = true) → ∃ places, fs.mapM (fun f => (P.info? f.type).map fun i => (f.offset, i.size)) = some places ∧
    ∀ i : Nat, places[i]? = (fs[i]?).bind (fun f => (szOf P f.type).map fun n => (f.offset, n))
  | [], _ => ⟨[], rfl, by simp⟩
  | f :: fs, h => by
    obtain ⟨pl, h1, h2⟩ := places_of fs (fun g hg => h g (List.mem_cons_of_mem _ hg))
    have hf := h f List.mem_cons_self
    obtain ⟨n, hn⟩ := Option.isSome_iff_exists.1 hf
    obtain ⟨i, hi, rfl⟩ := szOf_info hn
    refine ⟨(f.offset, i.size) :: pl, ?_, ?_⟩
    · simp [List.mapM_cons, hi, h1]
    · intro j
      cases j with
      | zero => simp [hn]
      | succ j => simp [h2 j]

theorem buildX_sound {L : Operand → SV} {ev : Operand → Value} (hL : ∀ x, (L x).R S ρ (ev x)) {t : TypeId} {parts : Array (Nat × Operand)} {sv : SV}
    (h : buildX P L t parts = some sv) (w : World) : (Instr.build t (parts.map fun (i, x) => (i, ev x))).run P w = .ok (sv.den S ρ) w := by
  unfold buildX at h
  have hparts : (parts.map fun (i, x) => (i, ev x)).toList = parts.toList.map fun (i, x) => (i, ev x) := by simp
  split at h
  · rename_i fs z hu hz
    cases hall : fs.all (fun f => (szOf P f.type).isSome)
    · rw [hall] at h; cases h
    rw [hall] at h
    simp only [cond_true] at h
    split at h
    · rename_i cs hcs
      cases h
      have hf := fillX_sound S ρ hL parts.toList z cs hcs
      unfold zeroSCs at hz
      split at hz
      · rename_i i hi
        split at hz
        · rename_i zv hzv
          have hzc := litSCs_den S ρ hz
          obtain ⟨pl, hpl, hpi⟩ := places_of (P := P) fs.toList (fun f hf => by
            rw [← Array.all_toList] at hall
            exact List.all_eq_true.1 hall f hf)
          refine run_build w t _ _ ?_
          unfold Program.built
          rw [hi, hu]
          simp only [hzv, hpl, hparts]
          have e1 : (fun x : Nat => pl.toArray[x]?) = structPlace P fs := by
            funext x
            simp only [List.getElem?_toArray]
            rw [hpi x]
            unfold structPlace
            rw [Array.getElem?_toList]
            cases fs[x]? with
            | none => rfl
            | some f => simp only [Option.bind_some]; cases szOf P f.type <;> rfl
          rw [e1]
          have e2 : zv.cells = (z.map (SC.den S ρ)).toArray := by rw [hzc]
          rw [e2]; exact hf
        · cases hz
      · cases hz
    · cases h
  · rename_i n e z hu hz
    split at h
    · rename_i s hs
      split at h
      · rename_i cs hcs
        cases h
        have hf := fillX_sound S ρ hL parts.toList z cs hcs
        unfold zeroSCs at hz
        split at hz
        · rename_i i hi
          split at hz
          · rename_i zv hzv
            have hzc := litSCs_den S ρ hz
            obtain ⟨ie, hie, rfl⟩ := szOf_info hs
            refine run_build w t _ _ ?_
            unfold Program.built
            rw [hi, hu]
            simp only [hzv, hie, hparts]
            have e2 : zv.cells = (z.map (SC.den S ρ)).toArray := by rw [hzc]
            rw [e2]; exact hf
          · cases hz
        · cases hz
      · cases h
    · cases h
  · cases h

theorem fold_fn {L : Operand → SV} {ev : Operand → Value} (hL : ∀ x, (L x).R S ρ (ev x)) {f : Nat} : ∀ (l : List Operand) (g : SC) (cs : Array Value), g.den S ρ = .func (.func f) #[] cs → ∀ {r : SC},
    l.foldl (fun (acc : Option SC) x => match acc, L x with | some g, .one c => some (SC.cap g c) | _, _ => none) (some g) = some r →
    r.den S ρ = .func (.func f) #[] (cs ++ (l.map ev).toArray)
  | [], g, cs, hg, r, h => by simp at h; subst h; simp [hg]
  | x :: l, g, cs, hg, r, h => by
    simp only [List.foldl_cons] at h
    have hnone : ∀ l : List Operand, l.foldl (fun (acc : Option SC) x => match acc, L x with | some g, .one c => some (SC.cap g c) | _, _ => none) none = none := by
      intro l; induction l with
      | nil => rfl
      | cons y l ih => simp only [List.foldl_cons]; exact ih
    split at h
    · rename_i g' c hg' hc
      cases hg'
      have := fold_fn hL (f := f) l (SC.cap g c) (cs.push (c.den S ρ)) (by simp only [SC.den, hg]) h
      rw [this]
      have hx := R_one S ρ (hc ▸ hL x)
      simp [hx]
    · rw [hnone] at h; cases h

theorem textOf_sound {F : HProp} {w : World} {hp : List Ch} {asm : List SX} (ha : ∀ x ∈ asm, (x.den S ρ).toProp) (hs : Sat w0 (star (hpDen S ρ w0 hp) F) w)
    {src dst e : TypeId} (h1 : P.underlying src = some (.slice e)) (h2 : P.underlying e = some (.int .u8)) (h3 : P.underlying dst = some .string)
    {v : SV} {va : Value} (hr : v.R S ρ va) {ns : List SX} {sv : SV} (h : textOf hp asm v = some (ns, sv)) (hns : ∀ e ∈ ns, (e.den S ρ).toProp) :
    (convert src dst va).run P w = .ok (sv.den S ρ) w := by
  unfold textOf at h
  split at h
  · rename_i b o k z l c s
    cases hb : isNilLit b
    · rw [hb] at h
      simp only [cond_false] at h
      split at h
      · rename_i x hfa
        cases hs1 : Nat.beq s 1
        · rw [hs1] at h; cases h
        rw [hs1] at h
        cases h
        have := Nat.eq_of_beq_eq_true hs1
        subst this
        obtain ⟨hk0, hns⟩ := need_sound S ρ ha hns
        obtain ⟨hl0, hns⟩ := need_sound S ρ ha hns
        obtain ⟨hkl, hns⟩ := need_sound S ρ ha hns
        obtain ⟨hlc, hns⟩ := need_sound S ρ ha hns
        rw [eLe_den] at hk0 hl0 hkl hlc
        rw [toInt_ap2_40, SX.mk1_den] at hkl
        simp only [SX.den, U.toInt_int, ap1] at hk0 hl0 hkl
        obtain ⟨_, hpos, hcells⟩ := arr_cells S ρ w0 hfa hs
        rw [R_one S ρ hr]
        -- the text
        generalize hT : ((x.den S ρ).toBytes.drop (k.den S ρ).toInt.toNat).take (l.den S ρ).toInt.toNat = T
        have hTl : T.length = (l.den S ρ).toInt.toNat := by rw [← hT]; simp; omega
        have hres : SV.den S ρ (.one (.str (bif SX.bq k (.int 0) then (bif SX.bq l (SX.mk1 31 x) then x else .f2 114 x l) else .f2 114 (.f2 117 x k) l))) = .string ⟨T.toArray⟩ := by
          simp only [SV.den, SC.den]
          congr 3
          cases hk : SX.bq k (.int 0)
          · simp only [cond_false, SX.den, ap2, U.toBytes_bytes]; exact hT
          · have := SX.bq_eq hk; subst this
            simp only [cond_true]
            cases hl : SX.bq l (SX.mk1 31 x)
            · simp only [cond_false, SX.den, ap2, U.toBytes_bytes]; rw [← hT]; rfl
            · have := SX.bq_eq hl; subst this
              simp only [cond_true]
              rw [← hT, SX.mk1_den]
              simp [SX.den, ap1]
        rw [hres]
        simp only [SC.den]
        by_cases hlz : (l.den S ρ).toInt = 0
        · have hT0 : T = [] := by apply List.eq_nil_of_length_eq_zero; omega
          subst hT0
          rw [hlz]
          split
          · rw [run_convert_bytes_string w src dst e none _ _ h1 h2 h3]; rfl
          · have := run_convert_bytes_back (P := P) w src dst e ⟨(b.den S ρ).toInt.toNat, (o.den S ρ).toInt.toNat + (if (c.den S ρ).toInt = 0 then (z.den S ρ).toInt else (k.den S ρ).toInt).toNat * 1, none⟩ (c.den S ρ).toInt.toNat [] h1 h2 h3 (fun j hj => by cases hj)
            exact this
        · have hb0 : 0 ≤ (b.den S ρ).toInt := hpos (by
            intro he
            have : ((En.bytes).vals (x.den S ρ)).length = 0 := by rw [he]; rfl
            simp [En.vals] at this
            rw [this] at hkl; simp at hkl; omega)
          rw [if_neg (by omega), if_neg (show ¬ (c.den S ρ).toInt = 0 by omega), Nat.mul_one]
          rw [← hTl]
          refine run_convert_bytes_back (P := P) w src dst e _ _ T h1 h2 h3 (fun j hj => ?_)
          rw [Addr.add_eq, Nat.add_assoc]
          refine hcells _ _ ?_
          simp only [En.vals, List.getElem?_map, Option.map_eq_some_iff]
          refine ⟨T[j], ?_, rfl⟩
          have : T[j]? = some T[j] := List.getElem?_eq_getElem hj
          rw [← this]
          have hjl : j < (l.den S ρ).toInt.toNat := by omega
          rw [← hT, List.getElem?_take, if_pos hjl, List.getElem?_drop]
      · cases h
    · rw [hb] at h; cases h
      rw [R_one S ρ hr]
      simp only [SC.den, if_pos (isNilLit_den S ρ hb), SV.den, SX.den, U.toBytes_bytes]
      rw [run_convert_bytes_string w src dst e none _ _ h1 h2 h3]; rfl
  · cases h
end
end Go.Eng
