/- The operations that write: that the symbolic run is the model's. Part 3: stores. -/
import Derived.Test.YtmjonggabppgaaaEngPa
set_option linter.unusedSimpArgs false
set_option linter.unusedVariables false
namespace Go.Eng
open Go.RowKit (Below)
section
variable {G : Type} (S : Sig G) (ρ : Env G) (w0 : World) {P : Program}
theorem same_post {F : HProp} {st : St} {ns : List SX} {sv : SV} {hp : List Ch} {w w' : World} {K : SV → St → VC} {v : Value} (hst : HSt S w0 F st ρ w) (hn : ∀ x ∈ ns, (x.den S ρ).toProp)
    (h : (K sv { st with hp := hp, asm := ns ++ st.asm }).den S ρ) (hs : Sat w0 (star (hpDen S ρ w0 hp) F) w') (hv : sv.R S ρ v) : LPost S ρ w0 F st K w' v :=
  ⟨ρ, sv, { st with hp := hp, asm := ns ++ st.asm }, ⟨Ext.refl _ _, Nat.le_refl _, rfl, fun _ h => h, ⟨hs, fun e he => (List.mem_append.1 he).elim (hn e) (hst.asm e)⟩⟩, hv, h⟩

theorem run_u {s : Sem Unit} {w w' : World} (h : s.run P w = .ok () w') : (do s; pure Next.skip : Sem Next).run P w = .ok .skip w' := by
  have : (do s; pure Next.skip : Sem Next) = s.bind (fun _ => Sem.pure Next.skip) := rfl
  rw [this, Sem.run_bind', h]; rfl

theorem run_storeAtE {t : TypeId} {n : Nat} (hn : szOf P t = some n) (a : Addr) (v : Value) (hv : v.cells.size = n) {w w' : World} (h : (storeCells a v.cells.toList).run P w = .ok () w') : (Instr.storeAt t (.pointer (some a)) v).run P w = .ok () w' := by
  simp [Instr.storeAt, Instr.sureAddr, storeVar, run_sizeOfE hn, hv, h]

theorem splice_aux (Pr M R sp C : List Value) (j : Nat) (h : j + C.length ≤ M.length) :
    (Pr ++ (M ++ R) ++ sp).take (Pr.length + j) ++ C ++ (Pr ++ (M ++ R) ++ sp).drop (Pr.length + j + C.length) = Pr ++ (M.take j ++ C ++ M.drop (j + C.length)) ++ R ++ sp := by
  have e1 : (Pr ++ (M ++ R) ++ sp).take (Pr.length + j) = Pr ++ M.take j := by
    rw [List.append_assoc, List.take_length_add_append, List.append_assoc, List.take_append_of_le_length (by omega)]
  have e2 : (Pr ++ (M ++ R) ++ sp).drop (Pr.length + j + C.length) = M.drop (j + C.length) ++ R ++ sp := by
    rw [List.append_assoc, Nat.add_assoc, List.drop_length_add_append, List.append_assoc, List.drop_append_of_le_length (by omega)]
    simp
  rw [e1, e2]
  simp
theorem splice (A sp C : List Value) (K s j : Nat) (h1 : j + C.length ≤ s) (h2 : K + s ≤ A.length) :
    (A ++ sp).take (K + j) ++ C ++ (A ++ sp).drop (K + j + C.length) = A.take K ++ (((A.drop K).take s).take j ++ C ++ ((A.drop K).take s).drop (j + C.length)) ++ A.drop (K + s) ++ sp := by
  have hA : A = A.take K ++ ((A.drop K).take s ++ A.drop (K + s)) := by
    rw [← List.drop_drop, List.take_append_drop, List.take_append_drop]
  have hP : (A.take K).length = K := by simp; omega
  have hM : ((A.drop K).take s).length = s := by simp; omega
  have := splice_aux (A.take K) ((A.drop K).take s) (A.drop (K + s)) sp C j (by rw [hM]; exact h1)
  rw [← hA, hP] at this
  exact this

theorem lop_store {F : HProp} {st : St} {t : TypeId} {x y : Operand} {w : World} {K : SV → St → VC} {ev : Operand → Value} {o : Oper} (ho : o.op = .store t x y) (hst : HSt S w0 F st ρ w) (hL : ∀ x, (lk st.fr x).R S ρ (ev x)) (h : (lop P st (.store t x y) K).den S ρ) :
    LOk S ρ w0 F st K ((execOp ev o).run P w) := by
  simp only [lop] at h
  split at h
  · rename_i b off cs n hx hy hn
    cases h1 : Nat.beq cs.length n
    · rw [h1] at h; exact h.elim
    rw [h1] at h
    simp only [cond_true] at h
    split at h
    · rename_i hp hset
      cases h2 : Nat.ble 1 n
      · rw [h2] at h; exact h.elim
      rw [h2] at h
      simp only [cond_true] at h
      have hlen := Nat.eq_of_beq_eq_true h1
      have hne : cs ≠ [] := by rintro rfl; simp at hlen; subst hlen; cases h2
      obtain ⟨hb, w', hrun, hs'⟩ := setCel_sound S ρ w0 (P := P) hset hne hst.hp
      have hc := svCells_den S ρ hy (hL y)
      have hev := R_one S ρ (hx ▸ hL x)
      simp only [SC.den] at hev
      rw [if_neg (by omega)] at hev
      refine ⟨w', .inr ⟨?_, same_post S ρ w0 (ns := []) hst (by simp) h hs' (.inr rfl)⟩⟩
      unfold execOp; rw [ho]
      refine run_u (s := Instr.storeAt t (ev x) (ev y)) ?_
      rw [hev]
      refine run_storeAtE hn _ _ ?_ ?_
      · rw [← Array.length_toList, hc]; simpa using hlen
      · rw [hc]; exact hrun
    · exact h.elim
  · rename_i b off i s j cs n hx hy hn
    cases h1 : Nat.beq cs.length n
    · rw [h1] at h; exact h.elim
    cases h2 : Nat.ble (j + n) s
    · rw [h1, h2] at h; exact h.elim
    cases h3 : SX.bq off (.int 0)
    · rw [h1, h2, h3] at h; exact h.elim
    rw [h1, h2, h3] at h
    simp only [cond_true] at h
    split at h
    · rename_i en xs c rest htk
      cases h4 : Nat.beq s en.stride
      · rw [h4] at h; exact h.elim
      rw [h4] at h
      simp only [cond_true] at h
      split at h
      · rename_i row hput
        split at h
        · rename_i ns el hel
          obtain ⟨hn0, hk⟩ := needs_den S ρ h
          obtain ⟨n1, hn1⟩ := need_sound S ρ hst.asm hn0
          obtain ⟨n2, hn2⟩ := need_sound S ρ hst.asm hn1
          rw [eLe_den] at n1
          rw [eLt_den, En.lenX_den] at n2
          simp only [SX.den, U.toInt_int] at n1 n2
          have hlen := Nat.eq_of_beq_eq_true h1
          have hjs := Nat.le_of_ble_eq_true h2
          have hs := Nat.eq_of_beq_eq_true h4
          have hoff := SX.bq_eq h3
          subst hoff
          have hc := svCells_den S ρ hy (hL y)
          have hev := R_one S ρ (hx ▸ hL x)
          simp only [SC.den, SX.den, U.toInt_int] at hev
          have hel' := En.el_sound S ρ hst.asm hel hn2
          obtain ⟨hp1, hp2, hp3⟩ := putCells_den S ρ _ _ _ _ hput
          obtain ⟨l1, l2, hl, hr⟩ := takeArr_spec htk
          have hsat := hst.hp
          rw [hl, hpDen_pick, star_assoc] at hsat
          obtain ⟨spare, hsat⟩ := sat_ex hsat
          obtain ⟨e1, hsat⟩ := sat_and hsat
          obtain ⟨e2, hsat⟩ := sat_and hsat
          obtain ⟨e3, hsat⟩ := sat_and hsat
          generalize hI : (i.den S ρ).toInt.toNat = I at *
          have hIlt : I < en.len (xs.den S ρ) := by omega
          have hvl := En.vals_length en (xs.den S ρ)
          have hroom : I * s + s ≤ (en.vals (xs.den S ρ)).length := by
            rw [hvl, hs, ← Nat.succ_mul]; exact Nat.mul_le_mul_right _ hIlt
          have hget : (en.get xs i).map (SC.den S ρ) = ((en.vals (xs.den S ρ)).drop (I * s)).take s := by
            apply List.ext_getElem?
            intro q
            by_cases hq : q < s
            · rw [En.get_den S ρ en xs i (by rw [hI]; exact hIlt) q (by omega), List.getElem?_take_of_lt hq, List.getElem?_drop, hI, hs]
            · rw [List.getElem?_eq_none (by simp [En.get_length, ← hs]; omega), List.getElem?_eq_none (by simp; omega)]
          obtain ⟨w', hrun, hs'⟩ := storeCells_run (P := P) w0 _ 0 (I * s + j) true _ (cs.map (SC.den S ρ)) 0 _ w hsat (by simp; omega) (fun v hv => by
            obtain ⟨c, _, rfl⟩ := List.mem_map.1 hv; exact SC.den_one S ρ c)
          refine ⟨w', .inr ⟨?_, same_post S ρ w0 hst hn0 hk ?_ (.inr rfl)⟩⟩
          · unfold execOp; rw [ho]
            refine run_u (s := Instr.storeAt t (ev x) (ev y)) ?_
            rw [hev]
            refine run_storeAtE hn _ _ ?_ ?_
            · rw [← Array.length_toList, hc]; simpa using hlen
            · rw [hc]
              have : (0 : Int).toNat + I * s + j = 0 + (I * s + j) := by simp
              rw [this]
              exact hrun
          · show Sat w0 (star (hpDen S ρ w0 (.arr en b (en.setX xs i el) c :: rest)) F) w'
            rw [hpDen_cons, star_assoc, hr]
            refine Sat.mono hs' (fun z hz => star_mono (fun z hz => ?_) (fun _ h => h) z hz)
            have hnew : List.take (I * s + j + 0) (en.vals (xs.den S ρ) ++ spare) ++ List.map (SC.den S ρ) cs ++ List.drop (I * s + j + 0 + (List.map (SC.den S ρ) cs).length) (en.vals (xs.den S ρ) ++ spare)
                = en.vals ((en.setX xs i el).den S ρ) ++ spare := by
              rw [En.vals_set S ρ en xs i el (by rw [hI]; exact hIlt), hI, ← hs, ← hel', hp3, hget, Nat.add_zero]
              have := splice (en.vals (xs.den S ρ)) spare (cs.map (SC.den S ρ)) (I * s) s j (by simp; omega) hroom
              rw [List.length_map] at this ⊢
              exact this
            have hlen' : (en.vals ((en.setX xs i el).den S ρ)).length = (en.vals (xs.den S ρ)).length := by
              have h8 := congrArg List.length hnew
              simp only [List.length_append, List.length_take, List.length_drop, List.length_map] at h8
              omega
            refine ⟨spare, by rw [hlen']; exact e1, e2, e3, ?_⟩
            · rw [← hnew]; exact hz
        · exact h.elim
      · exact h.elim
    · exact h.elim
  · exact h.elim
end
end Go.Eng
