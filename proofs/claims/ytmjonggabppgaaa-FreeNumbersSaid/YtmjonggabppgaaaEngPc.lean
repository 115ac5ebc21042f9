/- The operations that write: that the symbolic run is the model's. Part 4: maps. -/
import Derived.Test.YtmjonggabppgaaaEngPb
set_option linter.unusedSimpArgs false
set_option linter.unusedVariables false
namespace Go.Eng
open Go.RowKit (Below)
theorem mset_none : ∀ {m : List (Int × Int)} {k y : Int}, midx m k = none → mset m k y = m ++ [(k, y)] ∧ k ∉ m.map (·.1)
  | [], k, y, h => by simp [mset]
  | (a, b) :: m, k, y, h => by
    simp only [midx] at h
    split at h
    · cases h
    · rename_i hne
      have := mset_none (m := m) (k := k) (y := y) (by cases hm : midx m k <;> simp [hm] at h ⊢)
      simp only [mset, if_neg hne, this.1]
      exact ⟨rfl, by simp; exact ⟨fun h' => hne h'.symm, by simpa using this.2⟩⟩
theorem mset_some : ∀ {m : List (Int × Int)} {k y : Int} {j : Nat}, midx m k = some j → mset m k y = m.set j (k, y) ∧ ∃ v, m[j]? = some (k, v)
  | [], k, y, j, h => by cases h
  | (a, b) :: m, k, y, j, h => by
    simp only [midx] at h
    split at h
    · rename_i he; cases h; subst he; simp [mset]
    · rename_i hne
      obtain ⟨i, hi, rfl⟩ := Option.map_eq_some_iff.1 h
      obtain ⟨h1, v, h2⟩ := mset_some (y := y) hi
      simp only [mset, if_neg hne, h1]
      exact ⟨rfl, v, by simpa using h2⟩
theorem mdel_none : ∀ {m : List (Int × Int)} {k : Int}, midx m k = none → mdel m k = m
  | [], k, h => rfl
  | (a, b) :: m, k, h => by
    simp only [midx] at h
    split at h
    · cases h
    · rename_i hne
      simp only [mdel, if_neg hne, mdel_none (m := m) (k := k) (by cases hm : midx m k <;> simp [hm] at h ⊢)]
theorem mdel_some : ∀ {m : List (Int × Int)} {k : Int} {j : Nat}, midx m k = some j → mdel m k = m.eraseIdx j ∧ j < m.length
  | [], k, j, h => by cases h
  | (a, b) :: m, k, j, h => by
    simp only [midx] at h
    split at h
    · rename_i he; cases h; subst he; simp [mdel]
    · rename_i hne
      obtain ⟨i, hi, rfl⟩ := Option.map_eq_some_iff.1 h
      obtain ⟨h1, h2⟩ := mdel_some hi
      simp only [mdel, if_neg hne, h1]
      exact ⟨rfl, by simpa using h2⟩

theorem map_eraseIdx' {α β : Type} (f : α → β) : ∀ (l : List α) (j : Nat), (l.eraseIdx j).map f = (l.map f).eraseIdx j
  | [], _ => by simp
  | _ :: _, 0 => by simp
  | a :: r, j + 1 => by simp [map_eraseIdx' f r j]

section
variable {P : Program}
theorem midx_len {kk : IntKind} {v : Fd} {es : Array MapEntry} {clock : Nat} {m : List (Int × Int)} (h : mapOk kk v es clock m) : es.toList.length = m.length := by
  have := congrArg List.length h.1; simpa using this
theorem mapUpdate_run {t kt et : TypeId} {k0 kk : IntKind} {v : Fd} {r : Nat} {es : Array MapEntry} {clock : Nat} {m : List (Int × Int)} {k y : Int} {x : Value} {w : World} (ht : P.underlying t = some (.map kt et)) (hk : P.underlying kt = some (.int k0))
    (hb : w.heap[r]? = some (.map es clock)) (hm : mapOk kk v es clock m) (hx : x = v.val [y]) :
    ∃ es' clock', (Instr.mapUpdate t (.map (some r)) (.int kk k) x).run P w = .ok () { w with heap := w.heap.setIfInBounds r (.map es' clock') } ∧ mapOk kk v es' clock' (mset m k y) := by
  have hf := fun w => findKey_int (P := P) hk (v := v) (kk := kk) (n := k) 0 es.toList m hm.1 w
  cases hi : midx m k with
  | none =>
    obtain ⟨h1, h2⟩ := mset_none (y := y) hi
    refine ⟨es.push { key := .int kk k, val := x, born := clock }, clock + 1, ?_, ?_⟩
    · simp [Instr.mapUpdate, run_underlying ht, MapKept.run_getObj_map hb, checkKey_int hk, hf, hi, MapKept.run_setObj_map _ hb, Result.andThen]
    · obtain ⟨m1, m2, m3, m4⟩ := hm
      rw [h1]
      refine ⟨by simp [m1, hx], ?_, ?_, ?_⟩
      · rw [List.map_append, List.nodup_append]
        refine ⟨m2, by simp, ?_⟩
        intro a ha b hb' e
        simp at hb'
        subst hb'; subst e
        exact h2 ha
      · simp only [Array.toList_push, List.map_append, List.map_cons, List.map_nil]
        rw [List.nodup_append]
        refine ⟨m3, by simp, ?_⟩
        intro a ha b hb' e
        simp at hb'
        subst hb'; subst e
        obtain ⟨e', he', h3⟩ := List.mem_map.1 ha
        have := m4 e' he'
        omega
      · intro e he
        simp only [Array.toList_push, List.mem_append, List.mem_singleton] at he
        rcases he with he | rfl
        · have := m4 e he; omega
        · simp
  | some j =>
    obtain ⟨h1, u, h2⟩ := mset_some (y := y) hi
    obtain ⟨m1, m2, m3, m4⟩ := hm
    have hlen := congrArg List.length m1
    simp at hlen
    have hj : j < es.size := by
      have := (List.getElem?_eq_some_iff.1 h2).1; omega
    have hkey : es[j]?.map (·.key) = some (.int kk k) := by
      have := congrArg (fun l : List (Value × Value) => l[j]?.map (·.1)) m1
      simp [h2] at this
      obtain ⟨e, he, hk'⟩ := this
      rw [he]; simp [hk']
    have hkey' : ((es[j]?).map (·.key)).getD (.int kk k) = .int kk k := by rw [hkey]; rfl
    refine ⟨es.modify j fun e => { e with key := .int kk k, val := x }, clock, ?_, ?_⟩
    · have hsame : (Instr.keyThatStays (.int kk k) (.int kk k)).run P w = .ok (.int kk k) w := by
        simp [Instr.keyThatStays, Instr.sameBits]
      simp [Instr.mapUpdate, run_underlying ht, MapKept.run_getObj_map hb, checkKey_int hk, hf, hi, hkey', hsame, MapKept.run_setObj_map _ hb, Result.andThen]
    · rw [h1]
      have hmod : (es.modify j fun e => { e with key := .int kk k, val := x }).toList = es.toList.set j { es[j] with key := .int kk k, val := x } := by
        rw [Array.toList_modify]
        apply List.ext_getElem?
        intro q
        rw [List.getElem?_modify, List.getElem?_set]
        by_cases hq : j = q
        · subst hq; simp [hj]
        · simp [hq]
      refine ⟨?_, ?_, ?_, ?_⟩
      · rw [hmod, List.map_set, List.map_set, m1, hx]
      · rw [List.map_set]
        have : (m.map (·.1)).set j k = m.map (·.1) := by
          apply List.ext_getElem?
          intro q
          by_cases hq : j = q
          · subst hq
            have hjm : j < m.length := by omega
            rw [List.getElem?_set_self (by simpa using hjm)]
            simp [h2]
          · rw [List.getElem?_set_ne hq]
        rw [this]; exact m2
      · rw [hmod, List.map_set]
        have : (es.toList.map (·.born)).set j es[j].born = es.toList.map (·.born) := by
          apply List.ext_getElem?
          intro q
          by_cases hq : j = q
          · subst hq
            rw [List.getElem?_set_self (by simpa using hj)]
            simp [hj]
          · rw [List.getElem?_set_ne hq]
        simp only [this]; exact m3
      · intro e he
        rw [hmod] at he
        rcases List.mem_or_eq_of_mem_set he with he | rfl
        · exact m4 e he
        · exact m4 es[j] (by simp)
theorem delete_run {t kt et ty : TypeId} {k0 kk : IntKind} {v : Fd} {r : Nat} {es : Array MapEntry} {clock : Nat} {m : List (Int × Int)} {k : Int} {w : World} {ts : Array TypeId} (ht0 : ts[0]? = some t) (ht : P.underlying t = some (.map kt et)) (hk : P.underlying kt = some (.int k0))
    (hb : w.heap[r]? = some (.map es clock)) (hm : mapOk kk v es clock m) :
    ∃ es', (Builtin.delete_ ts ty #[.map (some r), .int kk k]).run P w = .ok (.tuple #[]) { w with heap := w.heap.setIfInBounds r (.map es' clock) } ∧ mapOk kk v es' clock (mdel m k) := by
  have hf := fun w => findKey_int (P := P) hk (v := v) (kk := kk) (n := k) 0 es.toList m hm.1 w
  cases hi : midx m k with
  | none =>
    refine ⟨es, ?_, by rw [mdel_none hi]; exact hm⟩
    simp [Builtin.delete_, ht0, run_underlying ht, MapKept.run_getObj_map hb, checkKey_int hk, hf, hi, MapKept.run_setObj_map _ hb, Result.andThen]
  | some j =>
    obtain ⟨h1, h2⟩ := mdel_some hi
    have hlen := midx_len hm
    obtain ⟨m1, m2, m3, m4⟩ := hm
    refine ⟨es.eraseIdxIfInBounds j, ?_, ?_⟩
    · simp [Builtin.delete_, ht0, run_underlying ht, MapKept.run_getObj_map hb, checkKey_int hk, hf, hi, MapKept.run_setObj_map _ hb, Result.andThen]
    · have he : (es.eraseIdxIfInBounds j).toList = es.toList.eraseIdx j := by simp
      rw [h1]
      refine ⟨by rw [he, map_eraseIdx', map_eraseIdx', m1], ?_, ?_, ?_⟩
      · rw [map_eraseIdx']; exact m2.sublist (List.eraseIdx_sublist _ _)
      · rw [he, map_eraseIdx']; exact m3.sublist (List.eraseIdx_sublist _ _)
      · intro e h; rw [he] at h; exact m4 e ((List.eraseIdx_sublist _ _).subset h)
theorem clear_run {t kt et ty : TypeId} {r : Nat} {es : Array MapEntry} {clock : Nat} {w : World} {ts : Array TypeId} (ht0 : ts[0]? = some t) (ht : P.underlying t = some (.map kt et)) (hb : w.heap[r]? = some (.map es clock)) :
    (Builtin.clear_ ts ty #[.map (some r)]).run P w = .ok (.tuple #[]) { w with heap := w.heap.setIfInBounds r (.map #[] clock) } := by
  simp [Builtin.clear_, ht0, run_underlying ht, MapKept.run_getObj_map hb, MapKept.run_setObj_map _ hb, Result.andThen]
end

section
variable {G : Type} (S : Sig G) (ρ : Env G) (w0 : World) {P : Program}
theorem map_pick {F : HProp} {w : World} {kk : IntKind} {v : Fd} {b m : SX} {hp rest : List Ch} (h : takeMap b hp = some (kk, v, m, rest)) (hs : Sat w0 (star (hpDen S ρ w0 hp) F) w) :
    ∃ es clock, 0 ≤ (b.den S ρ).toInt ∧ mapOk kk v es clock (m.den S ρ).toMap ∧ w.heap[(b.den S ρ).toInt.toNat]? = some (.map es clock) ∧
      ∀ es' clock' (m' : SX), mapOk kk v es' clock' (m'.den S ρ).toMap → Sat w0 (star (hpDen S ρ w0 (.map kk v b m' :: rest)) F) { w with heap := w.heap.setIfInBounds (b.den S ρ).toInt.toNat (.map es' clock') } := by
  obtain ⟨l1, l2, rfl, rfl⟩ := takeMap_spec h
  rw [hpDen_pick, star_assoc] at hs
  obtain ⟨h1, hs⟩ := sat_and hs
  obtain ⟨es, hs⟩ := sat_ex hs
  obtain ⟨clock, hs⟩ := sat_ex hs
  obtain ⟨h2, hs⟩ := sat_and hs
  refine ⟨es, clock, h1, h2, hs.obj.2.2.1, fun es' clock' m' hm' => ?_⟩
  rw [hpDen_cons, star_assoc]
  refine (hs.setObj (.map es' clock') rfl).mono (fun y hy => star_mono (fun z hz => ?_) (fun _ h => h) y hy)
  exact ⟨h1, es', clock', hm', hz⟩

theorem lop_mapUpdate {F : HProp} {st : St} {t : TypeId} {mo ko vo : Operand} {w : World} {K : SV → St → VC} {ev : Operand → Value} {o : Oper} (ho : o.op = .mapUpdate t mo ko vo) (hst : HSt S w0 F st ρ w) (hL : ∀ x, (lk st.fr x).R S ρ (ev x)) (h : (lop P st (.mapUpdate t mo ko vo) K).den S ρ) :
    LOk S ρ w0 F st K ((execOp ev o).run P w) := by
  simp only [lop] at h
  split at h
  · rename_i kt et b k1 ke c hu hm hk hv
    split at h
    · rename_i kk vd mm rest k0 htk hkt
      cases hq : Nat.beq (kn kk) (kn k1)
      · rw [hq] at h; exact h.elim
      rw [hq] at h
      simp only [cond_true] at h
      split at h
      · rename_i e henc
        obtain ⟨es, clock, hb, hmo, hheap, hput⟩ := map_pick S ρ w0 htk hst.hp
        have hkk := kn_inj (Nat.eq_of_beq_eq_true hq)
        subst hkk
        have hm' := R_one S ρ (hm ▸ hL mo)
        have hk' := R_one S ρ (hk ▸ hL ko)
        have hv' := R_one S ρ (hv ▸ hL vo)
        simp only [SC.den] at hm' hk'
        rw [if_neg (by omega)] at hm'
        obtain ⟨hw1, hw2⟩ := Fd.enc_sound S ρ henc
        have hx : ev vo = vd.val [(e.den S ρ).toInt] := by rw [hv', ← hw2 []]; rfl
        obtain ⟨es', clock', hrun, hok⟩ := mapUpdate_run hu hkt hheap hmo (k := (ke.den S ρ).toInt) hx
        refine ⟨_, .inr ⟨?_, same_post S ρ w0 (ns := []) hst (by simp) h (hput es' clock' _ ?_) (.inr rfl)⟩⟩
        · unfold execOp; rw [ho]
          refine run_u (s := Instr.mapUpdate t (ev mo) (ev ko) (ev vo)) ?_
          rw [hm', hk']
          exact hrun
        · exact hok
      · exact h.elim
    · exact h.elim
  · exact h.elim
end
end Go.Eng
