/- The operations that write: that the symbolic run is the model's. Part 2: new memory. -/
import Derived.Test.YtmjonggabppgaaaEngO
set_option linter.unusedSimpArgs false
set_option linter.unusedVariables false
namespace Go.Eng
open Go.RowKit (Below)
section
variable {G : Type} (S : Sig G) (ρ : Env G) (w0 : World) {P : Program}
def LPost (F : HProp) (st : St) (K : SV → St → VC) (w' : World) (v : Value) : Prop := ∃ ρ' sv st', Next' S w0 F st ρ ρ' st' w' ∧ sv.R S ρ' v ∧ (K sv st').den S ρ'
def LOk (F : HProp) (st : St) (K : SV → St → VC) (r : Result Next) : Prop :=
  ∃ w', (∃ v, r = .ok (.value v) w' ∧ LPost S ρ w0 F st K w' v) ∨ (r = .ok .skip w' ∧ LPost S ρ w0 F st K w' undef)

theorem ok_parts {st : St} (h : st.ok = true) : st.fr.all (SV.lt st.n) = true ∧ st.hp.all (Ch.lt st.n) = true ∧ st.asm.all (SX.lt st.n) = true := by
  unfold St.ok at h
  simp only [Bool.cond_eq_ite] at h
  split at h
  · rename_i h1; split at h
    · rename_i h2; exact ⟨h1, h2, h⟩
    · cases h
  · cases h

/-- Memory that is new, or changed, behind fresh atoms. -/
theorem fresh_post {F : HProp} {st : St} {ns facts : List SX} {ss : List Srt} {sv : SV} {c : Ch} {rest : List Ch} {w w' : World} {K : SV → St → VC} {v : Value} (hst : HSt S w0 F st ρ w) (hn : ∀ x ∈ ns, (x.den S ρ).toProp)
    (h : (fresh (st.add ns) ss facts (K sv { st with hp := c :: rest, n := st.n + ss.length, asm := facts ++ (ns ++ st.asm) })).den S ρ) (hr : ∀ c ∈ rest, c ∈ st.hp) (us : List (U G)) (hus : us.length = ss.length)
    (hf : ∀ x ∈ facts, (x.den S (updL S ρ st.n ss us)).toProp) (hs : Sat w0 (star (c.den S (updL S ρ st.n ss us) w0) (star (hpDen S ρ w0 rest) F)) w') (hv : sv.R S (updL S ρ st.n ss us) v) : LPost S ρ w0 F st K w' v := by
  obtain ⟨hok, hcont⟩ := fresh_den S ρ h
  obtain ⟨h1, h2, h3⟩ := ok_parts hok
  have hE : Ext st.n ρ (updL S ρ st.n ss us) := updL_ext S ρ st.n ss us
  have hrest : rest.all (Ch.lt st.n) = true := List.all_eq_true.2 fun c hc => List.all_eq_true.1 h2 c (hr c hc)
  refine ⟨updL S ρ st.n ss us, sv, { st with hp := c :: rest, n := st.n + ss.length, asm := facts ++ (ns ++ st.asm) }, ⟨hE, Nat.le_add_right _ _, rfl, fun l hl => FrR_ext S hE h1 hl, ⟨?_, ?_⟩⟩, hv, hcont us hus hf⟩
  · show Sat w0 (star (hpDen S _ w0 (c :: rest)) F) w'
    rw [hpDen_cons, star_assoc, hpDen_ext S hE w0 hrest]; exact hs
  · intro e he
    rcases List.mem_append.1 he with he | he
    · exact hf e he
    · have h4 : e.lt st.n = true := List.all_eq_true.1 h3 e he
      rw [SX.den_ext S hE h4]
      rcases List.mem_append.1 he with he | he
      · exact hn e he
      · exact hst.asm e he

theorem eLe0_at (n : Nat) (b : Nat) : ∀ x ∈ [eLe (.int 0) (.at .int n)], (x.den S (updL S ρ n [.int] [.int (b : Nat)])).toProp := by
  intro x hx
  rw [List.mem_singleton] at hx; subst hx
  rw [eLe_den]
  simp [SX.den, updL, Env.upd, U.co]
theorem at_den (n : Nat) (b : Int) : (SX.at .int n).den S (updL S ρ n [.int] [.int b]) = .int b := by simp [SX.den, updL, Env.upd, U.co]

theorem zeroSCs_run {t : TypeId} {cs : List SC} (h : zeroSCs P t = some cs) : ∃ i z, P.info? t = some i ∧ i.zero = some z ∧ z.cells.toList = cs.map (SC.den S ρ) := by
  unfold zeroSCs at h
  split at h
  · rename_i i hi
    split at h
    · rename_i z hz; exact ⟨i, z, hi, hz, (litSCs_den S ρ h).symm⟩
    · cases h
  · cases h
theorem szOf_of {t : TypeId} {i : TypeInfo} (hi : P.info? t = some i) : szOf P t = some i.size := by unfold szOf; rw [hi]
theorem run_zeroE {t : TypeId} {i : TypeInfo} {z : Value} (hi : P.info? t = some i) (hz : i.zero = some z) (w : World) : (zeroValue t).run P w = .ok z w := by
  simp [zeroValue, typeInfo, hi, hz]
theorem run_newRowE (t : TypeId) (cells : Array Value) (w : World) : (newRow t cells).run P w = .ok ⟨w.heap.size, 0, none⟩ { w with heap := w.heap.push (.cells cells t) } := by
  simp [newRow, newObj, Sem.run]

theorem cel_post {F : HProp} {st : St} {cs : List SC} {vs : Array Value} {t : TypeId} {w : World} {K : SV → St → VC} (hst : HSt S w0 F st ρ w)
    (h : (fresh st [.int] [eLe (.int 0) (.at .int st.n)] (K (.one (.ptr (.at .int st.n) 0)) { st with hp := .cel (.at .int st.n) 0 cs :: st.hp, n := st.n + 1, asm := eLe (.int 0) (.at .int st.n) :: st.asm })).den S ρ)
    (hlt : SCs.lt st.n cs = true) (hc : vs.toList = cs.map (SC.den S ρ)) : LPost S ρ w0 F st K { w with heap := w.heap.push (.cells vs t) } (.pointer (some ⟨w.heap.size, 0, none⟩)) := by
  refine fresh_post S ρ w0 (ns := []) hst (by simp) h (fun _ h => h) [.int (w.heap.size : Nat)] rfl (eLe0_at S ρ _ _) ?_ ?_
  · have := Sat.new hst.hp vs.toList t true
    rw [Array.toArray_toList] at this
    refine this.mono (fun y hy => ?_)
    refine star_mono (fun h' hh => ?_) (fun _ h => h) y hy
    simp only [Ch.den, at_den, U.toInt_int]
    refine ⟨.inl (by omega), ?_⟩
    rw [hc] at hh
    rw [SCs.den_ext S (updL_ext S ρ st.n [Srt.int] [U.int (w.heap.size : Nat)]) hlt]
    simpa using hh
  · right
    simp only [SV.den, SC.den, at_den, U.toInt_int]
    rw [if_neg (by omega)]; simp

theorem lop_alloc {F : HProp} {st : St} {t : TypeId} {w : World} {K : SV → St → VC} {ev : Operand → Value} {o : Oper} (ho : o.op = .alloc t) (hst : HSt S w0 F st ρ w) (h : (lop P st (.alloc t) K).den S ρ) :
    LOk S ρ w0 F st K ((execOp ev o).run P w) := by
  simp only [lop] at h
  split at h
  · rename_i cs hz0
    cases hlt : SCs.lt st.n cs
    · rw [hlt] at h; exact h.elim
    rw [hlt] at h
    simp only [cond_true] at h
    obtain ⟨i, z, hi, hz, hc⟩ := zeroSCs_run S ρ hz0
    refine ⟨{ w with heap := w.heap.push (.cells z.cells t) }, .inl ⟨.pointer (some ⟨w.heap.size, 0, none⟩), ?_, ?_⟩⟩
    · unfold execOp; rw [ho]
      refine run_v (s := Instr.alloc t true (.tuple #[])) ?_
      simp [Instr.alloc, run_zeroE hi hz, newVar, run_newRowE]
    · exact cel_post S ρ w0 hst h hlt hc
  · exact h.elim

theorem lop_box {F : HProp} {st : St} {t : TypeId} {x : Operand} {w : World} {K : SV → St → VC} {ev : Operand → Value} {o : Oper} (ho : o.op = .box t x) (hst : HSt S w0 F st ρ w) (hL : ∀ x, (lk st.fr x).R S ρ (ev x)) (h : (lop P st (.box t x) K).den S ρ) :
    LOk S ρ w0 F st K ((execOp ev o).run P w) := by
  simp only [lop] at h
  split at h
  · rename_i cs hz
    cases hlt : SCs.lt st.n cs
    · rw [hlt] at h; exact h.elim
    rw [hlt] at h
    simp only [cond_true] at h
    have hc := svCells_den S ρ hz (hL x)
    refine ⟨{ w with heap := w.heap.push (.cells (ev x).cells t) }, .inl ⟨.pointer (some ⟨w.heap.size, 0, none⟩), ?_, ?_⟩⟩
    · unfold execOp; rw [ho]
      refine run_v (s := Instr.box t (ev x)) ?_
      simp [Instr.box, newVar, run_newRowE]
    · exact cel_post S ρ w0 hst h hlt hc
  · exact h.elim

/-! ### Rows of nothing -/
theorem range_mod (z : List Value) : ∀ n : Nat, (List.range (n * z.length)).map (fun i => z[i % z.length]!) = (List.replicate n z).flatten
  | 0 => by simp
  | n + 1 => by
    rw [Nat.succ_mul, Nat.add_comm, List.range_add, List.map_append, List.replicate_succ, List.flatten_cons, ← range_mod z n]
    congr 1
    · apply List.ext_getElem (by simp)
      intro i h1 h2
      simp at h1
      simp [Nat.mod_eq_of_lt h2, h2]
    · rw [List.map_map]
      apply List.map_congr_left
      intro i _
      simp
theorem range_mod_arr (z : Array Value) (n : Nat) : ((Array.range (n * z.size)).map (fun i => z[i % z.size]!)).toList = (List.replicate n z.toList).flatten := by
  rw [← range_mod]
  simp [Array.toList_map, Array.toList_range]
  intro a _
  rw [getElem!_def]
  split <;> simp_all

theorem en_row {asm : List SX} {e : En} {t : TypeId} {z : SX} (h : zeroEl P e t = some z) : ∃ i v, P.info? t = some i ∧ i.zero = some v ∧ v.cells.toList = e.elV (z.den S ρ) := by
  unfold zeroEl at h
  split at h
  · rename_i cs hz
    obtain ⟨i, v, hi, hv, hc⟩ := zeroSCs_run S ρ hz
    split at h
    · rename_i x hx
      cases h
      exact ⟨i, v, hi, hv, by rw [hc]; exact En.el_sound S ρ (asm := []) (by simp) hx (by simp)⟩
    · cases h
  · cases h

theorem lop_makeMap {F : HProp} {st : St} {t : TypeId} {w : World} {K : SV → St → VC} {ev : Operand → Value} {o : Oper} (ho : o.op = .makeMap t none) (hst : HSt S w0 F st ρ w) (h : (lop P st (.makeMap t none) K).den S ρ) :
    LOk S ρ w0 F st K ((execOp ev o).run P w) := by
  simp only [lop] at h
  split at h
  · split at h
    · rename_i kk v _ _
      refine ⟨{ w with heap := w.heap.push (.map #[] 0) }, .inl ⟨.map (some w.heap.size), ?_, ?_⟩⟩
      · unfold execOp; rw [ho]
        refine run_v (s := Instr.makeMap t (Option.map ev none)) ?_
        simp [Instr.makeMap, newObj, Sem.run]
      · refine fresh_post S ρ w0 (ns := []) hst (by simp) h (fun _ h => h) [.int (w.heap.size : Nat)] rfl (eLe0_at S ρ _ _) ?_ ?_
        · refine (Sat.newObj hst.hp (.map #[] 0) rfl).mono (fun y hy => ?_)
          refine star_mono (fun h' hh => ?_) (fun _ h => h) y hy
          simp only [Ch.den, at_den, U.toInt_int]
          refine ⟨by omega, #[], 0, ⟨by simp [SX.den, ap1], by simp [SX.den, ap1], by simp, by simp⟩, ?_⟩
          simpa using hh
        · right
          simp only [SV.den, SC.den, at_den, U.toInt_int]
          rw [if_neg (by omega)]; simp
    · exact h.elim
  · exact h.elim

theorem bytesOf_info {t : TypeId} {n : Nat} (h : bytesOf P t = some n) : ∃ i, P.info? t = some i ∧ i.bytes = n := by
  unfold bytesOf at h
  split at h
  · rename_i i hi; cases h; exact ⟨i, hi, rfl⟩
  · cases h
theorem room47_den : ((room47).den S ρ).toInt = 140737488355328 := rfl
theorem run_askRoomE {n : Nat} (h : n ≤ 140737488355328) (w : World) : (askRoom n).run P w = .ok () w := by
  unfold askRoom roomBytes
  rw [if_neg (by omega)]
  rfl
theorem asInt_runE (k : IntKind) (n : Int) (w : World) : (asInt (.int k n)).run P w = .ok n w := by simp [asInt, asIntOf]

theorem arr_post {F : HProp} {st : St} {ns : List SX} {en : En} {x l c : SX} {sz : Nat} {vs spare : List Value} {t : TypeId} {w : World} {K : SV → St → VC} (hst : HSt S w0 F st ρ w) (hn : ∀ x ∈ ns, (x.den S ρ).toProp)
    (h : (fresh (st.add ns) [.int] [eLe (.int 0) (.at .int st.n)] (K (.one (.slice (.at .int st.n) (.int 0) (.int 0) (.int 0) l c sz)) { st with hp := .arr en (.at .int st.n) x c :: st.hp, n := st.n + 1, asm := eLe (.int 0) (.at .int st.n) :: (ns ++ st.asm) })).den S ρ)
    (hl : l.lt st.n = true) (hc : c.lt st.n = true) (hx : x.lt st.n = true) (hv : vs = en.vals (x.den S ρ) ++ spare) (hlen : vs.length = (c.den S ρ).toInt.toNat * en.stride) (h0 : 0 ≤ (c.den S ρ).toInt) :
    LPost S ρ w0 F st K { w with heap := w.heap.push (.cells vs.toArray t) } (.slice (some ⟨w.heap.size, 0, none⟩) (l.den S ρ).toInt.toNat (c.den S ρ).toInt.toNat) := by
  have hE := updL_ext S ρ st.n [Srt.int] [U.int (w.heap.size : Nat)]
  refine fresh_post S ρ w0 hst hn h (fun _ h => h) [.int (w.heap.size : Nat)] rfl (eLe0_at S ρ _ _) ?_ ?_
  · refine (Sat.new hst.hp vs t true).mono (fun y hy => ?_)
    refine star_mono (fun h' hh => ?_) (fun _ h => h) y hy
    simp only [Ch.den, at_den, U.toInt_int]
    rw [SX.den_ext S hE hx, SX.den_ext S hE hc]
    refine ⟨spare, ?_, h0, .inl (by simp), ?_⟩
    · rw [← hlen, hv, List.length_append]
    · rw [← hv]; simpa using hh
  · right
    simp only [SV.den, SC.den, at_den, U.toInt_int]
    rw [if_neg (by omega), SX.den_ext S hE hl, SX.den_ext S hE hc]
    simp [SX.den]

theorem lop_makeSlice {F : HProp} {st : St} {t : TypeId} {x y : Operand} {w : World} {K : SV → St → VC} {ev : Operand → Value} {o : Oper} (ho : o.op = .makeSlice t x y) (hst : HSt S w0 F st ρ w) (hL : ∀ x, (lk st.fr x).R S ρ (ev x)) (h : (lop P st (.makeSlice t x y) K).den S ρ) :
    LOk S ρ w0 F st K ((execOp ev o).run P w) := by
  simp only [lop] at h
  split at h
  · rename_i et l c hu hil hic
    split at h
    · rename_i en bytes sz hen hby hsz
      split at h
      · rename_i z hz
        cases h1 : Nat.beq sz en.stride
        · rw [h1] at h; exact h.elim
        cases h2 : Nat.ble 1 bytes
        · rw [h1, h2] at h; exact h.elim
        cases h3 : l.lt st.n
        · rw [h1, h2, h3] at h; exact h.elim
        cases h4 : c.lt st.n
        · rw [h1, h2, h3, h4] at h; exact h.elim
        cases h5 : z.lt st.n
        · rw [h1, h2, h3, h4, h5] at h; exact h.elim
        rw [h1, h2, h3, h4, h5] at h
        simp only [cond_true] at h
        obtain ⟨hn, hf⟩ := needs_den S ρ h
        obtain ⟨k1, hev1⟩ := intOfSV_den S ρ hil (hL x)
        obtain ⟨k2, hev2⟩ := intOfSV_den S ρ hic (hL y)
        obtain ⟨n1, hn1⟩ := need_sound S ρ hst.asm hn
        obtain ⟨n2, hn2⟩ := need_sound S ρ hst.asm hn1
        obtain ⟨n3, _⟩ := need_sound S ρ hst.asm hn2
        rw [eLe_den] at n1 n2 n3
        rw [SX.mk2_den] at n3
        simp only [SX.den, ap2, U.toInt_int, room47_den] at n1 n3
        obtain ⟨i, v, hi, hv, hcv⟩ := en_row S ρ (asm := []) hz
        obtain ⟨i', hi', hb⟩ := bytesOf_info hby
        rw [hi] at hi'; cases hi'
        obtain ⟨i', hi', hs⟩ := szOf_info hsz
        rw [hi] at hi'; cases hi'
        have hst1 := Nat.eq_of_beq_eq_true h1
        have hb1 := Nat.le_of_ble_eq_true h2
        generalize hli : (l.den S ρ).toInt = li at *
        generalize hci : (c.den S ρ).toInt = ci at *
        have hc47 : ci ≤ 140737488355328 := by
          have : ci * 1 ≤ ci * (bytes : Int) := Int.mul_le_mul_of_nonneg_left (by omega) (by omega)
          omega
        have hcn : ci.toNat * bytes ≤ 140737488355328 := by
          have : ((ci.toNat * bytes : Nat) : Int) = ci * bytes := by rw [Int.natCast_mul, Int.toNat_of_nonneg (by omega)]
          omega
        have hw1 : IntKind.i64.wrap li = li := wrap_fits (by simp [IntKind.min, IntKind.max, IntKind.bits, IntKind.signed]; omega)
        have hw2 : IntKind.i64.wrap ci = ci := wrap_fits (by simp [IntKind.min, IntKind.max, IntKind.bits, IntKind.signed]; omega)
        have hzl : v.cells.size = en.stride := by
          have := congrArg List.length hcv
          rw [En.elV_length] at this; simpa using this
        let vs : List Value := (List.replicate ci.toNat v.cells.toList).flatten
        have hcells : ((Array.range (ci.toNat * i.size)).map (fun j => (if ci.toNat * i.size = 0 then #[] else v.cells)[j % (if ci.toNat * i.size = 0 then #[] else v.cells).size]!)) = vs.toArray := by
          by_cases h0 : ci.toNat * i.size = 0
          · have : vs = [] := by
              rw [hs, hst1] at h0
              rcases Nat.mul_eq_zero.1 h0 with h0 | h0
              · simp [vs, h0]
              · have : v.cells.toList = [] := List.eq_nil_of_length_eq_zero (by simp [hzl, h0])
                simp [vs, this]
            rw [this]; simp [h0]
          · simp only [h0, if_false]
            rw [← Array.toList_inj, hs, hst1, ← hzl, range_mod_arr]
        refine ⟨{ w with heap := w.heap.push (.cells vs.toArray et) }, .inl ⟨.slice (some ⟨w.heap.size, 0, none⟩) li.toNat ci.toNat, ?_, ?_⟩⟩
        · unfold execOp; rw [ho]
          refine run_v (s := Instr.makeSlice t (ev x) (ev y)) ?_
          rw [hev1, hev2]
          have hz' : (if ci.toNat * i.size = 0 then (pure #[] : Sem (Array Value)) else do pure (← zeroValue et).cells).run P w = .ok (if ci.toNat * i.size = 0 then #[] else v.cells) w := by
            by_cases h0 : ci.toNat * i.size = 0
            · simp [h0]
            · simp [h0, run_zeroE hi hv]
          have hbig : ¬ (281474976710656 < (bytes : Int) * ci) := by rw [Int.mul_comm]; omega
          have hsz' : (sizeOf et).run P w = .ok i.size w := run_sizeOfE (szOf_of hi) w
          simp only [Instr.makeSlice, Sem.run_bind, run_underlying hu, Result.andThen_ok, asInt_runE, typeInfo, hw1, hw2]
          simp [hi, hb, hbig, hsz', run_askRoomE hcn, show ¬ ci < 0 by omega, show ¬ li < 0 by omega, show ¬ ci < li by omega]
          by_cases h0 : ci.toNat * i.size = 0
          · simp only [h0, if_true] at hcells ⊢
            rw [← hcells, run_newRowE]
            rfl
          · simp only [h0, if_false] at hcells ⊢
            rw [run_zeroE hi hv, Result.andThen_ok, run_newRowE, hcells]
            rfl
        · have hvs : vs = en.vals ((en.repX l z).den S ρ) ++ (List.replicate (ci.toNat - li.toNat) v.cells.toList).flatten := by
            rw [En.vals_rep, ← hcv]
            rw [← List.flatten_append, List.replicate_append_replicate]
            simp only [vs]
            congr 2
            rw [hli]
            omega
          have hlen : vs.length = ci.toNat * en.stride := by
            simp only [vs, List.length_flatten, List.map_replicate, List.sum_replicate_nat]
            simp [hzl]
          have hxlt : (en.repX l z).lt st.n = true := by exact SX.repT_lt h3 h5
          have := arr_post S ρ w0 (t := et) hst hn hf h3 h4 hxlt hvs (by rw [hlen, hci]) (by rw [hci]; omega)
          rw [hli, hci] at this
          exact this
      · exact h.elim
    · exact h.elim
  · exact h.elim

/-! ### A slice of so many elements -/
theorem lop_buildSlice_cells {st : St} {en : En} {sz : Nat} {ev : Operand → Value} (hsz : sz = en.stride) (ha : ∀ x ∈ st.asm, (x.den S ρ).toProp) (hL : ∀ x, (lk st.fr x).R S ρ (ev x)) :
    ∀ (l : List (Nat × Operand)) (k : Nat) (ns : List SX) (x : SX) (cells : Array Value),
      ((l.zipIdx k).foldr (fun (p : (Nat × Operand) × Nat) acc => match acc, svCells (lk st.fr p.1.2) with
          | some (ns, x), some cs => bif Nat.beq p.1.1 p.2 then (match En.el st.asm en cs with | some (ns', el) => some (ns' ++ ns, en.consX el x) | none => none) else none
          | _, _ => none) (some (([] : List SX), nilX en))) = some (ns, x) → (∀ y ∈ ns, (y.den S ρ).toProp) → (k + l.length) * sz ≤ cells.size →
      ∃ r, Instr.fill (fun i => some (i * sz, sz)) cells (l.map fun (i, y) => (i, ev y)) = some r ∧ r.toList = cells.toList.take (k * sz) ++ en.vals (x.den S ρ) ++ cells.toList.drop ((k + l.length) * sz) ∧ (en.vals (x.den S ρ)).length = l.length * sz
  | [], k, ns, x, cells, h, hn, hc => by
    cases h
    exact ⟨cells, rfl, by simp [nilX_den], by simp [nilX_den]⟩
  | (i, y) :: l, k, ns, x, cells, h, hn, hc => by
    simp only [List.zipIdx_cons, List.foldr_cons] at h
    split at h
    · rename_i ns1 x1 cs hacc hcs
      simp only [Bool.cond_eq_ite] at h
      split at h
      · rename_i hi
        have hi := Nat.eq_of_beq_eq_true hi
        subst hi
        split at h
        · rename_i ns' el hel
          cases h
          have hcells := svCells_den S ρ hcs (hL y)
          have hel' := En.el_sound S ρ ha hel (fun z hz => hn z (List.mem_append_left _ hz))
          have hsize : (ev y).cells.size = sz := by
            have := congrArg List.length hcells
            rw [hel', En.elV_length, ← hsz] at this
            simpa using this
          simp only [List.length_cons] at hc
          have hroom : i * sz + sz ≤ cells.size := by
            have : i * sz + sz ≤ (i + (l.length + 1)) * sz := by rw [← Nat.succ_mul]; exact Nat.mul_le_mul_right _ (by omega)
            omega
          have hput : (Array.foldl (fun cs (p : Value × Nat) => cs.setIfInBounds (i * sz + p.2) p.1) cells (ev y).cells.zipIdx).toList = cells.toList.take (i * sz) ++ (ev y).cells.toList ++ cells.toList.drop (i * sz + sz) := by
            rw [← Array.foldl_toList, Array.toList_zipIdx, foldl_put (i * sz) _ 0 _ (by simp [hsize]; exact hroom)]
            simp [hsize]
          generalize hC : Array.foldl (fun cs (p : Value × Nat) => cs.setIfInBounds (i * sz + p.2) p.1) cells (ev y).cells.zipIdx = cells' at hput
          have hsz' : cells'.size = cells.size := by
            have := congrArg List.length hput
            simp [hsize] at this
            omega
          obtain ⟨r, hr, hrl, hvl⟩ := lop_buildSlice_cells hsz ha hL l (i + 1) ns1 x1 cells' hacc (fun z hz => hn z (List.mem_append_right _ hz)) (by
            rw [hsz', show i + 1 + l.length = i + (l.length + 1) by omega]; exact hc)
          refine ⟨r, ?_, ?_, ?_⟩
          rotate_left 2
          · rw [En.vals_cons, List.length_append, En.elV_length, ← hsz, hvl, List.length_cons, Nat.succ_mul]; omega
          · simp only [List.map_cons, Instr.fill, hsize]
            rw [if_neg (by simp; omega)]
            rw [← hr, ← hC]
          · have hlen : (cells.toList.take (i * sz)).length = i * sz := by simp; omega
            have hlen2 : ((ev y).cells.toList).length = sz := by simp [hsize]
            rw [hrl, hput, En.vals_cons, ← hel', ← hcells]
            have e1 : (cells.toList.take (i * sz) ++ (ev y).cells.toList ++ cells.toList.drop (i * sz + sz)).take ((i + 1) * sz) = cells.toList.take (i * sz) ++ (ev y).cells.toList := by
              rw [List.take_append_of_le_length (by rw [List.length_append, hlen, hlen2, Nat.succ_mul]; omega), List.take_of_length_le (by rw [List.length_append, hlen, hlen2, Nat.succ_mul]; omega)]
            have e2 : (cells.toList.take (i * sz) ++ (ev y).cells.toList ++ cells.toList.drop (i * sz + sz)).drop ((i + 1 + l.length) * sz) = cells.toList.drop ((i + (l.length + 1)) * sz) := by
              have h0 : (i + 1 + l.length) * sz = i * sz + sz + l.length * sz := by rw [Nat.add_mul, Nat.succ_mul]
              rw [List.drop_append, List.drop_of_length_le (by rw [List.length_append, hlen, hlen2]; omega), List.nil_append, List.length_append, hlen, hlen2, List.drop_drop]
              congr 1
              rw [show i + (l.length + 1) = i + 1 + l.length by omega, h0]
              omega
            rw [e1, e2]
            simp
        · cases h
      · cases h
    · cases h
theorem lop_buildSlice {F : HProp} {st : St} {t : TypeId} {len : Nat} {parts : Array (Nat × Operand)} {w : World} {K : SV → St → VC} {ev : Operand → Value} {o : Oper} (ho : o.op = .buildSlice t len parts) (hst : HSt S w0 F st ρ w) (hL : ∀ x, (lk st.fr x).R S ρ (ev x)) (h : (lop P st (.buildSlice t len parts) K).den S ρ) :
    LOk S ρ w0 F st K ((execOp ev o).run P w) := by
  simp only [lop] at h
  split at h
  · rename_i et hu
    split at h
    · rename_i en sz hen hszE
      cases h1 : Nat.beq sz en.stride
      · rw [h1] at h; exact h.elim
      cases h2 : Nat.beq parts.size len
      · rw [h1, h2] at h; exact h.elim
      cases h3 : Nat.ble (len * sz) 16777216
      · rw [h1, h2, h3] at h; exact h.elim
      cases h4 : Nat.ble 1 sz
      · rw [h1, h2, h3, h4] at h; exact h.elim
      cases h5 : (zeroSCs P et).isSome
      · rw [h1, h2, h3, h4, h5] at h; exact h.elim
      rw [h1, h2, h3, h4, h5] at h
      simp only [cond_true] at h
      split at h
      · rename_i ns x hpar
        cases h6 : x.lt st.n
        · rw [h6] at h; exact h.elim
        rw [h6] at h
        simp only [cond_true] at h
        obtain ⟨hn, hf⟩ := needs_den S ρ h
        have hlen := Nat.eq_of_beq_eq_true h2
        have hst1 := Nat.eq_of_beq_eq_true h1
        obtain ⟨cs0, hcs0⟩ := Option.isSome_iff_exists.1 h5
        obtain ⟨i, z, hi, hz, _⟩ := zeroSCs_run S ρ hcs0
        obtain ⟨i', hi', hs⟩ := szOf_info hszE
        rw [hi] at hi'; cases hi'
        obtain ⟨zero, hzero⟩ : ∃ y : Array Value, y = if len * sz = 0 then #[] else z.cells := ⟨_, rfl⟩
        obtain ⟨cells, hcd⟩ : ∃ y : Array Value, y = (Array.range (len * sz)).map (zero[· % zero.size]!) := ⟨_, rfl⟩
        have hcells : cells.size = len * sz := by simp [hcd]
        obtain ⟨r, hr, hrl, hvl⟩ := lop_buildSlice_cells S ρ hst1 hst.asm hL parts.toList 0 ns x cells hpar hn (by rw [hcells]; simp [hlen])
        have hpl : parts.toList.length = len := by rw [Array.length_toList, hlen]
        have hrv : r.toList = en.vals (x.den S ρ) := by
          rw [hrl, hpl, Nat.zero_mul, Nat.zero_add, List.take_zero, List.nil_append, List.drop_of_length_le (by rw [Array.length_toList, hcells]; exact Nat.le_refl _), List.append_nil]
        have hvl' : (en.vals (x.den S ρ)).length = len * en.stride := by rw [← hst1, ← hpl]; exact hvl
        refine ⟨{ w with heap := w.heap.push (.cells r et) }, .inl ⟨.slice (some ⟨w.heap.size, 0, none⟩) len len, ?_, ?_⟩⟩
        · unfold execOp; rw [ho]
          refine run_v (s := Instr.buildSlice t len _) ?_
          have hz' : (if len * sz = 0 then (pure #[] : Sem (Array Value)) else do pure (← zeroValue et).cells).run P w = .ok zero w := by
            by_cases h0 : len * sz = 0
            · simp [h0, hzero]
            · simp [h0, run_zeroE hi hz, hzero]
          have hparts : (parts.map fun (i, x) => (i, ev x)).toList = parts.toList.map fun (i, x) => (i, ev x) := by simp
          have hle : ¬ (len * sz > 2 ^ 24) := by have := Nat.le_of_ble_eq_true h3; omega
          simp only [Instr.buildSlice, Sem.run_bind, run_underlying hu, Result.andThen_ok, run_sizeOfE hszE, if_neg hle, Sem.run_pure, hz', hparts]
          have hr' : Instr.fill (fun i => some (i * sz, sz)) (Array.map (fun x => zero[x % zero.size]!) (Array.range (len * sz))) (List.map (fun x => (x.fst, ev x.snd)) parts.toList) = some r := by rw [← hcd]; exact hr
          by_cases h0 : len * sz = 0
          · rw [if_pos h0] at hzero ⊢
            subst hzero
            simp only [Sem.run_bind, Sem.run_pure, Result.andThen_ok, hr', run_newRowE]
          · rw [if_neg h0] at hzero ⊢
            subst hzero
            simp only [Sem.run_bind, Sem.run_pure, Result.andThen_ok, run_zeroE hi hz, hr', run_newRowE]
        · have := arr_post S ρ w0 (t := et) (vs := en.vals (x.den S ρ)) (spare := []) hst hn hf rfl rfl h6 (List.append_nil _).symm (by rw [hvl']; rfl) (Int.natCast_nonneg len)
          rw [← hrv] at this
          simpa [SX.den] using this
      · exact h.elim
    · exact h.elim
  · exact h.elim
end
end Go.Eng
