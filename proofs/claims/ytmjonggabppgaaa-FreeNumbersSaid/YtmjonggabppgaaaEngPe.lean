/- The operations that write: that the symbolic run is the model's. Part 6: append. -/
import Derived.Test.YtmjonggabppgaaaEngPd
set_option linter.unusedSimpArgs false
set_option linter.unusedVariables false
namespace Go.Eng
open Go.RowKit (Below)
section
variable {P : Program}
def baseOf (b : Int) : Option Addr := if b < 0 then none else some ⟨b.toNat, 0, none⟩
theorem first_row {w0 w : World} {H : HProp} {b : Int} {l cap s : Nat} {A spare : List Value} (hs : Sat w0 (star (row b.toNat 0 (A ++ spare) true) H) w) (hl : l * s ≤ A.length) (hb : 0 ≤ b ∨ cap = 0) (hcap : (A ++ spare).length = cap * s) :
    (Builtin.firstCells s l (.slice (baseOf b) l cap)).run P w = .ok (A.take (l * s)).toArray w := by
  unfold baseOf
  by_cases hneg : b < 0
  · have hc : cap = 0 := hb.resolve_left (by omega)
    subst hc
    simp at hcap
    simp [hneg, Builtin.firstCells, hcap]
  · simp only [if_neg hneg, Builtin.firstCells]
    have hlen : (A.take (l * s)).length = l * s := by rw [List.length_take]; omega
    have := run_loadCellsE (P := P) ⟨b.toNat, 0, none⟩ (A.take (l * s)) w (fun j u hj => by
      have hj' : j < l * s := by
        rcases Nat.lt_or_ge j (l * s) with h' | h'
        · exact h'
        · rw [List.getElem?_eq_none (by omega)] at hj; cases hj
      rw [List.getElem?_take_of_lt hj'] at hj
      have hjA : j < (A ++ spare).length := by rw [List.length_append]; omega
      have := (hs.load hjA).1
      rw [Addr.add_eq]
      rw [this, List.getElem_append_left (by omega)]
      exact (List.getElem?_eq_some_iff.1 hj).2 ▸ rfl)
    rw [hlen] at this
    exact this

theorem append_core {w0 w : World} {H : HProp} {ts : Array TypeId} {t t2 et ty : TypeId} {d2 : TypeDesc} {b : Int} {n l cap : Nat} {x z : Value} {i : TypeInfo} {A spare cells : List Value} (h0 : ts[0]? = some t) (h1 : ts[1]? = some t2)
    (ht : P.underlying t = some (.slice et)) (ht2 : P.underlying t2 = some d2) (hd : notInt d2 = true) (hi : P.info? et = some i) (hz : i.zero = some z) (hzs : z.cells.size = i.size) (hby : 1 ≤ i.bytes)
    (hs : Sat w0 (star (row b.toNat 0 (A ++ spare) true) H) w) (hl : l * i.size ≤ A.length) (hb : 0 ≤ b ∨ cap = 0) (hcap : (A ++ spare).length = cap * i.size) (hlc : l ≤ cap)
    (hx : Src P i.size x n cells w) (hx' : Src P i.size x n cells w.drew) (hone : ∀ v ∈ cells, oneV v = true) (hroom : (l + n) * i.bytes ≤ 140737488355328) :
    ∃ (w' : World) (b' : Int) (c' : Nat) (spare' : List Value), (Builtin.append_ ts ty #[.slice (baseOf b) l cap, x]).run P w = .ok (.slice (baseOf b') (l + n) c') w' ∧ l + n ≤ c' ∧ (0 ≤ b' ∨ l + n = 0) ∧ (0 ≤ b' ∨ c' = 0) ∧
      (A.take (l * i.size) ++ cells ++ spare').length = c' * i.size ∧ Sat w0 (star (row b'.toNat 0 (A.take (l * i.size) ++ cells ++ spare') true) H) w' := by
  have hcl := hx.room
  by_cases hfit : l + n ≤ cap
  · by_cases hneg : b < 0
    · have hc : cap = 0 := hb.resolve_left (by omega)
      subst hc
      have hn0 : n = 0 := by omega
      have hl0 : l = 0 := by omega
      subst hn0; subst hl0
      have hA : A = [] ∧ spare = [] := by simpa using hcap
      have hce : cells = [] := by simpa using hcl
      refine ⟨w, b, 0, [], ?_, by omega, .inr rfl, .inr rfl, by simp [hA, hce], ?_⟩
      · refine append_fit h0 h1 ht ht2 hd (szOf_of hi) hx (by omega) ?_
        simp [baseOf, hneg]
      · rw [hA.1, hA.2] at hs
        simpa [hA.1, hce] using hs
    · have hroom2 : l * i.size + n * i.size ≤ cap * i.size := by rw [← Nat.add_mul]; exact Nat.mul_le_mul_right _ hfit
      obtain ⟨w', hrun, hs'⟩ := storeCells_run (P := P) w0 b.toNat 0 (l * i.size) true H cells 0 (A ++ spare) w hs (by rw [hcap, hcl]; omega) hone
      have e1 : (A ++ spare).take (l * i.size + 0) = A.take (l * i.size) := by rw [Nat.add_zero, List.take_append_of_le_length hl]
      rw [e1] at hs'
      refine ⟨w', b, cap, (A ++ spare).drop (l * i.size + 0 + cells.length), ?_, hfit, .inl (by omega), .inl (by omega), ?_, hs'⟩
      · refine append_fit h0 h1 ht ht2 hd (szOf_of hi) hx hfit ?_
        simp only [baseOf, if_neg hneg, Addr.add_eq]
        exact hrun
      · rw [List.length_append, List.length_append, List.length_take, List.length_drop, hcap, hcl]
        omega
  · obtain ⟨c, sp, hc, hsp, hrun⟩ := append_grow (P := P) (ty := ty) h0 h1 ht ht2 hd hi hz hzs hby hx' hfit (first_row (P := P) (w := w.drew) (Sat.drew hs _) hl hb hcap) hroom
    refine ⟨{ w.drew with heap := w.heap.push (.cells (A.take (l * i.size) ++ cells ++ sp).toArray et) }, (w.heap.size : Int), c, sp, ?_, hc, .inl (by omega), .inl (by omega), ?_, ?_⟩
    · rw [hrun]
      simp only [baseOf]
      rw [if_neg (by omega)]
      simp
    · rw [List.length_append, List.length_append, List.length_take, hsp, hcl, Nat.min_eq_left hl, ← Nat.add_mul, ← Nat.add_mul]
      congr 1; omega
    · have := Sat.new (Sat.drew hs.drop (w.drawn + 1)) (A.take (l * i.size) ++ cells ++ sp) et true
      exact this
end

section
variable {G : Type} (S : Sig G) (ρ : Env G) (w0 : World) {P : Program}
theorem Fd.val_one (f : Fd) (r : List Int) : oneV (f.val r) = true := by
  cases f <;> simp only [Fd.val] <;> first | rfl | (split <;> rfl)
theorem rowVals_one : ∀ (fs : List Fd) (r : List Int), ∀ v ∈ rowVals fs r, oneV v = true
  | [], _, v, h => by cases h
  | f :: fs, r, v, h => by
    rcases List.mem_cons.1 h with rfl | h
    · exact Fd.val_one f r
    · exact rowVals_one fs _ v h
theorem En.vals_one (e : En) (u : U G) : ∀ v ∈ e.vals u, oneV v = true := by
  intro v h
  cases e with
  | ints k => simp only [En.vals, List.mem_map] at h; obtain ⟨a, _, rfl⟩ := h; rfl
  | bytes => simp only [En.vals, List.mem_map] at h; obtain ⟨a, _, rfl⟩ := h; rfl
  | rows fs => simp only [En.vals, List.mem_flatMap] at h; obtain ⟨a, _, h⟩ := h; exact rowVals_one fs a v h

theorem zeroOk_spec {t : TypeId} {n : Nat} (h : zeroOk P t n = true) : ∃ i z, P.info? t = some i ∧ i.zero = some z ∧ z.cells.size = n ∧ 1 ≤ n := by
  unfold zeroOk at h
  split at h
  · rename_i i hi; split at h
    · rename_i z hz
      cases h1 : Nat.beq z.cells.size n
      · rw [h1] at h; cases h
      · rw [h1] at h; exact ⟨i, z, hi, hz, Nat.eq_of_beq_eq_true h1, Nat.le_of_ble_eq_true h⟩
    · cases h
  · cases h
theorem srcX_sound {F : HProp} {w : World} {hp : List Ch} {asm : List SX} (ha : ∀ x ∈ asm, (x.den S ρ).toProp) (hs : Sat w0 (star (hpDen S ρ w0 hp) F) w) {sv : SV} {v : Value} (hv : sv.R S ρ v) {en e : En} {n y : SX} {ns : List SX}
    (h : srcX en hp asm sv = some (e, n, y, ns)) (hn : ∀ x ∈ ns, (x.den S ρ).toProp) : 0 ≤ (n.den S ρ).toInt ∧ Src P e.stride v (n.den S ρ).toInt.toNat (e.vals (y.den S ρ)) w := by
  unfold srcX at h
  split at h
  · cases h
    have hv' := R_one S ρ hv
    simp only [SC.den] at hv'
    rw [if_pos (by simp only [SX.den, U.toInt_int]; exact Int.negSucc_lt_zero _)] at hv'
    simp only [SX.den, U.toInt_int] at hv'
    refine ⟨by simp [SX.den], fun w' => by rw [hv']; simp [Builtin.lenOf, SX.den], by simp [nilX_den, SX.den], fun m hm => ?_⟩
    rw [hv']; simp [Builtin.firstCells, nilX_den]
  · exact srcOf_sound S ρ w0 ha hs hv h hn

/-- What stands where an append begins. -/
theorem appendX_sound {F : HProp} {w : World} {hp : List Ch} {asm : List SX} {ts : Array TypeId} {t t2 ty : TypeId} {d2 : TypeDesc} {dst src : SV} {dv xv : Value} (ha : ∀ x ∈ asm, (x.den S ρ).toProp) (hs : Sat w0 (star (hpDen S ρ w0 hp) F) w)
    (h0 : ts[0]? = some t) (h1 : ts[1]? = some t2) (ht2 : P.underlying t2 = some d2) (hd : notInt d2 = true) (hdv : dst.R S ρ dv) (hxv : src.R S ρ xv)
    {ns : List SX} {rest : List Ch} {en : En} {x n c : SX} {sz : Nat} (h : appendX P hp asm t dst src = some (ns, rest, en, x, n, c, sz)) (hn : ∀ x ∈ ns, (x.den S ρ).toProp) :
    sz = en.stride ∧ (∀ d ∈ rest, d ∈ hp) ∧ 0 ≤ (n.den S ρ).toInt ∧ ∃ (w' : World) (b' : Int) (c' : Nat), (Builtin.append_ ts ty #[dv, xv]).run P w = .ok (.slice (baseOf b') (n.den S ρ).toInt.toNat c') w' ∧ (n.den S ρ).toInt ≤ c' ∧ (0 ≤ b' ∨ (n.den S ρ).toInt = 0) ∧
      Sat w0 (star (arrDen S en (.int b') (x.den S ρ) (.int c')) (star (hpDen S ρ w0 rest) F)) w' := by
  unfold appendX at h
  split at h
  · rename_i b o k z l c0 s et ht
    obtain ⟨bytes, hby, hA⟩ := ob_some h
    clear h
    obtain ⟨en', hen, hB⟩ := ob_some hA
    clear hA
    obtain ⟨sz', hsz, h⟩ := ob_some hB
    clear hB
    cases c1 : zeroOk P et sz'
    · rw [c1] at h; cases h
    cases c2 : Nat.ble 1 bytes
    · rw [c1, c2] at h; cases h
    cases c3 : Nat.beq sz' en'.stride
    · rw [c1, c2, c3] at h; cases h
    cases c4 : SX.bq k (.int 0)
    · rw [c1, c2, c3, c4] at h; cases h
    cases c5 : SX.bq z (.int 0)
    · rw [c1, c2, c3, c4, c5] at h; cases h
    rw [c1, c2, c3, c4, c5] at h
    simp only [cond_true] at h
    obtain ⟨⟨e2, n0, y, ns0⟩, hsrc, hA⟩ := ob_some h
    clear h
    simp only at hA
    have h := hA
    clear hA
    cases c6 : decide (e2 = en')
    · rw [c6] at h; cases h
    rw [c6] at h
    simp only [cond_true] at h
    have he2 := of_decide_eq_true c6
    subst he2
    obtain ⟨⟨e1, xx, cap, rest0⟩, harr, hA⟩ := ob_some h
    clear h
    simp only at hA
    have h := hA
    clear hA
    cases c7 : decide (e1 = e2)
    · rw [c7] at h; cases h
    rw [c7] at h
    simp only [cond_true] at h
    have he1 := of_decide_eq_true c7
    subst he1
    have hk := SX.bq_eq c4
    have hz := SX.bq_eq c5
    subst hk; subst hz
    obtain ⟨i, zv, hi, hzv, hzs, hz1⟩ := zeroOk_spec c1
    obtain ⟨i', hi', hb⟩ := bytesOf_info hby
    rw [hi] at hi'; cases hi'
    obtain ⟨i', hi', hsi⟩ := szOf_info hsz
    rw [hi] at hi'; cases hi'
    have hse := Nat.eq_of_beq_eq_true c3
    have hb1 := Nat.le_of_ble_eq_true c2
    -- what stands there: the array, or nothing
    have hstart : ((bif isNilLit b then true else (bif SX.bq o (.int 0) then SX.bq c0 cap else false)) = true) → ∃ spare : List Value, (∀ d ∈ rest0, d ∈ hp) ∧ (e1.vals (xx.den S ρ)).length + spare.length = (cap.den S ρ).toInt.toNat * e1.stride ∧ 0 ≤ (cap.den S ρ).toInt ∧
        (0 ≤ (b.den S ρ).toInt ∨ (cap.den S ρ).toInt = 0) ∧ Sat w0 (star (row (b.den S ρ).toInt.toNat 0 (e1.vals (xx.den S ρ) ++ spare) true) (star (hpDen S ρ w0 rest0) F)) w ∧ c0 = cap ∧
        dv = .slice (baseOf (b.den S ρ).toInt) (l.den S ρ).toInt.toNat (cap.den S ρ).toInt.toNat := by
      intro hcond
      have hdv' := R_one S ρ hdv
      simp only [SC.den, SX.den, U.toInt_int, ite_self] at hdv'
      cases hnl : isNilLit b
      · rw [hnl] at harr hcond
        simp only [cond_false] at harr hcond
        cases ho : SX.bq o (.int 0)
        · rw [ho] at hcond; cases hcond
        · rw [ho] at hcond
          simp only [cond_true] at hcond
          have ho := SX.bq_eq ho
          have hcc := SX.bq_eq hcond
          subst ho; subst hcc
          obtain ⟨l1, l2, hl, hr⟩ := takeArr_spec harr
          have hsat := hs
          rw [hl, hpDen_pick, star_assoc] at hsat
          obtain ⟨spare, hsat⟩ := sat_ex hsat
          obtain ⟨e1', hsat⟩ := sat_and hsat
          obtain ⟨e2', hsat⟩ := sat_and hsat
          obtain ⟨e3', hsat⟩ := sat_and hsat
          refine ⟨spare, ?_, e1', e2', e3', by rw [hr]; exact hsat, rfl, ?_⟩
          · intro d hd'
            rw [hr] at hd'; rw [hl]
            rcases List.mem_append.1 hd' with hd' | hd'
            · exact List.mem_append_left _ hd'
            · exact List.mem_append_right _ (List.mem_cons_of_mem _ hd')
          · rw [hdv']; simp [baseOf, SX.den]
      · rw [hnl] at harr
        simp only [cond_true] at harr
        cases hc0 : SX.bq c0 (.int 0)
        · rw [hc0] at harr; cases harr
        · rw [hc0] at harr
          simp only [cond_true] at harr
          have hc0 := SX.bq_eq hc0
          cases harr
          subst hc0
          have hneg := isNilLit_den S ρ hnl
          refine ⟨[], fun d h => h, by simp [nilX_den, SX.den], by simp [SX.den], .inr rfl, ?_, rfl, ?_⟩
          · rw [nilX_den]
            rw [List.append_nil, row_nil, star_comm, star_emp]
            exact hs
          · rw [hdv']; simp [baseOf, hneg, SX.den]
    cases c8 : (bif isNilLit b then true else (bif SX.bq o (.int 0) then SX.bq c0 cap else false))
    · rw [c8] at h; cases h
    rw [c8] at h
    simp only [cond_true, Option.some.injEq, Prod.mk.injEq] at h
    obtain ⟨rfl, rfl, rfl, rfl, rfl, rfl, rfl⟩ := h
    obtain ⟨spare, hsub, g1, g2, g3, hsat, hcc, hdv'⟩ := hstart c8
    obtain ⟨m1, hn1⟩ := need_sound S ρ ha hn
    obtain ⟨m2, hn2⟩ := need_sound S ρ ha hn1
    obtain ⟨m3, hn3⟩ := need_sound S ρ ha hn2
    rw [eLe_den] at m1 m2 m3
    rw [En.lenX_den] at m2
    rw [SX.mk2_den, room47_den] at m3
    simp only [SX.den, ap2, SX.mk2_den, U.toInt_int] at m1 m2 m3
    obtain ⟨q1, hx⟩ := srcX_sound S ρ w0 (P := P) ha hs hxv hsrc hn3
    obtain ⟨_, hx'⟩ := srcX_sound S ρ w0 (P := P) (w := w.drew) ha (Sat.drew hs _) hxv hsrc hn3
    have hvl := En.vals_length e1 (xx.den S ρ)
    have hnden : ((SX.mk2 40 l n0).den S ρ).toInt = (l.den S ρ).toInt + (n0.den S ρ).toInt := by rw [SX.mk2_den]; simp [SX.den, ap2]
    have hntn : ((SX.mk2 40 l n0).den S ρ).toInt.toNat = (l.den S ρ).toInt.toNat + (n0.den S ρ).toInt.toNat := by rw [hnden]; omega
    have hxs : i.size = e1.stride := by rw [hsi, hse]
    have hlen : (e1.vals (xx.den S ρ)).length ≤ (cap.den S ρ).toInt.toNat * e1.stride := by omega
    have hs0 : e1.stride ≠ 0 := by omega
    have hlc : (l.den S ρ).toInt.toNat ≤ (cap.den S ρ).toInt.toNat := by
      rw [hvl] at hlen
      have := Nat.le_of_mul_le_mul_right hlen (Nat.pos_of_ne_zero hs0)
      omega
    rw [← hxs] at hx hx'
    obtain ⟨w', b', c', spare', hrun, k1, k2, k3, k4, k5⟩ := append_core (P := P) (ty := ty) h0 h1 ht ht2 hd hi hzv (by rw [hzs, hsi]) (by rw [hb]; exact hb1) hsat (by rw [hxs, hvl]; exact Nat.mul_le_mul_right _ (by omega)) (by rcases g3 with g3 | g3 <;> omega) (by rw [List.length_append, hxs]; exact g1) hlc hx hx' (En.vals_one _ _) (by
      rw [hb]
      have e1 : (((l.den S ρ).toInt.toNat + (n0.den S ρ).toInt.toNat) * bytes : Nat) = ((l.den S ρ).toInt + (n0.den S ρ).toInt) * (bytes : Int) := by
        rw [Int.natCast_mul]; congr 1; omega
      omega)
    refine ⟨hse, hsub, by rw [hnden]; omega, w', b', c', ?_, by rw [hnden]; omega, by rw [hnden]; rcases k2 with k2 | k2 <;> omega, ?_⟩
    · rw [hdv', hntn]; exact hrun
    · refine k5.mono fun y' hy => star_mono (fun z' hz' => ?_) (fun _ h => h) y' hy
      rw [hxs] at k4 hz'
      refine ⟨spare', ?_, by simp, by simp; omega, ?_⟩
      · rw [En.vals_app, En.vals_take, ← List.length_append, k4]; simp
      · rw [En.vals_app, En.vals_take]; exact hz'
  · cases h
end
end Go.Eng
