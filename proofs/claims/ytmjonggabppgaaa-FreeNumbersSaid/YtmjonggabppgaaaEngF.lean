/- The quiet operations: that what they answer symbolically is what the model does. Part 2: the operations. -/
import Derived.Test.YtmjonggabppgaaaEngE
set_option linter.unusedSimpArgs false
set_option linter.unusedVariables false
namespace Go.Eng
open Go.RowKit (Below)

section
variable {P : Program}

theorem run_v {s : Sem Value} {v : Value} {w w' : World} (h : s.run P w = .ok v w') : (do pure (Next.value (← s)) : Sem Next).run P w = .ok (.value v) w' := by
  have : (do pure (Next.value (← s)) : Sem Next) = s.bind (fun v => Sem.pure (Next.value v)) := rfl
  rw [this, Sem.run_bind', h]; rfl

theorem szOf_info {t : TypeId} {n : Nat} (h : szOf P t = some n) : ∃ i, P.info? t = some i ∧ i.size = n := by
  unfold szOf at h
  split at h
  · rename_i i hi; cases h; exact ⟨i, hi, rfl⟩
  · cases h
theorem run_sizeOfE {t : TypeId} {n : Nat} (h : szOf P t = some n) (w : World) : (sizeOf t).run P w = .ok n w := by
  obtain ⟨i, hi, rfl⟩ := szOf_info h
  simp [sizeOf, typeInfo, hi]
theorem run_isAggE {t : TypeId} {d : TypeDesc} (h : P.underlying t = some d) (w : World) : (isAgg t).run P w = .ok (tyAgg d) w := by
  simp only [isAgg, go_sem, run_underlying h]
  cases d <;> simp [tyAgg, run_underlying h]

theorem run_loadCellsE (a : Addr) (vs : List Value) (w : World) (h : ∀ j v, vs[j]? = some v → w.cell? (a.add j) = some v) : (loadCells a vs.length).run P w = .ok vs.toArray w := by
  have key : ∀ (n i : Nat) (acc : Array Value), i + n = vs.length → (loadCellsFrom a i n acc).run P w = .ok (acc ++ (vs.drop i).toArray) w := by
    intro n
    induction n with
    | zero => intro i acc h'; simp [loadCellsFrom, List.drop_eq_nil_of_le (show vs.length ≤ i by omega)]
    | succ n ih =>
      intro i acc h'
      have hlt : i < vs.length := by omega
      have hc := h i vs[i] (List.getElem?_eq_getElem hlt)
      have e : (loadCellsFrom a i (n + 1) acc) = (load (a.add i)).bind (fun v => loadCellsFrom a (i + 1) n (acc.push v)) := rfl
      rw [e, Sem.run_bind']
      have e2 : (load (a.add i)).run P w = .ok vs[i] w := by simp [load, Sem.run, hc]
      rw [e2]
      simp only [Result.andThen]
      rw [ih (i + 1) _ (by omega)]
      congr 1
      rw [List.drop_eq_getElem_cons hlt]
      simp
  have := key vs.length 0 #[] (by omega)
  simpa [loadCells] using this

theorem Addr.add_eq (b o n : Nat) : Addr.add ⟨b, o, none⟩ n = ⟨b, o + n, none⟩ := by unfold Addr.add; split <;> simp_all

theorem run_loadVarE {t : TypeId} {d : TypeDesc} {n : Nat} (hd : P.underlying t = some d) (hn : szOf P t = some n) (b o : Nat) (vs : List Value) (w : World)
    (hl : tyAgg d = true → vs.length = n) (h : ∀ j v, vs[j]? = some v → w.cell? ⟨b, o + j, none⟩ = some v) (v : Value) (hv : v = (if tyAgg d then Value.agg vs.toArray else vs.getD 0 undef)) (h1 : tyAgg d = false → vs ≠ []) :
    (loadVar t ⟨b, o, none⟩).run P w = .ok v w := by
  subst hv
  have e : loadVar t ⟨b, o, none⟩ = (isAgg t).bind (fun x => if x then ((sizeOf t).bind fun k => (loadCells ⟨b, o, none⟩ k).bind fun vs => Sem.pure (Value.agg vs)) else load ⟨b, o, none⟩) := by
    unfold loadVar; rfl
  rw [e, Sem.run_bind', run_isAggE hd]
  simp only [Result.andThen]
  cases hag : tyAgg d
  · simp only [Bool.false_eq_true, if_false]
    obtain ⟨v0, vs', rfl⟩ : ∃ v vs', vs = v :: vs' := by
      cases vs with
      | nil => exact absurd rfl (h1 hag)
      | cons v vs' => exact ⟨v, vs', rfl⟩
    have := h 0 v0 rfl
    simp only [Nat.add_zero] at this
    simp [load, Sem.run, this]
  · simp only [if_true]
    rw [Sem.run_bind', run_sizeOfE hn]
    simp only [Result.andThen]
    rw [Sem.run_bind', ← hl hag, run_loadCellsE _ vs w (fun j v hj => by rw [Addr.add_eq]; exact h j v hj)]
    rfl

theorem binOp_int (op : BinOp) (t : TypeId) (k : IntKind) (a b : Int) (h1 : op ≠ .shl) (h2 : op ≠ .shr) : binOp op t (.int k a) (.int k b) =
    (match op with
    | .add | .sub | .mul => Op.intArith op k a b
    | .quo | .rem => Op.intDiv op k a b
    | .and | .or | .xor | .andNot => Op.intBits op k a b
    | _ => Op.intCmp op a b) := by
  cases op <;> first | rfl | contradiction | simp [binOp]
theorem eqGuard_int (op : BinOp) (t : TypeId) (x y : Operand) (k k' : IntKind) (a b : Int) : eqGuard op t x y (.int k a) (.int k' b) = pure () := by
  cases op <;> rfl
theorem wrap_fits {k : IntKind} {n : Int} (h : k.min ≤ n ∧ n ≤ k.max) : k.wrap n = n := by
  cases k <;> simp only [IntKind.wrap, IntKind.min, IntKind.max, IntKind.bits, IntKind.signed] at * <;> simp at * <;> (try split) <;> omega
end

section
variable {G : Type} (S : Sig G) (ρ : Env G) (w0 : World) {P : Program}

theorem R_one {c : SC} {v : Value} (h : (SV.one c).R S ρ v) : v = c.den S ρ := by
  rcases h with h | h
  · cases h
  · exact h
theorem R_agg {cs : List SC} {v : Value} (h : (SV.agg cs).R S ρ v) : v = .agg (cs.map (SC.den S ρ)).toArray := by
  rcases h with h | h
  · cases h
  · exact h
theorem R_mk (sv : SV) : sv.R S ρ (sv.den S ρ) := .inr rfl
theorem R_of {sv : SV} {v : Value} (h : v = sv.den S ρ) : sv.R S ρ v := .inr h

theorem ofCells_den {agg : Bool} {cs : List SC} {sv : SV} (h : ofCells agg cs = some sv) :
    sv.den S ρ = (if agg then Value.agg (cs.map (SC.den S ρ)).toArray else (cs.map (SC.den S ρ)).getD 0 undef) ∧ (agg = false → cs ≠ []) := by
  unfold ofCells at h
  split at h
  · rename_i c
    cases agg <;> cases h <;> simp [SV.den]
  · cases agg
    · cases h
    · cases h; simp [SV.den]

theorem loadAt_sound {F : HProp} {w : World} {hp : List Ch} {asm : List SX} (ha : ∀ x ∈ asm, (x.den S ρ).toProp) (hs : Sat w0 (star (hpDen S ρ w0 hp) F) w)
    {t : TypeId} {d : TypeDesc} {n : Nat} (hd : P.underlying t = some d) (hn : szOf P t = some n) {c : SC} {ns : List SX} {sv : SV}
    (h : loadAt hp asm (tyAgg d) (bif tyAgg d then n else 1) c = some (ns, sv)) (hns : ∀ e ∈ ns, (e.den S ρ).toProp) :
    (Instr.loadAt t (c.den S ρ)).run P w = .ok (sv.den S ρ) w := by
  have hrun : ∀ a, Instr.loadAt t (.pointer (some a)) = loadVar t a := fun a => rfl
  unfold loadAt at h
  split at h
  · rename_i b o
    cases hn1 : Nat.ble 1 (bif tyAgg d then n else 1)
    · rw [hn1] at h; cases h
    rw [hn1] at h
    have hn1' := Nat.le_of_ble_eq_true hn1
    simp only [cond_true] at h
    split at h
    · rename_i cs hfc
      split at h
      · rename_i v hv
        cases h
        obtain ⟨o', cs', hm, h1, h2, rfl⟩ := findCel_sound hfc
        obtain ⟨hb, hc⟩ := cel_cells S ρ w0 hm hs
        have hne : cs' ≠ [] := by rintro rfl; simp only [List.length_nil] at h2; omega
        obtain ⟨hden, hne2⟩ := ofCells_den S ρ hv
        by_cases hneg : (b.den S ρ).toInt < 0
        · exfalso; have := hb hne; omega
        · simp only [SC.den]
          rw [if_neg hneg, hrun]
          refine run_loadVarE hd hn _ _ (((cs'.drop (o - o')).take (bif tyAgg d then n else 1)).map (SC.den S ρ)) w (fun hag => ?_) (fun j v hj => ?_) _ hden (fun hag => by simpa using hne2 hag)
          · rw [hag]; simp only [cond_true, List.length_map, List.length_take, List.length_drop]
            rw [hag] at h2; simp only [cond_true] at h2; omega
          · rw [List.getElem?_map, Option.map_eq_some_iff] at hj
            obtain ⟨c, hc1, rfl⟩ := hj
            rw [List.getElem?_take] at hc1
            split at hc1
            · rw [List.getElem?_drop] at hc1
              have := (hc _ _ hc1).1
              rw [show o + j = o' + (o - o' + j) by omega]; exact this
            · cases hc1
      · cases h
    · cases h
  · rename_i b o i s j
    split at h
    · rename_i e x hfa
      split at h
      · rename_i v hv
        cases hble : Nat.ble (j + (bif tyAgg d then n else 1)) s
        · rw [hble] at h; cases h
        · rw [hble] at h
          cases h
          obtain ⟨hst, hb, hcells⟩ := arr_cells S ρ w0 hfa hs
          obtain ⟨hi0, hns1⟩ := need_sound S ρ ha hns
          obtain ⟨hi1, _⟩ := need_sound S ρ ha hns1
          have hi0' := (eLe_den S ρ _ _).1 hi0
          have hi1' := (eLt_den S ρ _ _).1 hi1
          rw [En.lenX_den] at hi1'
          simp only [SX.den, U.toInt_int] at hi0' hi1'
          have hle := Nat.le_of_ble_eq_true hble
          have hidx : (i.den S ρ).toInt.toNat < e.len (x.den S ρ) := by omega
          obtain ⟨hden, hne2⟩ := ofCells_den S ρ hv
          simp only [SC.den]
          rw [hrun]
          refine run_loadVarE hd hn _ _ ((((e.get x i).drop j).take (bif tyAgg d then n else 1)).map (SC.den S ρ)) w (fun hag => ?_) (fun q v hq => ?_) _ hden (fun hag => by simpa using hne2 hag)
          · rw [hag]; simp only [cond_true, List.length_map, List.length_take, List.length_drop, En.get_length]
            rw [hag] at hle; simp only [cond_true] at hle; omega
          · rw [List.getElem?_map, Option.map_eq_some_iff] at hq
            obtain ⟨c, hc1, rfl⟩ := hq
            rw [List.getElem?_take] at hc1
            split at hc1
            · rename_i hqn
              rw [List.getElem?_drop] at hc1
              have hg := En.get_den S ρ e x i hidx (j + q) (by omega)
              rw [List.getElem?_map, hc1] at hg
              have := hcells _ _ hg.symm
              rw [hst] at this
              rw [show (o.den S ρ).toInt.toNat + (i.den S ρ).toInt.toNat * s + j + q = (o.den S ρ).toInt.toNat + ((i.den S ρ).toInt.toNat * s + (j + q)) by omega]
              exact this
            · cases hc1
      · cases h
    · split at h
      · rename_i lo _
        cases hag : tyAgg d
        · rw [hag] at h
          cases hs1 : Nat.beq s 1
          · rw [hs1] at h; cases h
          cases hj0 : Nat.beq j 0
          · rw [hs1, hj0] at h; cases h
          rw [hs1, hj0] at h
          simp only [cond_true, cond_false] at h
          split at h
          · rename_i k es hci
            cases h
            have e1 := Nat.eq_of_beq_eq_true hs1
            have e2 := Nat.eq_of_beq_eq_true hj0
            subst e1; subst e2
            obtain ⟨hi0, hns1⟩ := need_sound S ρ ha hns
            obtain ⟨hi1, _⟩ := need_sound S ρ ha hns1
            have hi0' := (eLe_den S ρ _ _).1 hi0
            have hi1' := (eLt_den S ρ _ _).1 hi1
            simp only [SX.den, U.toInt_int] at hi0' hi1'
            obtain ⟨o', cs', hm, ho, hlen, hget⟩ := celInts_sound hci
            obtain ⟨hb, hc⟩ := cel_cells S ρ w0 hm hs
            have hil : (i.den S ρ).toInt.toNat < es.length := by
              have : ((Int.ofNat es.length : Int)) = (es.length : Int) := rfl
              omega
            rw [hlen] at hil
            have hq := List.getElem?_eq_getElem hil
            obtain ⟨e, he, hce⟩ := hget _ _ hq
            rw [List.getElem?_drop] at hq
            have hcell := (hc _ _ hq).1
            simp only [SC.den, SV.den]
            rw [hrun, nthI_den, consI_den]
            refine run_loadVarE hd hn _ _ [Value.int k (e.den S ρ).toInt] w (fun hag' => by rw [hag] at hag'; cases hag') (fun q v hq' => ?_) _ ?_ (fun _ => by simp)
            · cases q with
              | zero =>
                simp at hq'
                subst hq'
                rw [hce] at hcell
                simp only [SC.den] at hcell
                have hlo : ((SX.int (.ofNat lo)).den S ρ).toInt.toNat = lo := rfl
                rw [hlo]
                rw [show lo + (i.den S ρ).toInt.toNat * 1 + 0 + 0 = o' + (lo - o' + (i.den S ρ).toInt.toNat) by omega]
                exact hcell
              | succ q => simp at hq'
            · rw [hag]
              simp [List.getD_eq_getElem?_getD, List.getElem?_map, he]
          · cases h
        · rw [hag] at h; cases h
      · cases h
  · cases h

theorem wrapped_sound {asm : List SX} (ha : ∀ x ∈ asm, (x.den S ρ).toProp) {k : IntKind} {e : SX} {n : Int} (he : (e.den S ρ).toInt = n) (hns : ∀ x ∈ (wrapped asm k e).1, (x.den S ρ).toProp) :
    (wrapped asm k e).2.den S ρ = .int k (k.wrap n) := by
  unfold wrapped at *
  cases hk : k.signed
  · simp only [hk, cond_false, SV.den, SC.den]
    rw [SX.mk1_den]
    have : ap1 (10 + kn k) (e.den S ρ) = (.int (k.wrap (e.den S ρ).toInt) : U G) := by
      cases k <;> rfl
    simp only [SX.den]; rw [this, he]; rfl
  · simp only [hk, cond_true] at hns ⊢
    simp only [SV.den, SC.den]
    have h1 := (need_sound S ρ ha (ns := []) hns).1
    rw [SX.mk1_den] at h1
    have : ap1 (20 + kn k) (e.den S ρ) = (.bool (decide (k.min ≤ (e.den S ρ).toInt) && decide ((e.den S ρ).toInt ≤ k.max)) : U G) := by
      cases k <;> rfl
    simp only [SX.den] at h1; rw [this] at h1
    simp at h1
    rw [he] at h1 ⊢
    rw [wrap_fits h1]

theorem toInt_ap2_40 (a b : SX) : ((SX.mk2 40 a b).den S ρ).toInt = (a.den S ρ).toInt + (b.den S ρ).toInt := by rw [SX.mk2_den]; rfl
theorem toInt_ap2_41 (a b : SX) : ((SX.mk2 41 a b).den S ρ).toInt = (a.den S ρ).toInt - (b.den S ρ).toInt := by rw [SX.mk2_den]; rfl
theorem toInt_ap2_42 (a b : SX) : ((SX.mk2 42 a b).den S ρ).toInt = (a.den S ρ).toInt * (b.den S ρ).toInt := by rw [SX.mk2_den]; rfl
theorem toInt_ap2_43 (a b : SX) : ((SX.mk2 43 a b).den S ρ).toInt = (a.den S ρ).toInt.tdiv (b.den S ρ).toInt := by rw [SX.mk2_den]; rfl
theorem toInt_ap2_44 (a b : SX) : ((SX.mk2 44 a b).den S ρ).toInt = (a.den S ρ).toInt.tmod (b.den S ρ).toInt := by rw [SX.mk2_den]; rfl

theorem bits_den (c : Nat) (op : BinOp) (k : IntKind) (a b : SX) (h : ∀ x y : U G, ap2 (c + kn k) x y = .int (bitsV op k x.toInt y.toInt)) :
    ((SX.f2 (c + kn k) a b).den S ρ).toInt = bitsV op k (a.den S ρ).toInt (b.den S ρ).toInt := by
  simp only [SX.den]; rw [h]; rfl

theorem intBin_sound {asm : List SX} (ha : ∀ x ∈ asm, (x.den S ρ).toProp) {op : BinOp} {t : TypeId} {k : IntKind} {a b : SX} {ns : List SX} {sv : SV} (h1 : op ≠ .shl) (h2 : op ≠ .shr)
    (h : intBin asm op k a b = some (ns, sv)) (hns : ∀ e ∈ ns, (e.den S ρ).toProp) (w : World) :
    (binOp op t (.int k (a.den S ρ).toInt) (.int k (b.den S ρ).toInt)).run P w = .ok (sv.den S ρ) w := by
  rw [binOp_int op t k _ _ h1 h2]
  cases op <;> simp only [intBin, Option.some.injEq, reduceCtorEq] at h <;> try contradiction
  case add =>
    rw [← Prod.eta (wrapped asm k _)] at h; cases h
    rw [wrapped_sound S ρ ha (toInt_ap2_40 S ρ a b) hns]; rfl
  case sub =>
    rw [← Prod.eta (wrapped asm k _)] at h; cases h
    rw [wrapped_sound S ρ ha (toInt_ap2_41 S ρ a b) hns]; rfl
  case mul =>
    rw [← Prod.eta (wrapped asm k _)] at h; cases h
    rw [wrapped_sound S ρ ha (toInt_ap2_42 S ρ a b) hns]; rfl
  case quo =>
    cases h
    obtain ⟨hz, hw⟩ := need_sound S ρ ha hns
    rw [eNot_den, eEq_bool] at hz
    simp [SX.den] at hz
    rw [wrapped_sound S ρ ha (toInt_ap2_43 S ρ a b) hw]
    simp [Op.intDiv, hz]
  case rem =>
    cases h
    obtain ⟨hz, hw⟩ := need_sound S ρ ha hns
    rw [eNot_den, eEq_bool] at hz
    simp [SX.den] at hz
    simp only [SV.den, SC.den]
    rw [toInt_ap2_44]
    simp [Op.intDiv, hz]
  case and =>
    cases h; simp only [SV.den, SC.den]; rw [SX.mk2_den, bits_den S ρ 60 .and k a b (by intro x y; cases k <;> rfl)]; rfl
  case or =>
    cases h; simp only [SV.den, SC.den]; rw [SX.mk2_den, bits_den S ρ 68 .or k a b (by intro x y; cases k <;> rfl)]; rfl
  case xor =>
    cases h; simp only [SV.den, SC.den]; rw [SX.mk2_den, bits_den S ρ 76 .xor k a b (by intro x y; cases k <;> rfl)]; rfl
  case andNot =>
    cases h; simp only [SV.den, SC.den]; rw [SX.mk2_den, bits_den S ρ 84 .andNot k a b (by intro x y; cases k <;> rfl)]; rfl
  case eql => cases h; simp only [SV.den, SC.den]; rw [eEq_bool]; rfl
  case neq => cases h; simp only [SV.den, SC.den]; rw [eNot_toBool, eEq_bool]; rfl
  case lss => cases h; simp only [SV.den, SC.den]; rw [eLt_bool]; rfl
  case leq => cases h; simp only [SV.den, SC.den]; rw [eLe_bool]; rfl
  case gtr => cases h; simp only [SV.den, SC.den]; rw [eLt_bool]; rfl
  case geq => cases h; simp only [SV.den, SC.den]; rw [eLe_bool]; rfl

theorem isNilLit_den {x : SX} (h : isNilLit x = true) : (x.den S ρ).toInt < 0 := by
  unfold isNilLit at h
  split at h
  · simp only [SX.den, U.toInt_int]; exact Int.negSucc_lt_zero _
  · cases h

theorem equal_step (t : TypeId) (x y : Value) : Op.equal t x y = Op.equalIn (9999 + 1) t x y := rfl
theorem equal_bool {t : TypeId} (ht : P.underlying t = some .bool) (x y : Bool) (w : World) : (Op.equal t (.bool x) (.bool y)).run P w = .ok (x == y) w := by
  rw [equal_step, Op.equalIn]; simp [run_underlying ht]
theorem equal_ptr_nil {t : TypeId} {e : TypeId} (ht : P.underlying t = some (.pointer e)) (x : Option Addr) (w : World) : (Op.equal t (.pointer none) (.pointer x)).run P w = .ok x.isNone w := by
  rw [equal_step, Op.equalIn]; simp [run_underlying ht]
theorem equal_ptr_nil' {t : TypeId} {e : TypeId} (ht : P.underlying t = some (.pointer e)) (x : Option Addr) (w : World) : (Op.equal t (.pointer x) (.pointer none)).run P w = .ok x.isNone w := by
  cases x <;> (rw [equal_step, Op.equalIn]; simp [run_underlying ht])
theorem equal_slice_nil {t : TypeId} {e : TypeId} (ht : P.underlying t = some (.slice e)) (x : Option Addr) (l c l' c' : Nat) (w : World) : (Op.equal t (.slice none l' c') (.slice x l c)).run P w = .ok x.isNone w := by
  rw [equal_step, Op.equalIn]; simp [run_underlying ht]
theorem equal_slice_nil' {t : TypeId} {e : TypeId} (ht : P.underlying t = some (.slice e)) (x : Option Addr) (l c l' c' : Nat) (w : World) : (Op.equal t (.slice x l c) (.slice none l' c')).run P w = .ok x.isNone w := by
  cases x <;> (rw [equal_step, Op.equalIn]; simp [run_underlying ht])
theorem equal_map_nil {t : TypeId} {e e' : TypeId} (ht : P.underlying t = some (.map e e')) (x : Option Nat) (w : World) : (Op.equal t (.map none) (.map x)).run P w = .ok x.isNone w := by
  rw [equal_step, Op.equalIn]; simp [run_underlying ht]
theorem equal_map_nil' {t : TypeId} {e e' : TypeId} (ht : P.underlying t = some (.map e e')) (x : Option Nat) (w : World) : (Op.equal t (.map x) (.map none)).run P w = .ok x.isNone w := by
  cases x <;> (rw [equal_step, Op.equalIn]; simp [run_underlying ht])

theorem eqlOf_sound {hp : List Ch} {d : TypeDesc} {t : TypeId} (ht : P.underlying t = some d) {a b : SC} {e : SX} (h : eqlOf hp d a b = some e) (w : World) :
    (Op.equal t (a.den S ρ) (b.den S ρ)).run P w = .ok (e.den S ρ).toBool w := by
  unfold eqlOf at h
  split at h
  · cases h
    simp only [SC.den]
    rw [equal_bool ht]
    split
    · rename_i a b; simp only [SX.den, U.toBool_bool]; cases a <;> cases b <;> rfl
    · rfl
  · rename_i x o y o'
    cases hx : isNilLit x
    · rw [hx] at h
      cases hy : isNilLit y
      · rw [hy] at h; cases h
      · rw [hy] at h; cases h
        simp only [SC.den, if_pos (isNilLit_den S ρ hy)]
        rw [eLt_bool]
        by_cases hh : (x.den S ρ).toInt < 0
        · rw [if_pos hh, equal_ptr_nil' ht]; simp [hh, SX.den]
        · rw [if_neg hh, equal_ptr_nil' ht]; simp [hh, SX.den]
    · rw [hx] at h; cases h
      simp only [SC.den, if_pos (isNilLit_den S ρ hx)]
      rw [eLt_bool]
      by_cases hh : (y.den S ρ).toInt < 0
      · rw [if_pos hh, equal_ptr_nil ht]; simp [hh, SX.den]
      · rw [if_neg hh, equal_ptr_nil ht]; simp [hh, SX.den]
  · rename_i y _
    cases hy : isNilLit y
    · rw [hy] at h; cases h
    · rw [hy] at h; cases h
      simp only [SC.den, if_pos (isNilLit_den S ρ hy)]
      rw [equal_ptr_nil' ht]; rfl
  · rename_i x _ _ _ _ _ _ y _ _ _ _ _ _
    cases hx : isNilLit x
    · rw [hx] at h
      cases hy : isNilLit y
      · rw [hy] at h; cases h
      · rw [hy] at h; cases h
        simp only [SC.den, if_pos (isNilLit_den S ρ hy)]
        rw [equal_slice_nil' ht, eLt_bool]
        by_cases hh : (x.den S ρ).toInt < 0 <;> simp [hh, SX.den]
    · rw [hx] at h; cases h
      simp only [SC.den, if_pos (isNilLit_den S ρ hx)]
      rw [equal_slice_nil ht, eLt_bool]
      by_cases hh : (y.den S ρ).toInt < 0 <;> simp [hh, SX.den]
  · rename_i x y
    cases hx : isNilLit x
    · rw [hx] at h
      cases hy : isNilLit y
      · rw [hy] at h; cases h
      · rw [hy] at h; cases h
        simp only [SC.den, if_pos (isNilLit_den S ρ hy)]
        rw [equal_map_nil' ht, eLt_bool]
        by_cases hh : (x.den S ρ).toInt < 0 <;> simp [hh, SX.den]
    · rw [hx] at h; cases h
      simp only [SC.den, if_pos (isNilLit_den S ρ hx)]
      rw [equal_map_nil ht, eLt_bool]
      by_cases hh : (y.den S ρ).toInt < 0 <;> simp [hh, SX.den]
  · cases h; rw [equal_step, Op.equalIn]; simp [SC.den, run_underlying ht, SX.den]
  · cases h; rw [equal_step, Op.equalIn]; simp [SC.den, run_underlying ht, SX.den]
  · cases h; rw [equal_step, Op.equalIn]; simp [SC.den, run_underlying ht, SX.den]
  · cases h
end
end Go.Eng
