/- The quiet operations: that what they answer symbolically is what the model does. Part 3. -/
import Derived.Test.YtmjonggabppgaaaEngF
set_option linter.unusedSimpArgs false
set_option linter.unusedVariables false
namespace Go.Eng
open Go.RowKit (Below)

section
variable {G : Type} (S : Sig G) (ρ : Env G) (w0 : World) {P : Program}

theorem ba_eq (a b : List UInt8) : ((⟨a.toArray⟩ : ByteArray).toList == (⟨b.toArray⟩ : ByteArray).toList) = (a == b) := by
  rw [ByteArray.toList_eq, ByteArray.toList_eq]
theorem ba_toList (a : List UInt8) : (⟨a.toArray⟩ : ByteArray).toList = a := by rw [ByteArray.toList_eq]

theorem strBin_sound {op : BinOp} {t : TypeId} {a b : SX} {sv : SV} (h : strBin op a b = some sv) (w : World) :
    (binOp op t (SC.den S ρ (.str a)) (SC.den S ρ (.str b))).run P w = .ok (sv.den S ρ) w := by
  cases op <;> simp only [strBin, Option.some.injEq, reduceCtorEq] at h <;> try contradiction
  all_goals
    cases h
    simp only [SC.den, SV.den, binOp, Op.stringOp, ba_toList, SX.mk1_den, SX.mk2_den, SX.den]
    rfl

def plainV : Value → Bool | .nilIface | .agg _ => false | _ => true
theorem eqGuard_plain (op : BinOp) (t : TypeId) (x y : Operand) (a b : Value) (h : plainV a = true) : eqGuard op t x y a b = pure () := by
  cases op <;> try rfl
  all_goals (cases a <;> first | rfl | (simp [plainV] at h))
theorem run_guard {op : BinOp} {t : TypeId} {x y : Operand} {a b v : Value} {w w' : World} (h : plainV a = true) (hr : (binOp op t a b).run P w = .ok v w') :
    (do eqGuard op t x y a b; binOp op t a b : Sem Value).run P w = .ok v w' := by
  rw [eqGuard_plain op t x y a b h]; exact hr
def plainC : SC → Bool | .int .. | .bool _ | .ptr .. | .ep .. | .slice .. | .str _ | .map _ | .fn _ | .nilfn => true | _ => false
theorem plainC_den {c : SC} (h : plainC c = true) : plainV (c.den S ρ) = true := by
  cases c <;> simp only [plainC] at h <;> try contradiction
  all_goals simp only [SC.den]
  all_goals first | rfl | (split <;> rfl)
theorem eqlOf_plain {hp : List Ch} {d : TypeDesc} {a b : SC} {e : SX} (h : eqlOf hp d a b = some e) : plainC a = true := by
  unfold eqlOf at h
  split at h <;> first | rfl | cases h

theorem binOp_eql {t : TypeId} {a b : SC} (hp : List Ch) (d : TypeDesc) {e : SX} (h : eqlOf hp d a b = some e) : binOp .eql t (a.den S ρ) (b.den S ρ) = (do pure (.bool (← Op.equal t (a.den S ρ) (b.den S ρ)))) := by
  unfold eqlOf at h
  split at h
  · simp [SC.den, binOp]
  · simp only [SC.den]; split <;> split <;> rfl
  · simp only [SC.den]; split <;> rfl
  · rfl
  · rfl
  · rfl
  · rfl
  · rfl
  · cases h
theorem binOp_neq {t : TypeId} {a b : SC} (hp : List Ch) (d : TypeDesc) {e : SX} (h : eqlOf hp d a b = some e) : binOp .neq t (a.den S ρ) (b.den S ρ) = (do pure (.bool (!(← Op.equal t (a.den S ρ) (b.den S ρ))))) := by
  unfold eqlOf at h
  split at h
  · simp [SC.den, binOp]
  · simp only [SC.den]; split <;> split <;> rfl
  · simp only [SC.den]; split <;> rfl
  · rfl
  · rfl
  · rfl
  · rfl
  · rfl
  · cases h

theorem binOpX_sound {hp : List Ch} {asm : List SX} (ha : ∀ x ∈ asm, (x.den S ρ).toProp) {op : BinOp} {t : TypeId} {a b : SV} {va vb : Value} (hra : a.R S ρ va) (hrb : b.R S ρ vb)
    {ns : List SX} {sv : SV} (h : binOpX P hp asm op t a b = some (ns, sv)) (hns : ∀ e ∈ ns, (e.den S ρ).toProp) (x y : Operand) (w : World) :
    (do eqGuard op t x y va vb; binOp op t va vb : Sem Value).run P w = .ok (sv.den S ρ) w := by
  unfold binOpX at h
  split at h
  · rename_i k e1 k2 e2
    cases h
    rw [R_one S ρ hra, R_one S ρ hrb]
    obtain ⟨h0, _⟩ := need_sound S ρ ha hns
    rw [eLe_den] at h0
    simp only [SX.den, U.toInt_int] at h0
    refine run_guard (plainC_den S ρ rfl) ?_
    simp only [SC.den, binOp, Op.shift, SV.den]
    rw [if_neg (by omega)]
    have : ((SX.mk2 (92 + kn k) e1 e2).den S ρ) = .int (k.wrap ((e1.den S ρ).toInt * 2 ^ (min (e2.den S ρ).toInt.toNat k.bits))) := by
      rw [SX.mk2_den]
      simp only [SX.den]; cases k <;> rfl
    rw [this]; rfl
  · rename_i k e1 k2 e2
    cases h
    rw [R_one S ρ hra, R_one S ρ hrb]
    obtain ⟨h0, _⟩ := need_sound S ρ ha hns
    rw [eLe_den] at h0
    simp only [SX.den, U.toInt_int] at h0
    refine run_guard (plainC_den S ρ rfl) ?_
    simp only [SC.den, binOp, Op.shift, SV.den]
    rw [if_neg (by omega)]
    have : ((SX.mk2 (100 + kn k) e1 e2).den S ρ) = .int ((e1.den S ρ).toInt.fdiv (2 ^ (min (e2.den S ρ).toInt.toNat k.bits))) := by
      rw [SX.mk2_den]
      simp only [SX.den]; cases k <;> rfl
    rw [this]; rfl
  · rename_i k e1 k2 e2 hs1 hs2
    cases hk : Nat.beq (kn k) (kn k2)
    · rw [hk] at h; cases h
    · rw [hk] at h
      have := kn_inj (Nat.eq_of_beq_eq_true hk)
      subst this
      rw [R_one S ρ hra, R_one S ρ hrb]
      refine run_guard (plainC_den S ρ rfl) ?_
      simp only [SC.den]
      refine intBin_sound S ρ ha ?_ ?_ h hns w
      · rintro rfl; exact hs1 rfl
      · rintro rfl; exact hs2 rfl
  · split at h
    · rename_i v hv
      cases h
      rw [R_one S ρ hra, R_one S ρ hrb]
      exact run_guard (plainC_den S ρ rfl) (strBin_sound S ρ hv w)
    · cases h
  · split at h
    · rename_i d hd
      split at h
      · rename_i e he
        cases h
        rw [R_one S ρ hra, R_one S ρ hrb]
        refine run_guard (plainC_den S ρ (eqlOf_plain he)) ?_
        rw [binOp_eql S ρ hp d he]
        have e1 := eqlOf_sound S ρ hd he w
        rw [show (do pure (.bool (← Op.equal t _ _)) : Sem Value) = (Op.equal t _ _).bind (fun r => Sem.pure (.bool r)) from rfl, Sem.run_bind', e1]
        rfl
      · cases h
    · cases h
  · split at h
    · rename_i d hd
      split at h
      · rename_i e he
        cases h
        rw [R_one S ρ hra, R_one S ρ hrb]
        refine run_guard (plainC_den S ρ (eqlOf_plain he)) ?_
        rw [binOp_neq S ρ hp d he]
        have e1 := eqlOf_sound S ρ hd he w
        rw [show (do pure (.bool (!(← Op.equal t _ _))) : Sem Value) = (Op.equal t _ _).bind (fun r => Sem.pure (.bool (!r))) from rfl, Sem.run_bind', e1]
        simp only [Result.andThen, SV.den, SC.den, eNot_toBool]
        rfl
      · cases h
    · cases h
  · cases h

/-! ### Addresses -/
theorem fieldAt_run {s : TypeId} {fs : Array Field} {f : Nat} {fd : Field} {n : Nat} (hs : P.underlying s = some (.struct fs)) (hf : fs[f]? = some fd) (hn : szOf P fd.type = some (n + 1)) (b o : Nat) (w : World) :
    (Instr.fieldAt s (.pointer (some ⟨b, o, none⟩)) f).run P w = .ok (.pointer (some ⟨b, o + fd.offset, none⟩)) w := by
  obtain ⟨i, hi, hsz⟩ := szOf_info hn
  simp [Instr.fieldAt, run_underlying hs, hf, Instr.sureAddr, fieldPlace, sizeOf, typeInfo, hi, hsz, Addr.add_eq]

theorem part_run {t : TypeId} {d : TypeDesc} {n : Nat} (hd : P.underlying t = some d) (hn : szOf P t = some n) (cs : List Value) (off : Nat) (hle : off + n ≤ cs.length) (h1 : tyAgg d = false → off < cs.length) (w : World) :
    (part t cs.toArray off).run P w = .ok (if tyAgg d then .agg ((cs.drop off).take n).toArray else (cs.drop off).getD 0 undef) w := by
  have e : part t cs.toArray off = (isAgg t).bind (fun x => if x then ((sizeOf t).bind fun k => Sem.pure (Value.agg (cs.toArray.extract off (off + k)))) else match cs.toArray[off]? with | some v => Sem.pure v | none => stuck "part: no such cell") := by
    unfold part; rfl
  rw [e, Sem.run_bind', run_isAggE hd]
  simp only [Result.andThen]
  cases hag : tyAgg d
  · simp only [Bool.false_eq_true, if_false]
    have := h1 hag
    simp [this, List.getD_eq_getElem?_getD, Sem.run]
  · simp only [if_true]
    rw [Sem.run_bind', run_sizeOfE hn]
    simp [Result.andThen, Sem.run, List.extract_eq_take_drop]

theorem sv_part {d : TypeDesc} {n off : Nat} {cs : List SC} {r : List SX × SV} (h : (bif tyAgg d then some (([] : List SX), SV.agg ((cs.drop off).take n)) else
      (match (cs.drop off) with | c :: _ => some ([], .one c) | [] => none)) = some r) :
    r.2.den S ρ = (if tyAgg d then .agg (((cs.map (SC.den S ρ)).drop off).take n).toArray else ((cs.map (SC.den S ρ)).drop off).getD 0 undef) ∧ (tyAgg d = false → off < cs.length) := by
  cases hag : tyAgg d
  · rw [hag] at h
    simp only [cond_false] at h
    split at h
    · rename_i c l hc
      cases h
      refine ⟨?_, fun _ => ?_⟩
      · rw [← List.map_drop, hc]; rfl
      · rcases Nat.lt_or_ge off cs.length with hlt | hge
        · exact hlt
        · rw [List.drop_eq_nil_of_le hge] at hc; cases hc
    · cases h
  · rw [hag] at h; cases h
    refine ⟨?_, fun h => by cases h⟩
    simp [SV.den, List.map_take, List.map_drop]

theorem sliceBound_run {k : IntKind} {n : Int} {y : Nat} {code : BoundsCode} (h0 : 0 ≤ n) (h1 : n ≤ y) (w : World) : (Instr.sliceBound (.int k n) y code).run P w = .ok n.toNat w := by
  simp [Instr.sliceBound, asIntOf, h0, h1]
theorem intOfSV_den {sv : SV} {e : SX} {v : Value} (h : intOfSV sv = some e) (hr : sv.R S ρ v) : ∃ k, v = .int k (e.den S ρ).toInt := by
  unfold intOfSV at h
  split at h
  · cases h; exact ⟨_, R_one S ρ hr⟩
  · cases h

theorem optInt_den {L : Operand → SV} {ev : Operand → Value} (hL : ∀ x, (L x).R S ρ (ev x)) {x : Option Operand} {r : Option SX} (h : optInt L x = some r) :
    (x = none ∧ r = none ∧ x.map ev = none) ∨ ∃ o e k, x = some o ∧ r = some e ∧ x.map ev = some (.int k (e.den S ρ).toInt) := by
  unfold optInt at h
  split at h
  · cases h; exact .inl ⟨rfl, rfl, rfl⟩
  · rename_i o
    split at h
    · rename_i e he
      cases h
      obtain ⟨k, hk⟩ := intOfSV_den S ρ he (hL o)
      exact .inr ⟨o, e, k, rfl, rfl, by simp [hk]⟩
    · cases h

theorem sliceBounds_run {lo hi mx : Option Value} {l h m : Nat} {len cap : Nat} {b : Bool} {k1 k2 k3 : IntKind} {x1 x2 x3 : Int}
    (hm : (mx = none ∧ m = cap) ∨ (mx = some (.int k3 x3) ∧ 0 ≤ x3 ∧ x3 ≤ cap ∧ m = x3.toNat))
    (hh : (hi = none ∧ mx = none ∧ h = len) ∨ (hi = some (.int k2 x2) ∧ 0 ≤ x2 ∧ x2 ≤ m ∧ h = x2.toNat))
    (hl : (lo = none ∧ l = 0) ∨ (lo = some (.int k1 x1) ∧ 0 ≤ x1 ∧ x1 ≤ h ∧ l = x1.toNat)) (w : World) :
    (Instr.sliceBounds b len cap lo hi mx).run P w = .ok (l, h, m) w := by
  unfold Instr.sliceBounds
  rcases hm with ⟨rfl, rfl⟩ | ⟨rfl, m1, m2, rfl⟩
  · rcases hh with ⟨rfl, _, rfl⟩ | ⟨rfl, h1, h2, rfl⟩
    · rcases hl with ⟨rfl, rfl⟩ | ⟨rfl, l1, l2, rfl⟩
      · rfl
      · simp [sliceBound_run l1 l2]
    · rcases hl with ⟨rfl, rfl⟩ | ⟨rfl, l1, l2, rfl⟩
      · simp [sliceBound_run h1 h2]
      · simp [sliceBound_run h1 h2, sliceBound_run l1 l2]
  · rcases hh with ⟨rfl, hc, rfl⟩ | ⟨rfl, h1, h2, rfl⟩
    · cases hc
    · rcases hl with ⟨rfl, rfl⟩ | ⟨rfl, l1, l2, rfl⟩
      · simp [sliceBound_run m1 m2, sliceBound_run h1 h2]
      · simp [sliceBound_run m1 m2, sliceBound_run h1 h2, sliceBound_run l1 l2]

theorem ite0_den (c z k : SX) : ((ite0 c z k).den S ρ).toInt = if (c.den S ρ).toInt = 0 then (z.den S ρ).toInt else (k.den S ρ).toInt := by
  unfold ite0
  cases h : SX.bq z k
  · simp only [cond_false, SX.mk3_den, SX.mk2_den, SX.den, ap2, ap3, U.toInt_int, U.toBool_bool, beq_iff_eq]
  · rw [SX.bq_eq h]; simp

theorem bnd_sound {asm : List SX} (ha : ∀ x ∈ asm, (x.den S ρ).toProp) {x : Option SX} {up : SX} {ns : List SX} (h : ∀ e ∈ bnd asm x up ns, (e.den S ρ).toProp) :
    (x = none ∨ ∃ q, x = some q ∧ 0 ≤ (q.den S ρ).toInt ∧ (q.den S ρ).toInt ≤ (up.den S ρ).toInt) ∧ ∀ e ∈ ns, (e.den S ρ).toProp := by
  unfold bnd at h
  split at h
  · rename_i q
    obtain ⟨h1, h⟩ := need_sound S ρ ha h
    obtain ⟨h2, h⟩ := need_sound S ρ ha h
    rw [eLe_den] at h1 h2
    exact ⟨.inr ⟨q, rfl, h1, h2⟩, h⟩
  · exact ⟨.inl rfl, h⟩

/-- Reslicing. -/
theorem sliceX_sound {asm : List SX} (ha : ∀ x ∈ asm, (x.den S ρ).toProp) {L : Operand → SV} {ev : Operand → Value} (hL : ∀ x, (L x).R S ρ (ev x))
    {t e : TypeId} {s : Nat} (ht : P.underlying t = some (.slice e)) (hsz : szOf P e = some s) {b o k z l c : SX} {lo hi mx : Option Operand} {lo' hi' mx' : Option SX}
    (hlo : optInt L lo = some lo') (hhi : optInt L hi = some hi') (hmx : optInt L mx = some mx') (hok : mx'.isSome = true → hi'.isSome = true)
    (hns : ∀ x ∈ (sliceX asm b o k z l c s lo' hi' mx').1, (x.den S ρ).toProp) (w : World) :
    (Instr.sliceAt t (SC.den S ρ (.slice b o k z l c s)) (lo.map ev) (hi.map ev) (mx.map ev)).run P w = .ok ((sliceX asm b o k z l c s lo' hi' mx').2.den S ρ) w := by
  have e1 : ∀ x lo hi mx, (Instr.sliceAt t x lo hi mx).run P w = (Instr.slice t x lo hi mx).run P w := fun x lo hi mx => by
    unfold Instr.sliceAt; simp [run_underlying ht]
  rw [e1]
  unfold sliceX at hns ⊢
  simp only at hns ⊢
  obtain ⟨hl0, hns⟩ := need_sound S ρ ha hns
  obtain ⟨hc0, hns⟩ := need_sound S ρ ha hns
  obtain ⟨hk0, hns⟩ := need_sound S ρ ha hns
  obtain ⟨hblo, hns⟩ := bnd_sound S ρ ha hns
  obtain ⟨hbhi, hns⟩ := bnd_sound S ρ ha hns
  obtain ⟨hbmx, hns⟩ := bnd_sound S ρ ha hns
  have hlc : hi' = none → (l.den S ρ).toInt ≤ (c.den S ρ).toInt := fun hn => by
    subst hn
    obtain ⟨h1, _⟩ := need_sound S ρ ha hns
    exact (eLe_den S ρ _ _).1 h1
  rw [eLe_den] at hl0 hc0 hk0
  simp only [SX.den, U.toInt_int] at hl0 hc0 hk0
  generalize hbb : (if (b.den S ρ).toInt < 0 then none else some (⟨(b.den S ρ).toInt.toNat, (o.den S ρ).toInt.toNat + (if (c.den S ρ).toInt = 0 then (z.den S ρ).toInt else (k.den S ρ).toInt).toNat * s, none⟩ : Addr)) = bb
  have hSC : SC.den S ρ (.slice b o k z l c s) = .slice bb (l.den S ρ).toInt.toNat (c.den S ρ).toInt.toNat := by simp only [SC.den]; rw [hbb]
  rw [hSC]
  have hMint : 0 ≤ ((orE mx' c).den S ρ).toInt ∧ ((orE mx' c).den S ρ).toInt ≤ (c.den S ρ).toInt := by
    rcases hbmx with rfl | ⟨q, rfl, h1, h2⟩
    · exact ⟨hc0, Int.le_refl _⟩
    · exact ⟨h1, h2⟩
  have hHint : 0 ≤ ((orE hi' l).den S ρ).toInt := by
    rcases hbhi with rfl | ⟨q, rfl, h1, h2⟩
    · exact hl0
    · exact h1
  have hLint : 0 ≤ ((orE lo' (.int 0)).den S ρ).toInt ∧ ((orE lo' (.int 0)).den S ρ).toInt ≤ ((orE hi' l).den S ρ).toInt := by
    rcases hblo with rfl | ⟨q, rfl, h1, h2⟩
    · exact ⟨Int.le_refl _, hHint⟩
    · exact ⟨h1, h2⟩
  have key : ∃ k1 k2 k3 x1 x2 x3, ((mx.map ev = none ∧ ((orE mx' c).den S ρ).toInt.toNat = (c.den S ρ).toInt.toNat) ∨ (mx.map ev = some (.int k3 x3) ∧ 0 ≤ x3 ∧ x3 ≤ (c.den S ρ).toInt.toNat ∧ ((orE mx' c).den S ρ).toInt.toNat = x3.toNat)) ∧
      ((hi.map ev = none ∧ mx.map ev = none ∧ ((orE hi' l).den S ρ).toInt.toNat = (l.den S ρ).toInt.toNat) ∨ (hi.map ev = some (.int k2 x2) ∧ 0 ≤ x2 ∧ x2 ≤ (((orE mx' c).den S ρ).toInt.toNat : Nat) ∧ ((orE hi' l).den S ρ).toInt.toNat = x2.toNat)) ∧
      ((lo.map ev = none ∧ ((orE lo' (.int 0)).den S ρ).toInt.toNat = 0) ∨ (lo.map ev = some (.int k1 x1) ∧ 0 ≤ x1 ∧ x1 ≤ (((orE hi' l).den S ρ).toInt.toNat : Nat) ∧ ((orE lo' (.int 0)).den S ρ).toInt.toNat = x1.toNat)) := by
    obtain ⟨k3, x3, h3⟩ : ∃ k3 x3, ((mx.map ev = none ∧ mx' = none ∧ ((orE mx' c).den S ρ).toInt.toNat = (c.den S ρ).toInt.toNat) ∨ (mx.map ev = some (.int k3 x3) ∧ mx'.isSome = true ∧ 0 ≤ x3 ∧ x3 ≤ (c.den S ρ).toInt.toNat ∧ ((orE mx' c).den S ρ).toInt.toNat = x3.toNat)) := by
      rcases optInt_den S ρ hL hmx with ⟨rfl, rfl, h3⟩ | ⟨q, x, k3, rfl, rfl, h3⟩
      · exact ⟨.i64, 0, .inl ⟨h3, rfl, rfl⟩⟩
      · refine ⟨k3, _, .inr ⟨h3, rfl, ?_, ?_, rfl⟩⟩
        · rcases hbmx with hc | ⟨q', hq, h1, h2⟩
          · cases hc
          · cases hq; exact h1
        · rcases hbmx with hc | ⟨q', hq, h1, h2⟩
          · cases hc
          · cases hq; omega
    obtain ⟨k2, x2, h2⟩ : ∃ k2 x2, ((hi.map ev = none ∧ hi' = none ∧ ((orE hi' l).den S ρ).toInt.toNat = (l.den S ρ).toInt.toNat) ∨ (hi.map ev = some (.int k2 x2) ∧ 0 ≤ x2 ∧ x2 ≤ (((orE mx' c).den S ρ).toInt.toNat : Nat) ∧ ((orE hi' l).den S ρ).toInt.toNat = x2.toNat)) := by
      rcases optInt_den S ρ hL hhi with ⟨rfl, rfl, h3⟩ | ⟨q, x, k2, rfl, rfl, h3⟩
      · exact ⟨.i64, 0, .inl ⟨h3, rfl, rfl⟩⟩
      · refine ⟨k2, _, .inr ⟨h3, ?_, ?_, rfl⟩⟩
        · rcases hbhi with hc | ⟨q', hq, h1, h2⟩
          · cases hc
          · cases hq; exact h1
        · rcases hbhi with hc | ⟨q', hq, h1, h2⟩
          · cases hc
          · cases hq; omega
    obtain ⟨k1, x1, h1⟩ : ∃ k1 x1, ((lo.map ev = none ∧ ((orE lo' (.int 0)).den S ρ).toInt.toNat = 0) ∨ (lo.map ev = some (.int k1 x1) ∧ 0 ≤ x1 ∧ x1 ≤ (((orE hi' l).den S ρ).toInt.toNat : Nat) ∧ ((orE lo' (.int 0)).den S ρ).toInt.toNat = x1.toNat)) := by
      rcases optInt_den S ρ hL hlo with ⟨rfl, rfl, h3⟩ | ⟨q, x, k1, rfl, rfl, h3⟩
      · exact ⟨.i64, 0, .inl ⟨h3, rfl⟩⟩
      · refine ⟨k1, _, .inr ⟨h3, ?_, ?_, rfl⟩⟩
        · rcases hblo with hc | ⟨q', hq, h1, h2⟩
          · cases hc
          · cases hq; exact h1
        · rcases hblo with hc | ⟨q', hq, h1, h2⟩
          · cases hc
          · cases hq; omega
    refine ⟨k1, k2, k3, x1, x2, x3, ?_, ?_, h1⟩
    · rcases h3 with ⟨a, _, c⟩ | ⟨a, _, c⟩
      · exact .inl ⟨a, c⟩
      · exact .inr ⟨a, c⟩
    · rcases h2 with ⟨a, b', c⟩ | h2
      · refine .inl ⟨a, ?_, c⟩
        rcases h3 with ⟨a3, _, _⟩ | ⟨_, b3, _⟩
        · exact a3
        · exfalso; have := hok b3; rw [b'] at this; cases this
      · exact .inr h2
  obtain ⟨k1, k2, k3, x1, x2, x3, hm, hh, hl⟩ := key
  have hB := sliceBounds_run (P := P) (b := true) hm hh hl w
  have hrun : (Instr.slice t (.slice bb (l.den S ρ).toInt.toNat (c.den S ρ).toInt.toNat) (lo.map ev) (hi.map ev) (mx.map ev)).run P w =
      .ok (.slice (if ((orE mx' c).den S ρ).toInt.toNat = ((orE lo' (.int 0)).den S ρ).toInt.toNat then bb else bb.map (·.add (((orE lo' (.int 0)).den S ρ).toInt.toNat * s)))
        (((orE hi' l).den S ρ).toInt.toNat - ((orE lo' (.int 0)).den S ρ).toInt.toNat) (((orE mx' c).den S ρ).toInt.toNat - ((orE lo' (.int 0)).den S ρ).toInt.toNat)) w := by
    simp [Instr.slice, run_underlying ht, hB, run_sizeOfE hsz]
  rw [hrun]
  simp only [SV.den, SC.den]
  rw [ite0_den, toInt_ap2_40, toInt_ap2_41, toInt_ap2_41]
  have hHM : ((orE hi' l).den S ρ).toInt ≤ ((orE mx' c).den S ρ).toInt := by
    rcases hbhi with rfl | ⟨q, rfl, h1, h2⟩
    · cases mx' with
      | none => exact hlc rfl
      | some m => have := hok rfl; cases this
    · exact h2
  clear hrun hB hm hh hl hblo hbhi hbmx hlc
  obtain ⟨hM1, hM2⟩ := hMint
  obtain ⟨hL1, hL2⟩ := hLint
  generalize ((orE mx' c).den S ρ).toInt = M at hM1 hM2 hHM ⊢
  generalize ((orE hi' l).den S ρ).toInt = H at hHint hL2 hHM ⊢
  generalize ((orE lo' (.int 0)).den S ρ).toInt = LO at hL1 hL2 ⊢
  congr 1
  rw [show (H - LO).toNat = H.toNat - LO.toNat by omega, show (M - LO).toNat = M.toNat - LO.toNat by omega]
  congr 1
  subst hbb
  by_cases hneg : (b.den S ρ).toInt < 0
  · simp [hneg]
  · simp only [hneg, if_false, Option.map_some]
    by_cases hML : M - LO = 0
    · rw [if_pos (show M.toNat = LO.toNat by omega), if_pos hML]
    · rw [if_neg (show ¬ M.toNat = LO.toNat by omega), if_neg hML, Addr.add_eq]
      rw [if_neg (show ¬ (c.den S ρ).toInt = 0 by omega)]
      congr 2
      rw [show ((k.den S ρ).toInt + LO).toNat = (k.den S ρ).toInt.toNat + LO.toNat by omega, Nat.add_mul]
      omega
end
end Go.Eng
