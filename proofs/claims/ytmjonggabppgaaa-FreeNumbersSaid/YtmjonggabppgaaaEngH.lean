/- The quiet operations: that what they answer symbolically is what the model does. Part 4: maps, structs, the whole. -/
import Derived.Test.YtmjonggabppgaaaEngG
set_option linter.unusedSimpArgs false
set_option linter.unusedVariables false
namespace Go.Eng
open Go.RowKit (Below)

def midx : List (Int × Int) → Int → Option Nat
  | [], _ => none
  | (k, _) :: l, x => if k = x then some 0 else (midx l x).map (· + 1)
theorem midx_has (l : List (Int × Int)) (x : Int) : (midx l x).isSome = mhas l x := by
  induction l with
  | nil => rfl
  | cons p l ih => unfold midx mhas; split <;> simp [ih]

theorem findNow_eq {kk k0 : IntKind} {v : Fd} {n : Int} (dflt : Int) : ∀ (es : List MapEntry) (m : List (Int × Int)) (i : Nat),
    es.map (fun e => (e.key, e.val)) = m.map (fun p => (Value.int kk p.1, v.val [p.2])) →
    Instr.findNow (.int k0) (.int kk n) es i = some ((midx m n).map fun j => (i + j, v.val [mget dflt m n]))
  | [], m, i, h => by
    cases m with
    | nil => rfl
    | cons p m => simp at h
  | e :: es, m, i, h => by
    cases m with
    | nil => simp at h
    | cons p m =>
      simp only [List.map_cons, List.cons.injEq, Prod.mk.injEq] at h
      obtain ⟨⟨hk, hv⟩, ht⟩ := h
      have ih := findNow_eq (k0 := k0) (n := n) dflt es m (i + 1) ht
      unfold Instr.findNow
      rw [hk]
      by_cases he : p.1 = n
      · have : Instr.sameNow (.int k0) (.int kk n) (.int kk p.1) = some true := by simp [Instr.sameNow, he]
        rw [this]
        obtain ⟨p1, p2⟩ := p
        simp only at he
        simp only [midx, mget, he, if_true, hv, Option.map_some, Nat.add_zero]
      · have : Instr.sameNow (.int k0) (.int kk n) (.int kk p.1) = some false := by simp [Instr.sameNow, Ne.symm he]
        rw [this]
        obtain ⟨p1, p2⟩ := p
        simp only at he
        simp only [midx, mget, he, if_false, ih, Option.map_map]
        congr 2
        funext j
        simp only [Function.comp]
        congr 1; omega

section
variable {P : Program}
theorem checkKey_int {b : Bool} {kt : TypeId} {k0 : IntKind} (hk : P.underlying kt = some (.int k0)) (v : Value) (w : World) : (Instr.checkKey b 10000 kt v).run P w = .ok () w := by
  rw [show (10000 : Nat) = 9999 + 1 from rfl, Instr.checkKey]
  simp [run_underlying hk]
theorem findKey_int {kt : TypeId} {k0 kk : IntKind} (hk : P.underlying kt = some (.int k0)) {v : Fd} {n : Int} (dflt : Int) (es : List MapEntry) (m : List (Int × Int))
    (h : es.map (fun e => (e.key, e.val)) = m.map (fun p => (Value.int kk p.1, v.val [p.2]))) (w : World) :
    (Instr.findKey kt (.int kk n) es).run P w = .ok ((midx m n).map fun j => (j, v.val [mget dflt m n])) w := by
  have := findNow_eq (k0 := k0) (v := v) (n := n) dflt es m 0 h
  simp [Instr.findKey, run_underlying hk, this]
theorem zeroValue_run {t : TypeId} {i : TypeInfo} {z : Value} (hi : P.info? t = some i) (hz : i.zero = some z) (w : World) : (zeroValue t).run P w = .ok z w := by
  simp [zeroValue, typeInfo, hi, hz]

theorem lookup_run {t kt et : TypeId} {k0 kk : IntKind} (ht : P.underlying t = some (.map kt et)) (hk : P.underlying kt = some (.int k0)) {i : TypeInfo} {z : Value} (hi : P.info? et = some i) (hz : i.zero = some z)
    {w : World} {r : Nat} {es : Array MapEntry} {clock : Nat} (hr : w.heap[r]? = some (.map es clock)) {v : Fd} {n : Int} (dflt : Int) {m : List (Int × Int)}
    (h : es.toList.map (fun e => (e.key, e.val)) = m.map (fun p => (Value.int kk p.1, v.val [p.2]))) (ok : Bool) :
    (Instr.lookup t (.map (some r)) (.int kk n) ok).run P w = .ok (if ok then .tuple #[if mhas m n then v.val [mget dflt m n] else z, .bool (mhas m n)] else (if mhas m n then v.val [mget dflt m n] else z)) w := by
  have e1 := findKey_int (P := P) hk (v := v) (n := n) dflt es.toList m h w
  have hm := midx_has m n
  have hg : (getObj r).run P w = .ok (.map es clock) w := by simp [getObj, Sem.run, hr]
  unfold Instr.lookup
  simp only [go_sem, run_underlying ht, hg, checkKey_int hk, e1, zeroValue_run hi hz]
  cases hx : midx m n with
  | none => rw [hx] at hm; simp at hm; simp [run_underlying ht, hg, checkKey_int hk, e1, zeroValue_run hi hz, hx, hm]
  | some j => rw [hx] at hm; simp at hm; simp [run_underlying ht, hg, checkKey_int hk, e1, zeroValue_run hi hz, hx, hm]

theorem mget_none {m : List (Int × Int)} {n d : Int} (h : mhas m n = false) : mget d m n = d := by
  induction m with
  | nil => rfl
  | cons p m ih =>
    unfold mhas at h; unfold mget
    split at h
    · cases h
    · rw [if_neg (by assumption)]; exact ih h
theorem mget_some {m : List (Int × Int)} {n d d' : Int} (h : mhas m n = true) : mget d m n = mget d' m n := by
  induction m with
  | nil => cases h
  | cons p m ih =>
    unfold mhas at h; unfold mget
    split
    · rfl
    · rename_i hne; rw [if_neg hne] at h; exact ih h
end

section
variable {G : Type} (S : Sig G) (ρ : Env G) (w0 : World) {P : Program}

theorem findMap_mem {b : SX} {kk : IntKind} {v : Fd} {m : SX} : ∀ {hp : List Ch}, findMap b hp = some (kk, v, m) → Ch.map kk v b m ∈ hp
  | [], h => by cases h
  | c :: l, h => by
    cases c with
    | map kk' v' b' m' =>
      simp only [findMap, Bool.cond_eq_ite] at h
      split at h
      · rename_i hb; cases h; rw [← SX.bq_eq hb]; exact List.mem_cons_self
      · exact List.mem_cons_of_mem _ (findMap_mem h)
    | _ => exact List.mem_cons_of_mem _ (findMap_mem (by simpa [findMap] using h))
theorem map_obj {F : HProp} {w : World} {hp : List Ch} {b m : SX} {kk : IntKind} {v : Fd} (hm : Ch.map kk v b m ∈ hp) (hs : Sat w0 (star (hpDen S ρ w0 hp) F) w) :
    0 ≤ (b.den S ρ).toInt ∧ ∃ es clock, mapOk kk v es clock (m.den S ρ).toMap ∧ w.heap[(b.den S ρ).toInt.toNat]? = some (.map es clock) := by
  obtain ⟨H, hH⟩ := hpDen_mem S ρ w0 hm
  rw [hH] at hs
  obtain ⟨h1, hs⟩ := sat_and hs
  obtain ⟨es, hs⟩ := sat_ex hs
  obtain ⟨clock, hs⟩ := sat_ex hs
  obtain ⟨h2, hs⟩ := sat_and hs
  exact ⟨h1, es, clock, h2, hs.obj.2.2.1⟩

theorem litSC_den {v : Value} {c : SC} (h : litSC v = some c) : c.den S ρ = v := by
  unfold litSC at h
  split at h <;> (try cases h) <;> simp [SC.den, SX.den]
theorem litSCs_den : ∀ {vs : List Value} {cs : List SC}, litSCs vs = some cs → cs.map (SC.den S ρ) = vs
  | [], cs, h => by cases h; rfl
  | v :: l, cs, h => by
    unfold litSCs at h
    split at h
    · rename_i c cs' h1 h2
      cases h
      simp [litSC_den S ρ h1, litSCs_den h2]
    · cases h
theorem litSV_R (v : Value) : (litSV v).R S ρ v := by
  have gen : ∀ v : Value, (oneOr (litSC v)).R S ρ v := by
    intro v
    cases h : litSC v with
    | some c => right; simp [oneOr, SV.den, litSC_den S ρ h]
    | none => exact .inl rfl
  unfold litSV
  split
  · split
    · rename_i cs l h; right; simp [SV.den, litSCs_den S ρ h]
    · exact .inl rfl
  · rename_i vs
    cases hs : Nat.beq vs.size 0
    · exact .inl rfl
    · right
      have : vs = #[] := by simpa using Nat.eq_of_beq_eq_true hs
      simp [SV.den, this]
  · exact gen _

theorem svCells_den {sv : SV} {ps : List SC} {v : Value} (h : svCells sv = some ps) (hr : sv.R S ρ v) : v.cells.toList = ps.map (SC.den S ρ) := by
  unfold svCells at h
  split at h
  · rename_i c
    cases h
    rw [R_one S ρ hr]
    have : ∀ x : SC, (x.den S ρ).cells = #[x.den S ρ] := by
      intro x
      induction x with
      | cap g x ih _ =>
        simp only [SC.den]
        split
        · rfl
        · exact ih
      | ptr b o => simp only [SC.den]; split <;> rfl
      | _ => rfl
    rw [this]; rfl
  · cases h; rw [R_agg S ρ hr]; simp [Value.cells]
  · cases h

theorem putCells_den : ∀ (cs : List SC) (n : Nat) (ps r : List SC), putCells cs n ps = some r →
    n + ps.length ≤ cs.length ∧ r.length = cs.length ∧ r.map (SC.den S ρ) = (cs.map (SC.den S ρ)).take n ++ ps.map (SC.den S ρ) ++ (cs.map (SC.den S ρ)).drop (n + ps.length) := by
  intro cs n ps
  fun_induction putCells cs n ps with
  | case1 cs => intro r h; cases h; simp
  | case2 p ps c cs r' h ih =>
    intro r hr; cases hr
    obtain ⟨h1, h2, h3⟩ := ih _ h
    refine ⟨by simp; omega, by simp [h2], ?_⟩
    simp [h3]
  | case3 => intro r h; cases h
  | case4 => intro r h; cases h
  | case5 c cs n ps r' h ih =>
    intro r hr; cases hr
    obtain ⟨h1, h2, h3⟩ := ih _ h
    refine ⟨by simp; omega, by simp [h2], ?_⟩
    rw [List.map_cons, h3]
    simp [Nat.succ_add]
  | case6 => intro r h; cases h
  | case7 => intro r h; cases h

theorem foldl_put (off : Nat) : ∀ (vs : List Value) (k : Nat) (cs : Array Value), off + k + vs.length ≤ cs.size →
    ((vs.zipIdx k).foldl (fun cs (p : Value × Nat) => cs.setIfInBounds (off + p.2) p.1) cs).toList = cs.toList.take (off + k) ++ vs ++ cs.toList.drop (off + k + vs.length)
  | [], k, cs, h => by simp
  | v :: vs, k, cs, h => by
    simp only [List.zipIdx_cons, List.foldl_cons]
    rw [foldl_put off vs (k + 1) _ (by simp at h ⊢; omega)]
    simp only [Array.toList_setIfInBounds, List.length_cons]
    simp only [List.length_cons] at h
    have hlt : off + k < cs.toList.length := by simp; omega
    apply List.ext_getElem?
    intro i
    simp only [List.getElem?_append, List.length_take, List.length_append, List.length_set, List.getElem?_take, List.getElem?_drop, List.length_cons, Array.length_toList]
    have hsz : (off + (k + 1)) ≤ cs.size := by omega
    rw [Nat.min_eq_left hsz, Nat.min_eq_left (show off + k ≤ cs.size by omega)]
    by_cases h1 : i < off + k
    · rw [if_pos (show i < off + (k + 1) + vs.length by omega), if_pos (show i < off + (k + 1) by omega), if_pos (show i < off + (k + 1) by omega), if_pos (show i < off + k + (vs.length + 1) by omega), if_pos h1, if_pos h1]
      rw [List.getElem?_set_ne (by omega)]
    · by_cases h2 : i = off + k
      · subst h2
        rw [if_pos (show off + k < off + (k + 1) + vs.length by omega), if_pos (show off + k < off + (k + 1) by omega), if_pos (show off + k < off + (k + 1) by omega), if_pos (show off + k < off + k + (vs.length + 1) by omega), if_neg h1]
        rw [List.getElem?_set_self (by simpa using hlt)]
        simp
      · by_cases h3 : i < off + (k + 1) + vs.length
        · rw [if_pos h3, if_neg (show ¬ i < off + (k + 1) by omega), if_pos (show i < off + k + (vs.length + 1) by omega), if_neg h1]
          rw [show i - (off + k) = (i - (off + (k + 1))) + 1 by omega, List.getElem?_cons_succ]
        · rw [if_neg h3, if_neg (show ¬ i < off + k + (vs.length + 1) by omega)]
          rw [List.getElem?_set_ne (by omega)]
          congr 1; omega

theorem fillX_sound {place : Nat → Option (Nat × Nat)} {L : Operand → SV} {ev : Operand → Value} (hL : ∀ x, (L x).R S ρ (ev x)) :
    ∀ (parts : List (Nat × Operand)) (cs r : List SC), fillX place L cs parts = some r →
      Instr.fill place (cs.map (SC.den S ρ)).toArray (parts.map fun (i, x) => (i, ev x)) = some (r.map (SC.den S ρ)).toArray
  | [], cs, r, h => by cases h; rfl
  | (i, x) :: rest, cs, r, h => by
    unfold fillX at h
    split at h
    · rename_i off size ps h1 h2
      cases hb : Nat.beq ps.length size
      · rw [hb] at h; cases h
      · rw [hb] at h
        simp only [cond_true] at h
        split at h
        · rename_i cs' h3
          have ih := fillX_sound hL rest cs' r h
          obtain ⟨hle, hlen, hmap⟩ := putCells_den S ρ _ _ _ _ h3
          have hc := svCells_den S ρ h2 (hL x)
          have hsz : (ev x).cells.size = ps.length := by rw [← Array.length_toList, hc]; simp
          simp only [List.map_cons, Instr.fill, h1]
          rw [if_neg]
          · have e : ((ev x).cells.zipIdx.foldl (fun cs (p : Value × Nat) => cs.setIfInBounds (off + p.2) p.1) (cs.map (SC.den S ρ)).toArray) = (cs'.map (SC.den S ρ)).toArray := by
              apply Array.ext'
              rw [← Array.foldl_toList, Array.toList_zipIdx, foldl_put off _ 0 _ (by rw [hc]; simp; omega), hc, hmap]
              simp
            have e2 : (Array.foldl (fun cs x => match x with | (c, j) => cs.setIfInBounds (off + j) c) (cs.map (SC.den S ρ)).toArray (ev x).cells.zipIdx) = (cs'.map (SC.den S ρ)).toArray := e
            rw [e2]; exact ih
          · rw [hsz, Nat.eq_of_beq_eq_true hb]
            have := Nat.eq_of_beq_eq_true hb
            simp; omega
        · cases h
    · cases h
end
end Go.Eng
