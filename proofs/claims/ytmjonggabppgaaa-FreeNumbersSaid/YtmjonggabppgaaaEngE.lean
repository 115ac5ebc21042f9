/- The quiet operations: that what they answer symbolically is what the model does. Part 1: memory, contents, terms. -/
import Derived.Test.YtmjonggabppgaaaEngD
import Derived.WalkKit
set_option linter.unusedSimpArgs false
set_option linter.unusedVariables false
namespace Go.Eng
open Go.RowKit (Below)

section
variable {G : Type} (S : Sig G) (ρ : Env G) (w0 : World)

theorem hpDen_mem {hp : List Ch} {c : Ch} (h : c ∈ hp) : ∃ H, ∀ F, star (hpDen S ρ w0 hp) F = star (c.den S ρ w0) (star H F) := by
  obtain ⟨l, m, rfl⟩ := List.append_of_mem h
  refine ⟨big ((l ++ m).map (Ch.den S ρ w0)), fun F => ?_⟩
  unfold hpDen
  rw [List.map_append, List.map_cons, big_pick, star_assoc, List.map_append]

theorem sat_and {w0 w : World} {p : Prop} {A H : HProp} (h : Sat w0 (star (fun x => p ∧ A x) H) w) : p ∧ Sat w0 (star A H) w := by
  obtain ⟨x, ⟨a, b, d, rfl, ⟨hp, ha⟩, hb⟩, hi⟩ := h
  exact ⟨hp, _, ⟨a, b, d, rfl, ha, hb⟩, hi⟩
theorem sat_and_mk {w0 w : World} {p : Prop} {A H : HProp} (hp : p) (h : Sat w0 (star A H) w) : Sat w0 (star (fun x => p ∧ A x) H) w := by
  obtain ⟨x, ⟨a, b, d, rfl, ha, hb⟩, hi⟩ := h
  exact ⟨_, ⟨a, b, d, rfl, ⟨hp, ha⟩, hb⟩, hi⟩
theorem sat_ex {w0 w : World} {α : Type} {A : α → HProp} {H : HProp} (h : Sat w0 (star (fun x => ∃ i, A i x) H) w) : ∃ i, Sat w0 (star (A i) H) w := by
  obtain ⟨x, ⟨a, b, d, rfl, ⟨i, ha⟩, hb⟩, hi⟩ := h
  exact ⟨i, _, ⟨a, b, d, rfl, ha, hb⟩, hi⟩
theorem sat_ex_mk {w0 w : World} {α : Type} {A : α → HProp} {H : HProp} (i : α) (h : Sat w0 (star (A i) H) w) : Sat w0 (star (fun x => ∃ i, A i x) H) w := by
  obtain ⟨x, ⟨a, b, d, rfl, ha, hb⟩, hi⟩ := h
  exact ⟨_, ⟨a, b, d, rfl, ⟨i, ha⟩, hb⟩, hi⟩
theorem sat_pure {w0 w : World} {p : Prop} {H : HProp} (h : Sat w0 (star (HProp.pure p) H) w) : p ∧ Sat w0 H w := by
  obtain ⟨x, hx, hi⟩ := h
  rw [star_pure] at hx
  exact ⟨hx.1, x, hx.2, hi⟩

theorem SX.bqP {a b : SX} (h : SX.bq a b = true) : a = b := SX.bq_eq h

theorem findCel_sound {b : SX} {lo n : Nat} : ∀ {hp : List Ch} {cs : List SC}, findCel b lo n hp = some cs →
    ∃ o cs', Ch.cel b o cs' ∈ hp ∧ o ≤ lo ∧ lo + n ≤ o + cs'.length ∧ cs = (cs'.drop (lo - o)).take n
  | [], cs, h => by cases h
  | c :: l, cs, h => by
    have ih := fun h => findCel_sound (b := b) (lo := lo) (n := n) (hp := l) (cs := cs) h
    have lift : (∃ o cs', Ch.cel b o cs' ∈ l ∧ o ≤ lo ∧ lo + n ≤ o + cs'.length ∧ cs = (cs'.drop (lo - o)).take n) →
      (∃ o cs', Ch.cel b o cs' ∈ c :: l ∧ o ≤ lo ∧ lo + n ≤ o + cs'.length ∧ cs = (cs'.drop (lo - o)).take n) := fun ⟨o, cs', h1, h2⟩ => ⟨o, cs', List.mem_cons_of_mem _ h1, h2⟩
    cases c with
    | cel b' o cs' =>
      simp only [findCel, Bool.cond_eq_ite] at h
      split at h
      · rename_i hb
        split at h
        · rename_i h1
          split at h
          · rename_i h2
            cases h
            rw [← SX.bq_eq hb]
            exact ⟨o, cs', List.mem_cons_self, Nat.le_of_ble_eq_true h1, Nat.le_of_ble_eq_true h2, rfl⟩
          · exact lift (ih h)
        · exact lift (ih h)
      · exact lift (ih h)
    | _ => simp only [findCel] at h; exact lift (ih h)

theorem allInts_get {k : IntKind} : ∀ {l : List SC} {es : List SX}, allInts k l = some es → es.length = l.length ∧ ∀ (i : Nat) (c : SC), l[i]? = some c → ∃ e, es[i]? = some e ∧ c = SC.int k e
  | [], es, h => by cases h; exact ⟨rfl, fun i c h => by simp at h⟩
  | c :: l, es, h => by
    cases c <;> simp only [allInts, reduceCtorEq] at h
    rename_i k' e
    cases hk : Nat.beq (kn k) (kn k')
    · rw [hk] at h; cases h
    · rw [hk] at h
      have := kn_inj (Nat.eq_of_beq_eq_true hk)
      subst this
      simp only [cond_true] at h
      split at h
      · rename_i r hr
        cases h
        obtain ⟨h1, h2⟩ := allInts_get hr
        refine ⟨by simp [h1], fun i c hc => ?_⟩
        cases i with
        | zero => simp at hc; exact ⟨e, by simp, hc.symm⟩
        | succ i => simpa using h2 i c (by simpa using hc)
      · cases h
theorem celInts_sound {b : SX} {lo : Nat} : ∀ {hp : List Ch} {k : IntKind} {es : List SX}, celInts b lo hp = some (k, es) →
    ∃ o cs, Ch.cel b o cs ∈ hp ∧ o ≤ lo ∧ es.length = (cs.drop (lo - o)).length ∧ ∀ (i : Nat) (c : SC), (cs.drop (lo - o))[i]? = some c → ∃ e, es[i]? = some e ∧ c = SC.int k e
  | [], _, _, h => nomatch h
  | c :: l, k, es, h => by
    have lift : celInts b lo l = some (k, es) → ∃ o cs, Ch.cel b o cs ∈ c :: l ∧ o ≤ lo ∧ es.length = (cs.drop (lo - o)).length ∧ ∀ (i : Nat) (c : SC), (cs.drop (lo - o))[i]? = some c → ∃ e, es[i]? = some e ∧ c = SC.int k e := fun h =>
      let ⟨o, cs, h1, h2⟩ := celInts_sound h; ⟨o, cs, List.mem_cons_of_mem _ h1, h2⟩
    cases c with
    | cel b' o cs =>
      simp only [celInts] at h
      cases h1 : SX.bq b' b
      · rw [h1] at h; exact lift h
      cases h2 : Nat.ble o lo
      · rw [h1, h2] at h; exact lift h
      rw [h1, h2] at h
      simp only [cond_true] at h
      have hb := SX.bq_eq h1
      subst hb
      split at h
      · rename_i k' e r hd
        split at h
        · rename_i q hq
          cases h
          obtain ⟨g1, g2⟩ := allInts_get hq
          refine ⟨o, cs, List.mem_cons_self, Nat.le_of_ble_eq_true h2, by rw [hd]; simp [g1], fun i c hc => ?_⟩
          rw [hd] at hc
          cases i with
          | zero => simp at hc; exact ⟨e, by simp, hc.symm⟩
          | succ i => simpa using g2 i c (by simpa using hc)
        · exact lift h
      · exact lift h
    | _ => exact lift h
theorem cel_cells {F : HProp} {w : World} {hp : List Ch} {b : SX} {o : Nat} {cs : List SC} (hm : Ch.cel b o cs ∈ hp) (hs : Sat w0 (star (hpDen S ρ w0 hp) F) w) :
    (cs ≠ [] → 0 ≤ (b.den S ρ).toInt) ∧ ∀ i c, cs[i]? = some c → w.cell? ⟨(b.den S ρ).toInt.toNat, o + i, none⟩ = some (c.den S ρ) ∧ w.frozen? ⟨(b.den S ρ).toInt.toNat, o + i, none⟩ = false := by
  obtain ⟨H, hH⟩ := hpDen_mem S ρ w0 hm
  rw [hH] at hs
  obtain ⟨h1, h2⟩ := sat_and hs
  refine ⟨fun hne => h1.resolve_right hne, fun i c hc => ?_⟩
  have hlt : i < (cs.map (SC.den S ρ)).length := by
    rw [List.length_map]
    exact (List.getElem?_eq_some_iff.1 hc).1
  have := h2.load hlt
  rw [List.getElem_map] at this
  rw [(List.getElem?_eq_some_iff.1 hc).2] at this
  exact this

theorem rowVals_get (fs : List Fd) (r : List Int) : (rowVals fs r).length = fs.length := rowVals_length fs r

theorem flatMap_get {α : Type} (f : α → List Value) (s : Nat) (hf : ∀ a, (f a).length = s) : ∀ (l : List α) (i j : Nat), j < s → (l.flatMap f)[i * s + j]? = (l[i]?).bind fun a => (f a)[j]?
  | [], i, j, _ => by simp
  | a :: l, 0, j, hj => by
    simp [List.flatMap_cons, List.getElem?_append_left (show j < (f a).length by rw [hf]; exact hj)]
  | a :: l, i + 1, j, hj => by
    rw [List.flatMap_cons, List.getElem?_append_right (by rw [hf, Nat.succ_mul]; omega), hf, show (i + 1) * s + j - s = i * s + j by rw [Nat.succ_mul]; omega, flatMap_get f s hf l i j hj]
    simp
theorem flatMap_length {α : Type} (f : α → List Value) (s : Nat) (hf : ∀ a, (f a).length = s) : ∀ (l : List α), (l.flatMap f).length = l.length * s
  | [] => by simp
  | a :: l => by rw [List.flatMap_cons, List.length_append, hf, flatMap_length f s hf l, List.length_cons, Nat.succ_mul, Nat.add_comm]

theorem En.vals_length (e : En) (u : U G) : (e.vals u).length = e.len u * e.stride := by
  cases e with
  | ints k => simp [En.vals, En.len, En.stride]
  | bytes => simp [En.vals, En.len, En.stride]
  | rows fs => exact flatMap_length (rowVals fs) fs.length (rowVals_length fs) _

theorem En.lenX_den (e : En) (x : SX) : ((e.lenX x).den S ρ) = .int (e.len (x.den S ρ)) := by
  unfold En.lenX
  rw [SX.mk1_den]
  cases e <;> rfl


theorem toInt_toNat_ofNat (q : Nat) : (SX.den S ρ (.int (.ofNat q))).toInt.toNat = q := rfl

theorem Fd.sc_den (f : Fd) (x i : SX) (p : Nat) :
    (f.sc x i p).den S ρ = f.val (((x.den S ρ).toRows.getD (i.den S ρ).toInt.toNat []).drop p) := by
  have g : ∀ q, ((nthR x i (.int (.ofNat (p + q)))).den S ρ).toInt = (((x.den S ρ).toRows.getD (i.den S ρ).toInt.toNat []).drop p).getD q 0 := fun q => by
    rw [nthR_den]
    have e : (SX.den S ρ (.int (.ofNat (p + q)))).toInt.toNat = p + q := rfl
    rw [e]; simp [List.getD_eq_getElem?_getD]
  have g0 := g 0
  rw [Nat.add_zero] at g0
  cases f with
  | int k => simp only [Fd.sc, SC.den, Fd.val]; rw [g0]
  | bool =>
    simp only [Fd.sc, SC.den, Fd.val]
    rw [SX.mk1_den]
    simp only [SX.den, ap1]
    rw [SX.mk2_den]
    simp only [SX.den, ap2, U.toBool_bool, U.toInt_int]
    rw [g0]; rfl
  | ptr => simp only [Fd.sc, SC.den, Fd.val]; rw [g0]
  | slice s => simp only [Fd.sc, SC.den, Fd.val]; rw [g0, g 1, g 2]; simp [SX.den]
  | map => simp only [Fd.sc, SC.den, Fd.val]; rw [g0]

theorem rowSC_den : ∀ (fs : List Fd) (x i : SX) (p : Nat), (rowSC fs x i p).map (SC.den S ρ) = rowVals fs (((x.den S ρ).toRows.getD (i.den S ρ).toInt.toNat []).drop p)
  | [], _, _, _ => rfl
  | f :: fs, x, i, p => by
    simp only [rowSC, List.map_cons, rowVals]
    rw [Fd.sc_den, rowSC_den fs x i (p + f.width), List.drop_drop]

/-- The cells of element i. -/
theorem En.get_den (e : En) (x i : SX) (hi : (i.den S ρ).toInt.toNat < e.len (x.den S ρ)) (j : Nat) (hj : j < e.stride) :
    ((e.get x i).map (SC.den S ρ))[j]? = (e.vals (x.den S ρ))[(i.den S ρ).toInt.toNat * e.stride + j]? := by
  cases e with
  | ints k =>
    simp only [En.stride] at hj
    have : j = 0 := by omega
    subst this
    simp only [En.len] at hi
    simp only [En.get, En.vals, En.stride, Nat.mul_one, Nat.add_zero, List.map_cons, List.map_nil, List.getElem?_cons_zero, SC.den]
    rw [nthI_den, List.getElem?_map, List.getElem?_eq_getElem hi]
    simp [List.getD_eq_getElem?_getD, List.getElem?_eq_getElem hi]
  | bytes =>
    simp only [En.stride] at hj
    have : j = 0 := by omega
    subst this
    simp only [En.len] at hi
    simp only [En.get, En.vals, En.stride, Nat.mul_one, Nat.add_zero, List.map_cons, List.map_nil, List.getElem?_cons_zero, SC.den]
    rw [nthB_den]
    simp only [SX.den, ap2]
    rw [List.getElem?_map, List.getElem?_eq_getElem hi]
    simp [List.getD_eq_getElem?_getD, List.getElem?_eq_getElem hi]
  | rows fs =>
    simp only [En.stride] at hj
    simp only [En.len] at hi
    simp only [En.get, En.vals, En.stride]
    rw [rowSC_den, flatMap_get (rowVals fs) fs.length (rowVals_length fs) _ _ _ hj, List.getElem?_eq_getElem hi]
    simp [List.getD_eq_getElem?_getD, List.getElem?_eq_getElem hi]
theorem En.get_length (e : En) (x i : SX) : (e.get x i).length = e.stride := by
  cases e with
  | ints k => rfl
  | bytes => rfl
  | rows fs =>
    have h : ∀ (fs : List Fd) p, (rowSC fs x i p).length = fs.length := by
      intro fs; induction fs with
      | nil => intro p; rfl
      | cons f fs ih => intro p; simp [rowSC, ih]
    exact h fs 0

theorem findArr_sound {b o : SX} {s : Nat} : ∀ {hp : List Ch} {e : En} {x : SX}, findArr b o s hp = some (e, x) →
    e.stride = s ∧ ((∃ c, Ch.arr e b x c ∈ hp ∧ o = .int 0) ∨ Ch.ro e b o x ∈ hp ∨ ∃ j c, Ch.rd j e b o x c ∈ hp)
  | [], e, x, h => by cases h
  | c :: l, e, x, h => by
    have ih := fun h => findArr_sound (b := b) (o := o) (s := s) (hp := l) (e := e) (x := x) h
    have lift : (e.stride = s ∧ ((∃ c, Ch.arr e b x c ∈ l ∧ o = .int 0) ∨ Ch.ro e b o x ∈ l ∨ ∃ j c, Ch.rd j e b o x c ∈ l)) →
      (e.stride = s ∧ ((∃ c', Ch.arr e b x c' ∈ c :: l ∧ o = .int 0) ∨ Ch.ro e b o x ∈ c :: l ∨ ∃ j c', Ch.rd j e b o x c' ∈ c :: l)) :=
      fun ⟨h0, h1⟩ => ⟨h0, h1.imp (fun ⟨c, h2, h3⟩ => ⟨c, List.mem_cons_of_mem _ h2, h3⟩) (fun h => h.imp (List.mem_cons_of_mem _) (fun ⟨j, c, h2⟩ => ⟨j, c, List.mem_cons_of_mem _ h2⟩))⟩
    cases c with
    | arr e' b' x' c' =>
      simp only [findArr, Bool.cond_eq_ite] at h
      split at h
      · rename_i hb
        split at h
        · rename_i h1
          split at h
          · rename_i h2
            cases h
            rw [← SX.bq_eq hb]
            exact ⟨(Nat.eq_of_beq_eq_true h2).symm, .inl ⟨c', List.mem_cons_self, SX.bq_eq h1⟩⟩
          · exact lift (ih h)
        · exact lift (ih h)
      · exact lift (ih h)
    | ro e' b' o' x' =>
      simp only [findArr, Bool.cond_eq_ite] at h
      split at h
      · rename_i hb
        split at h
        · rename_i h1
          split at h
          · rename_i h2
            cases h
            rw [← SX.bq_eq hb, SX.bq_eq h1]
            exact ⟨(Nat.eq_of_beq_eq_true h2).symm, .inr (.inl List.mem_cons_self)⟩
          · exact lift (ih h)
        · exact lift (ih h)
      · exact lift (ih h)
    | rd j' e' b' o' x' c' =>
      simp only [findArr, Bool.cond_eq_ite] at h
      split at h
      · rename_i hb
        split at h
        · rename_i h1
          split at h
          · rename_i h2
            cases h
            rw [← SX.bq_eq hb, SX.bq_eq h1]
            exact ⟨(Nat.eq_of_beq_eq_true h2).symm, .inr (.inr ⟨j', c', List.mem_cons_self⟩)⟩
          · exact lift (ih h)
        · exact lift (ih h)
      · exact lift (ih h)
    | _ => simp only [findArr] at h; exact lift (ih h)

theorem arrDen_cells {w : World} {H : HProp} {e : En} {b x c : U G} (hs : Sat w0 (star (arrDen S e b x c) H) w) :
    (e.vals x ≠ [] → 0 ≤ b.toInt) ∧ ∀ i v, (e.vals x)[i]? = some v → w.cell? ⟨b.toInt.toNat, i, none⟩ = some v := by
  obtain ⟨spare, hs⟩ := sat_ex hs
  obtain ⟨e1, hs⟩ := sat_and hs
  obtain ⟨e2, hs⟩ := sat_and hs
  obtain ⟨e3, hs⟩ := sat_and hs
  refine ⟨fun hne => e3.resolve_right fun hc => hne ?_, fun i v hv => ?_⟩
  · rw [hc] at e1; simp at e1; exact e1.1
  · have hlt : i < (e.vals x ++ spare).length := by
      have := (List.getElem?_eq_some_iff.1 hv).1
      simp; omega
    have := (hs.load hlt).1
    rw [Nat.zero_add] at this
    rw [this, List.getElem_append_left (List.getElem?_eq_some_iff.1 hv).1, (List.getElem?_eq_some_iff.1 hv).2]
theorem roDen_cells {w : World} {H : HProp} {e : En} {b o x : U G} (hs : Sat w0 (star (roDen S w0 e b o x) H) w) :
    (e.vals x ≠ [] → 0 ≤ b.toInt) ∧ ∀ i v, (e.vals x)[i]? = some v → w.cell? ⟨b.toInt.toNat, o.toInt.toNat + i, none⟩ = some v := by
  obtain ⟨hp1, hs⟩ := sat_pure hs
  obtain ⟨hp0, hp⟩ := hp1
  refine ⟨fun hne => hp0.resolve_right hne, fun i v hv => ?_⟩
  have := hp i v hv
  rw [hs.below.cell this.1]; exact this.2

/-- What stands in the cells of an array that is held or may be read. -/
theorem arr_cells {F : HProp} {w : World} {hp : List Ch} {b o x : SX} {s : Nat} {e : En} (hf : findArr b o s hp = some (e, x)) (hs : Sat w0 (star (hpDen S ρ w0 hp) F) w) :
    e.stride = s ∧ (e.vals (x.den S ρ) ≠ [] → 0 ≤ (b.den S ρ).toInt) ∧ ∀ i v, (e.vals (x.den S ρ))[i]? = some v → w.cell? ⟨(b.den S ρ).toInt.toNat, (o.den S ρ).toInt.toNat + i, none⟩ = some v := by
  obtain ⟨h0, h1⟩ := findArr_sound hf
  refine ⟨h0, ?_⟩
  rcases h1 with ⟨c, hm, rfl⟩ | hm | ⟨j, c, hm⟩
  · obtain ⟨H, hH⟩ := hpDen_mem S ρ w0 hm
    rw [hH] at hs
    obtain ⟨h1, h2⟩ := arrDen_cells S w0 hs
    refine ⟨h1, fun i v hv => ?_⟩
    have := h2 i v hv
    rw [show (SX.den S ρ (.int 0)).toInt.toNat = 0 from rfl, Nat.zero_add]; exact this
  · obtain ⟨H, hH⟩ := hpDen_mem S ρ w0 hm
    rw [hH] at hs
    exact roDen_cells S w0 hs
  · obtain ⟨H, hH⟩ := hpDen_mem S ρ w0 hm
    rw [hH] at hs
    simp only [Ch.den] at hs
    cases hc : S.ch j
    · rw [hc] at hs
      obtain ⟨ho, hs⟩ := sat_and hs
      obtain ⟨h1, h2⟩ := arrDen_cells S w0 hs
      refine ⟨h1, fun i v hv => ?_⟩
      rw [ho]; have := h2 i v hv; simpa using this
    · rw [hc] at hs
      exact roDen_cells S w0 hs

theorem inAsm_mem {e : SX} : ∀ {l : List SX}, inAsm e l = true → e ∈ l
  | [], h => by cases h
  | x :: l, h => by
    simp only [inAsm, Bool.cond_eq_ite] at h
    split at h
    · rename_i hb; rw [SX.bq_eq hb]; exact List.mem_cons_self
    · exact List.mem_cons_of_mem _ (inAsm_mem h)
theorem triv_sound {e : SX} (h : triv e = true) : (e.den S ρ).toProp := by
  unfold triv at h
  split at h
  · split at h <;> first | (cases h; done) | (simp only [SX.den, ap2, ap1, U.toProp_bool, U.toInt_int]; simp)
  · cases h
theorem need_sound {asm ns : List SX} {e : SX} (ha : ∀ x ∈ asm, (x.den S ρ).toProp) (h : ∀ x ∈ need asm e ns, (x.den S ρ).toProp) : (e.den S ρ).toProp ∧ ∀ x ∈ ns, (x.den S ρ).toProp := by
  unfold need at h
  split at h
  · exact ⟨rfl, h⟩
  · cases ht : triv e
    case true => rw [ht] at h; exact ⟨triv_sound S ρ ht, h⟩
    rw [ht] at h
    cases h1 : inAsm e asm
    · rw [h1] at h
      cases h2 : inAsm e ns
      · rw [h2] at h; exact ⟨h e List.mem_cons_self, fun x hx => h x (List.mem_cons_of_mem _ hx)⟩
      · rw [h2] at h; exact ⟨h e (inAsm_mem h2), h⟩
    · rw [h1] at h; exact ⟨ha e (inAsm_mem h1), h⟩

theorem eLe_den (a b : SX) : ((eLe a b).den S ρ).toProp ↔ (a.den S ρ).toInt ≤ (b.den S ρ).toInt := by
  unfold eLe; rw [SX.mk2_den]; simp [SX.den, ap2, U.toProp]
theorem eLt_den (a b : SX) : ((eLt a b).den S ρ).toProp ↔ (a.den S ρ).toInt < (b.den S ρ).toInt := by
  unfold eLt; rw [SX.mk2_den]; simp [SX.den, ap2, U.toProp]
theorem eLe_bool (a b : SX) : ((eLe a b).den S ρ) = .bool (decide ((a.den S ρ).toInt ≤ (b.den S ρ).toInt)) := by
  unfold eLe; rw [SX.mk2_den]; simp [SX.den, ap2]
theorem eLt_bool (a b : SX) : ((eLt a b).den S ρ) = .bool (decide ((a.den S ρ).toInt < (b.den S ρ).toInt)) := by
  unfold eLt; rw [SX.mk2_den]; simp [SX.den, ap2]
theorem eEq_bool (a b : SX) : ((eEq a b).den S ρ) = .bool ((a.den S ρ).toInt == (b.den S ρ).toInt) := by
  unfold eEq
  cases h : SX.bq a b
  · simp only [cond_false]; rw [SX.mk2_den]; simp [SX.den, ap2]
  · rw [SX.bq_eq h]; simp [SX.den]
theorem eNot_bool (a : SX) : ∃ b, (eNot a).den S ρ = .bool b ∧ b = !((a.den S ρ).toBool) := by
  unfold eNot
  split
  · rename_i x y
    refine ⟨_, by rw [SX.mk2_den]; rfl, ?_⟩
    simp only [SX.den, ap2, U.toBool]
    rw [Bool.eq_iff_iff]; simp
  · rename_i x y
    refine ⟨_, by rw [SX.mk2_den]; rfl, ?_⟩
    simp only [SX.den, ap2, U.toBool]
    rw [Bool.eq_iff_iff]; simp
  · split
    · exact ⟨_, rfl, by simp [SX.den, ap1, ap2, U.toBool]⟩
    · exact ⟨_, rfl, by simp [SX.den, ap1, U.toBool]⟩
  · exact ⟨_, by rw [SX.mk1_den]; rfl, rfl⟩
theorem eNot_toBool (a : SX) : ((eNot a).den S ρ).toBool = !((a.den S ρ).toBool) := by
  obtain ⟨b, h1, h2⟩ := eNot_bool S ρ a; rw [h1]; exact h2
theorem eNot_den (a : SX) : ((eNot a).den S ρ).toProp ↔ (a.den S ρ).toBool = false := by
  obtain ⟨b, h1, h2⟩ := eNot_bool S ρ a; rw [h1]; simp [U.toProp, h2]

theorem held_sound {F : HProp} {w : World} {b : SX} : ∀ {hp : List Ch}, held b hp = true → Sat w0 (star (hpDen S ρ w0 hp) F) w → 0 ≤ (b.den S ρ).toInt := by
  intro hp h hs
  have key : ∀ (l : List Ch), held b l = true → (∃ o c cs, Ch.cel b o (c :: cs) ∈ l) ∨ ∃ kk v m, Ch.map kk v b m ∈ l := by
    intro l
    induction l with
    | nil => intro h; cases h
    | cons c l ih =>
      intro h
      have lift : ((∃ o c cs, Ch.cel b o (c :: cs) ∈ l) ∨ ∃ kk v m, Ch.map kk v b m ∈ l) → (∃ o c' cs, Ch.cel b o (c' :: cs) ∈ c :: l) ∨ ∃ kk v m, Ch.map kk v b m ∈ c :: l :=
        fun h => h.imp (fun ⟨o, c', cs, hm⟩ => ⟨o, c', cs, List.mem_cons_of_mem _ hm⟩) (fun ⟨kk, v, m, hm⟩ => ⟨kk, v, m, List.mem_cons_of_mem _ hm⟩)
      cases c with
      | cel b' o cs =>
        cases cs with
        | nil => exact lift (ih (by simpa [held] using h))
        | cons c cs =>
          simp only [held, Bool.cond_eq_ite] at h
          split at h
          · rename_i hb; rw [← SX.bq_eq hb]; exact .inl ⟨o, c, cs, List.mem_cons_self⟩
          · exact lift (ih h)
      | map kk v b' m =>
        simp only [held, Bool.cond_eq_ite] at h
        split at h
        · rename_i hb; rw [← SX.bq_eq hb]; exact .inr ⟨kk, v, m, List.mem_cons_self⟩
        · exact lift (ih h)
      | _ => exact lift (ih (by simpa [held] using h))
  rcases key hp h with ⟨o, c, cs, hm⟩ | ⟨kk, v, m, hm⟩
  · exact (cel_cells S ρ w0 hm hs).1 (by simp)
  · obtain ⟨H, hH⟩ := hpDen_mem S ρ w0 hm
    rw [hH] at hs
    exact (sat_and hs).1
theorem needPos_sound {F : HProp} {w : World} {b : SX} {hp : List Ch} {asm ns : List SX} (ha : ∀ x ∈ asm, (x.den S ρ).toProp) (hs : Sat w0 (star (hpDen S ρ w0 hp) F) w)
    (h : ∀ x ∈ needPos hp asm b ns, (x.den S ρ).toProp) : 0 ≤ (b.den S ρ).toInt ∧ ∀ x ∈ ns, (x.den S ρ).toProp := by
  unfold needPos at h
  cases hh : held b hp
  · rw [hh] at h
    obtain ⟨h1, h2⟩ := need_sound S ρ ha h
    exact ⟨(eLe_den S ρ _ _).1 h1, h2⟩
  · rw [hh] at h; exact ⟨held_sound S ρ w0 hh hs, h⟩
end
end Go.Eng
