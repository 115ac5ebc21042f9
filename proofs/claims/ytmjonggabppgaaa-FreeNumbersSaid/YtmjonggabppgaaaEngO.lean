/- The operations that write: that the symbolic run is the model's. Part 1: contents, stores. -/
import Derived.Test.YtmjonggabppgaaaEngN
set_option linter.unusedSimpArgs false
set_option linter.unusedVariables false
namespace Go.Eng
open Go.RowKit (Below)

section
variable {G : Type} (S : Sig G) (ρ : Env G) (w0 : World) {P : Program}

/-! ### Contents as lists of elements -/
def En.els (e : En) (u : U G) : List (U G) :=
  match e with
  | .ints _ => u.toInts.map U.int
  | .bytes => u.toBytes.map fun b => U.int (b.toNat : Nat)
  | .rows _ => u.toRows.map U.ints
def En.nel (e : En) (u : U G) : U G :=
  match e with
  | .ints _ => .int u.toInt
  | .bytes => .int ((UInt8.ofNat u.toInt.toNat).toNat : Nat)
  | .rows _ => .ints u.toInts
def En.elV (e : En) (u : U G) : List Value :=
  match e with
  | .ints k => [.int k u.toInt]
  | .bytes => [.int .u8 ((UInt8.ofNat u.toInt.toNat).toNat : Nat)]
  | .rows fs => rowVals fs u.toInts
theorem En.elV_length (e : En) (u : U G) : (e.elV u).length = e.stride := by
  cases e <;> simp [En.elV, En.stride, rowVals_length]
theorem En.vals_els (e : En) (u : U G) : e.vals u = (e.els u).flatMap e.elV := by
  cases e with
  | ints k => simp [En.vals, En.els, En.elV, List.flatMap_map, ← List.map_eq_flatMap]
  | bytes =>
    simp only [En.vals, En.els, List.flatMap_map]
    rw [List.map_eq_flatMap]
    congr 1
    funext b
    simp [En.elV]
  | rows fs => simp only [En.vals, En.els, List.flatMap_map]; rfl
theorem En.elV_nel (e : En) (u : U G) : e.elV (e.nel u) = e.elV u := by
  cases e <;> simp [En.elV, En.nel]
  omega
theorem En.els_length (e : En) (u : U G) : (e.els u).length = e.len u := by cases e <;> simp [En.els, En.len]
theorem En.els_T (e : En) (u : U G) : e.els u = elsT e.t u := by cases e <;> rfl
theorem En.nel_T (e : En) (u : U G) : e.nel u = nelT e.t u := by cases e <;> rfl
theorem En.t_le (e : En) : e.t ≤ 2 := by cases e <;> simp [En.t]
theorem En.els_set (e : En) (x i el : SX) : e.els ((e.setX x i el).den S ρ) = (e.els (x.den S ρ)).set (i.den S ρ).toInt.toNat (e.nel (el.den S ρ)) := by
  rw [En.els_T, En.els_T, En.nel_T]
  unfold En.setX
  split
  · exact SX.setT_els S ρ e.t_le _ _ _
  · exact elsT_set S ρ e.t_le _ _ _
theorem En.els_cons (e : En) (el x : SX) : e.els ((e.consX el x).den S ρ) = e.nel (el.den S ρ) :: e.els (x.den S ρ) := by
  rw [En.els_T, En.els_T, En.nel_T]; exact SX.consT_els S ρ e.t_le _ _
theorem En.els_nil (e : En) : e.els ((nilX e).den S ρ) = [] := by cases e <;> rfl
theorem En.els_app (e : En) (a b : SX) : e.els ((e.appX a b).den S ρ) = e.els (a.den S ρ) ++ e.els (b.den S ρ) := by
  rw [En.els_T, En.els_T, En.els_T]; exact SX.appT_els S ρ e.t_le _ _
theorem En.els_take (e : En) (x n : SX) : e.els ((e.takeX x n).den S ρ) = (e.els (x.den S ρ)).take (n.den S ρ).toInt.toNat := by
  unfold En.takeX
  cases h : SX.bq n (e.lenX x)
  · simp only [cond_false]
    rw [En.els_T, En.els_T]
    split
    · exact SX.takeT_els S ρ e.t_le _ _
    · exact elsT_take S ρ e.t_le _ _
  · rw [SX.bq_eq h, En.lenX_den]
    simp only [cond_true, U.toInt_int, Int.toNat_natCast]
    rw [List.take_of_length_le (by rw [En.els_length]; exact Nat.le_refl _)]
theorem En.els_drop (e : En) (x n : SX) : e.els ((e.dropX x n).den S ρ) = (e.els (x.den S ρ)).drop (n.den S ρ).toInt.toNat := by
  unfold En.dropX
  cases h : SX.bq n (.int 0)
  · simp only [cond_false]
    rw [En.els_T, En.els_T]
    split
    · exact SX.dropT_els S ρ e.t_le _ _
    · exact elsT_drop S ρ e.t_le _ _
  · rw [SX.bq_eq h]; rfl
theorem En.els_rep (e : En) (n el : SX) : e.els ((e.repX n el).den S ρ) = List.replicate (n.den S ρ).toInt.toNat (e.nel (el.den S ρ)) := by
  rw [En.els_T, En.nel_T]; exact SX.repT_els S ρ e.t_le _ _

theorem flatMap_take {α : Type} (f : α → List Value) (s : Nat) (hf : ∀ a, (f a).length = s) : ∀ (l : List α) (i : Nat), (l.flatMap f).take (i * s) = (l.take i).flatMap f
  | [], i => by simp
  | a :: l, 0 => by simp
  | a :: l, i + 1 => by
    rw [List.flatMap_cons, List.take_succ_cons, List.flatMap_cons, Nat.succ_mul, List.take_append, hf, List.take_of_length_le (by rw [hf]; omega), show i * s + s - s = i * s by omega, flatMap_take f s hf l i]
theorem flatMap_drop {α : Type} (f : α → List Value) (s : Nat) (hf : ∀ a, (f a).length = s) : ∀ (l : List α) (i : Nat), (l.flatMap f).drop (i * s) = (l.drop i).flatMap f
  | [], i => by simp
  | a :: l, 0 => by simp
  | a :: l, i + 1 => by
    rw [List.flatMap_cons, List.drop_succ_cons, Nat.succ_mul, List.drop_append, hf, List.drop_of_length_le (by rw [hf]; omega), show i * s + s - s = i * s by omega, flatMap_drop f s hf l i]; rfl
theorem En.vals_take (e : En) (x n : SX) : e.vals ((e.takeX x n).den S ρ) = (e.vals (x.den S ρ)).take ((n.den S ρ).toInt.toNat * e.stride) := by
  rw [En.vals_els, En.els_take, En.vals_els, flatMap_take _ _ (En.elV_length e)]
theorem En.vals_drop (e : En) (x n : SX) : e.vals ((e.dropX x n).den S ρ) = (e.vals (x.den S ρ)).drop ((n.den S ρ).toInt.toNat * e.stride) := by
  rw [En.vals_els, En.els_drop, En.vals_els, flatMap_drop _ _ (En.elV_length e)]
theorem En.vals_app (e : En) (a b : SX) : e.vals ((e.appX a b).den S ρ) = e.vals (a.den S ρ) ++ e.vals (b.den S ρ) := by
  rw [En.vals_els, En.els_app, List.flatMap_append, ← En.vals_els, ← En.vals_els]
theorem En.vals_cons (e : En) (a b : SX) : e.vals ((e.consX a b).den S ρ) = e.elV (a.den S ρ) ++ e.vals (b.den S ρ) := by
  rw [En.vals_els, En.els_cons, List.flatMap_cons, ← En.vals_els, En.elV_nel]
theorem En.vals_set (e : En) (x i el : SX) (hi : (i.den S ρ).toInt.toNat < e.len (x.den S ρ)) : e.vals ((e.setX x i el).den S ρ) =
    (e.vals (x.den S ρ)).take ((i.den S ρ).toInt.toNat * e.stride) ++ e.elV (el.den S ρ) ++ (e.vals (x.den S ρ)).drop ((i.den S ρ).toInt.toNat * e.stride + e.stride) := by
  rw [En.vals_els, En.els_set, En.vals_els, flatMap_take _ _ (En.elV_length e), show (i.den S ρ).toInt.toNat * e.stride + e.stride = ((i.den S ρ).toInt.toNat + 1) * e.stride by rw [Nat.succ_mul], flatMap_drop _ _ (En.elV_length e)]
  have hl : (i.den S ρ).toInt.toNat < (e.els (x.den S ρ)).length := by rw [En.els_length]; exact hi
  rw [List.set_eq_take_append_cons_drop, if_pos hl, List.flatMap_append, List.flatMap_cons, En.elV_nel, List.append_assoc]
theorem En.vals_rep (e : En) (n el : SX) : e.vals ((e.repX n el).den S ρ) = (List.replicate (n.den S ρ).toInt.toNat (e.elV (el.den S ρ))).flatten := by
  rw [En.vals_els, En.els_rep]
  generalize (n.den S ρ).toInt.toNat = k
  induction k with
  | zero => rfl
  | succ k ih => rw [List.replicate_succ, List.flatMap_cons, ih, En.elV_nel, List.replicate_succ, List.flatten_cons]

theorem Fd.enc_sound {f : Fd} {c : SC} {a : List SX} (h : f.enc c = some a) : a.length = f.width ∧ ∀ r, f.val (a.map (fun e => (e.den S ρ).toInt) ++ r) = c.den S ρ := by
  cases f <;> cases c <;> simp only [Fd.enc, reduceCtorEq] at h
  · rw [Bool.cond_eq_ite] at h; split at h
    · rename_i hk; cases h; exact ⟨rfl, fun r => by simp [Fd.val, SC.den, kn_inj (Nat.eq_of_beq_eq_true hk)]⟩
    · cases h
  · rename_i e
    cases h; refine ⟨rfl, fun r => ?_⟩
    simp only [List.map_cons, List.map_nil, Fd.val, SC.den]
    rw [SX.mk1_den]
    simp only [SX.den, ap1, U.toInt_int]
    cases (e.den S ρ).toBool <;> simp
  · rw [Bool.cond_eq_ite] at h; split at h
    · rename_i ho; cases h; refine ⟨rfl, fun r => ?_⟩
      simp [Fd.val, SC.den, Nat.eq_of_beq_eq_true ho]
    · cases h
  · rename_i b o k z l cc s'
    rw [Bool.cond_eq_ite] at h; split at h
    · rename_i ho
      rw [Bool.cond_eq_ite] at h; split at h
      · rename_i hk
        rw [Bool.cond_eq_ite] at h; split at h
        · rename_i hz; cases h; refine ⟨rfl, fun r => ?_⟩
          rw [SX.bq_eq ho, SX.bq_eq hk, SX.bq_eq hz]
          simp [Fd.val, SC.den, SX.den]
        · cases h
      · cases h
    · cases h
  · cases h; exact ⟨rfl, fun r => by simp [Fd.val, SC.den]⟩
theorem encRow_sound : ∀ {fs : List Fd} {cs : List SC} {l : List SX}, encRow fs cs = some l → rowVals fs (l.map fun e => (e.den S ρ).toInt) = cs.map (SC.den S ρ)
  | [], [], l, h => by cases h; rfl
  | f :: fs, c :: cs, l, h => by
    obtain ⟨a, ha, h⟩ := ob_some h
    obtain ⟨b, hb, h⟩ := ob_some h
    cases h
    obtain ⟨h1, h2⟩ := Fd.enc_sound S ρ ha
    simp only [rowVals, List.map_append, List.map_cons]
    rw [h2, List.drop_append, List.length_map, h1, List.drop_of_length_le (by simp [h1]), Nat.sub_self, List.drop_zero, List.nil_append, encRow_sound hb]
  | [], _ :: _, _, h => by cases h
  | _ :: _, [], _, h => by cases h
theorem En.el_sound {asm : List SX} (ha : ∀ x ∈ asm, (x.den S ρ).toProp) {e : En} {cs : List SC} {ns : List SX} {x : SX} (h : En.el asm e cs = some (ns, x)) (hn : ∀ y ∈ ns, (y.den S ρ).toProp) :
    cs.map (SC.den S ρ) = e.elV (x.den S ρ) := by
  unfold En.el at h
  split at h
  · rw [Bool.cond_eq_ite] at h; split at h
    · rename_i hk; cases h; simp [SC.den, En.elV, kn_inj (Nat.eq_of_beq_eq_true hk)]
    · cases h
  · rename_i x'
    cases h
    have hr : 0 ≤ (x.den S ρ).toInt ∧ (x.den S ρ).toInt ≤ 255 := by
      cases hb : isByte x
      · rw [hb] at hn
        simp only [cond_false] at hn
        split at hn
        · rename_i y
          simp only [SX.den]
          have : ap1 14 (y.den S ρ) = (.int (IntKind.u8.wrap (y.den S ρ).toInt) : U G) := rfl
          rw [this]
          simp only [U.toInt_int, IntKind.wrap, IntKind.bits, IntKind.signed]
          simp
          omega
        · obtain ⟨h1, hn⟩ := need_sound S ρ ha hn
          obtain ⟨h2, _⟩ := need_sound S ρ ha hn
          rw [eLe_den] at h1 h2
          exact ⟨h1, h2⟩
      · exact isByte_den S ρ hb
    simp only [List.map_cons, List.map_nil, SC.den, En.elV]
    congr 2
    have : (UInt8.ofNat (x.den S ρ).toInt.toNat).toNat = (x.den S ρ).toInt.toNat % 256 := by simp
    rw [this]; omega
  · obtain ⟨l, hl, h⟩ := ob_some h
    cases h
    rw [consI_den]
    simp only [En.elV, U.toInts_ints]
    exact (encRow_sound S ρ hl).symm
  · cases h

/-! ### Stores -/
def oneV : Value → Bool | .agg _ | .tuple _ => false | _ => true
theorem SC.den_one : ∀ (c : SC), oneV (c.den S ρ) = true := by
  intro c
  induction c with
  | cap g x ih _ => simp only [SC.den]; split; rfl; exact ih
  | ptr b o => simp only [SC.den]; split <;> rfl
  | _ => rfl
theorem store_run {w : World} {a : Addr} {v u : Value} (h1 : oneV v = true) (hc : w.cell? a = some u) (hf : w.frozen? a = false) : (store a v).run P w = .ok () (w.setCell a v) := by
  cases v <;> simp [oneV] at h1 <;> simp [store, Sem.run, hc, hf]
theorem storeCells_run (b o k : Nat) (z : Bool) (H : HProp) : ∀ (new : List Value) (i : Nat) (cs : List Value) (w : World), Sat w0 (star (row b o cs z) H) w → k + i + new.length ≤ cs.length → (∀ v ∈ new, oneV v = true) →
    ∃ w', (storeCells ⟨b, o + k, none⟩ new i).run P w = .ok () w' ∧ Sat w0 (star (row b o (cs.take (k + i) ++ new ++ cs.drop (k + i + new.length)) z) H) w'
  | [], i, cs, w, hs, hl, h1 => ⟨w, rfl, by simpa using hs⟩
  | v :: new, i, cs, w, hs, hl, h1 => by
    simp only [List.length_cons] at hl
    have hlt : k + i < cs.length := by omega
    obtain ⟨hc, hf⟩ := hs.load hlt
    have hs' := hs.store hlt v
    obtain ⟨w', hrun, hs2⟩ := storeCells_run b o k z H new (i + 1) (cs.set (k + i) v) _ hs' (by simp; omega) (fun u hu => h1 u (List.mem_cons_of_mem _ hu))
    refine ⟨w', ?_, ?_⟩
    · have e : storeCells ⟨b, o + k, none⟩ (v :: new) i = (store (Addr.add ⟨b, o + k, none⟩ i) v).bind (fun _ => storeCells ⟨b, o + k, none⟩ new (i + 1)) := rfl
      rw [e, Sem.run_bind', Addr.add_eq, Nat.add_assoc, store_run (P := P) (h1 v List.mem_cons_self) hc hf]
      exact hrun
    · have e : (cs.set (k + i) v).take (k + (i + 1)) ++ new ++ (cs.set (k + i) v).drop (k + (i + 1) + new.length) = cs.take (k + i) ++ (v :: new) ++ cs.drop (k + i + (new.length + 1)) := by
        rw [List.drop_set_of_lt (show k + i < k + (i + 1) + new.length by omega), show k + (i + 1) = (k + i) + 1 by omega, List.take_succ_eq_append_getElem (by simpa using hlt), List.take_set_of_le (show k + i ≤ k + i by omega)]
        simp
        congr 1; omega
      rw [e] at hs2
      simpa using hs2

theorem setCel_spec {b : SX} {lo : Nat} {cs : List SC} : ∀ {hp hp' : List Ch}, setCel b lo cs hp = some hp' →
    ∃ l1 o old new l2, hp = l1 ++ .cel b o old :: l2 ∧ hp' = l1 ++ .cel b o new :: l2 ∧ o ≤ lo ∧ lo + cs.length ≤ o + old.length ∧ putCells old (lo - o) cs = some new
  | [], hp', h => by cases h
  | c :: l, hp', h => by
    have lift : ∀ r, setCel b lo cs l = some r → hp' = c :: r → ∃ l1 o old new l2, c :: l = l1 ++ .cel b o old :: l2 ∧ hp' = l1 ++ .cel b o new :: l2 ∧ o ≤ lo ∧ lo + cs.length ≤ o + old.length ∧ putCells old (lo - o) cs = some new := by
      intro r hr he
      obtain ⟨l1, o, old, new, l2, h1, h2, h3⟩ := setCel_spec hr
      exact ⟨c :: l1, o, old, new, l2, by rw [h1]; rfl, by rw [he, h2]; rfl, h3⟩
    cases c with
    | cel b' o old =>
      simp only [setCel, Bool.cond_eq_ite] at h
      split at h
      · rename_i hb
        split at h
        · rename_i ho
          split at h
          · rename_i hl
            split at h
            · rename_i new hn; cases h
              rw [← SX.bq_eq hb]
              exact ⟨[], o, old, new, l, rfl, rfl, Nat.le_of_ble_eq_true ho, Nat.le_of_ble_eq_true hl, hn⟩
            · cases h
          · obtain ⟨r, hr, h⟩ := ob_some h; cases h; exact lift r hr rfl
        · obtain ⟨r, hr, h⟩ := ob_some h; cases h; exact lift r hr rfl
      · obtain ⟨r, hr, h⟩ := ob_some h; cases h; exact lift r hr rfl
    | _ => simp only [setCel] at h; obtain ⟨r, hr, h⟩ := ob_some h; cases h; exact lift r hr rfl
theorem takeArr_spec {b : SX} {e : En} {x c : SX} : ∀ {hp rest : List Ch}, takeArr b hp = some (e, x, c, rest) → ∃ l1 l2, hp = l1 ++ .arr e b x c :: l2 ∧ rest = l1 ++ l2
  | [], rest, h => by cases h
  | d :: l, rest, h => by
    have lift : ∀ r, takeArr b l = some (e, x, c, r) → rest = d :: r → ∃ l1 l2, d :: l = l1 ++ .arr e b x c :: l2 ∧ rest = l1 ++ l2 := by
      intro r hr he
      obtain ⟨l1, l2, h1, h2⟩ := takeArr_spec hr
      exact ⟨d :: l1, l2, by rw [h1]; rfl, by rw [he, h2]; rfl⟩
    cases d with
    | arr e' b' x' c' =>
      simp only [takeArr, Bool.cond_eq_ite] at h
      split at h
      · rename_i hb; cases h; rw [← SX.bq_eq hb]; exact ⟨[], l, rfl, rfl⟩
      · obtain ⟨⟨a1, a2, a3, r⟩, hr, h⟩ := ob_some h; cases h; exact lift r hr rfl
    | _ => simp only [takeArr] at h; obtain ⟨⟨a1, a2, a3, r⟩, hr, h⟩ := ob_some h; cases h; exact lift r hr rfl
theorem takeMap_spec {b : SX} {kk : IntKind} {v : Fd} {m : SX} : ∀ {hp rest : List Ch}, takeMap b hp = some (kk, v, m, rest) → ∃ l1 l2, hp = l1 ++ .map kk v b m :: l2 ∧ rest = l1 ++ l2
  | [], rest, h => by cases h
  | d :: l, rest, h => by
    have lift : ∀ r, takeMap b l = some (kk, v, m, r) → rest = d :: r → ∃ l1 l2, d :: l = l1 ++ .map kk v b m :: l2 ∧ rest = l1 ++ l2 := by
      intro r hr he
      obtain ⟨l1, l2, h1, h2⟩ := takeMap_spec hr
      exact ⟨d :: l1, l2, by rw [h1]; rfl, by rw [he, h2]; rfl⟩
    cases d with
    | map kk' v' b' m' =>
      simp only [takeMap, Bool.cond_eq_ite] at h
      split at h
      · rename_i hb; cases h; rw [← SX.bq_eq hb]; exact ⟨[], l, rfl, rfl⟩
      · obtain ⟨⟨a1, a2, a3, r⟩, hr, h⟩ := ob_some h; cases h; exact lift r hr rfl
    | _ => simp only [takeMap] at h; obtain ⟨⟨a1, a2, a3, r⟩, hr, h⟩ := ob_some h; cases h; exact lift r hr rfl
theorem hpDen_pick (l m : List Ch) (c : Ch) : hpDen S ρ w0 (l ++ c :: m) = star (c.den S ρ w0) (hpDen S ρ w0 (l ++ m)) := by
  unfold hpDen; rw [List.map_append, List.map_cons, big_pick, List.map_append]

/-- A store into a block that is held cell by cell. -/
theorem setCel_sound {F : HProp} {w : World} {b : SX} {lo : Nat} {cs : List SC} {hp hp' : List Ch} (h : setCel b lo cs hp = some hp') (hcs : cs ≠ []) (hs : Sat w0 (star (hpDen S ρ w0 hp) F) w) :
    0 ≤ (b.den S ρ).toInt ∧ ∃ w', (storeCells ⟨(b.den S ρ).toInt.toNat, lo, none⟩ (cs.map (SC.den S ρ))).run P w = .ok () w' ∧ Sat w0 (star (hpDen S ρ w0 hp') F) w' := by
  obtain ⟨l1, o, old, new, l2, rfl, rfl, ho, hl, hput⟩ := setCel_spec h
  rw [hpDen_pick, star_assoc] at hs
  obtain ⟨h1, hs⟩ := sat_and hs
  obtain ⟨hp1, hp2, hp3⟩ := putCells_den S ρ _ _ _ _ hput
  have hold : old ≠ [] := by
    rintro rfl; simp at hl
    exact hcs (List.eq_nil_of_length_eq_zero (by omega))
  have hb := h1.resolve_right hold
  obtain ⟨w', hrun, hs'⟩ := storeCells_run (P := P) w0 _ o (lo - o) true _ (cs.map (SC.den S ρ)) 0 (old.map (SC.den S ρ)) w hs (by simp; omega) (fun v hv => by
    obtain ⟨c, _, rfl⟩ := List.mem_map.1 hv; exact SC.den_one S ρ c)
  refine ⟨hb, w', by rw [show o + (lo - o) = lo by omega] at hrun; exact hrun, ?_⟩
  rw [hpDen_pick, star_assoc]
  refine sat_and_mk (.inl hb) ?_
  rw [hp3]
  simpa using hs'
end
end Go.Eng
