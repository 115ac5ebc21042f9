/- The operations that write: that the symbolic run is the model's. Part 8: going through a map. -/
import Derived.Test.YtlcfjjjdhdfbdaaPt2
import Derived.Maps.RangeRun
import Derived.Orders
import Derived.Lib.Overlaps
import Derived.ChangeSame
import Derived.Test.YtlcfjjjdhdfbdaaProg
import Derived.KernelRfl
set_option linter.unusedSimpArgs false
set_option linter.unusedVariables false
namespace Go.Eng
noncomputable section
open Go.RowKit (Below)
open Go.ChangeMaps (setBlock)

theorem del_filter {kk : IntKind} {v : Fd} {e : MapEntry} {k : Int} (hk : e.key = Value.int kk k) : ∀ {L : List MapEntry} {left : List (Int × Int)}, e ∈ L → (L.map (·.born)).Nodup → (L.map (·.key)).Nodup →
    L.map (fun e => (e.key, e.val)) = left.map (fun p => (Value.int kk p.1, v.val [p.2])) →
    mhas left k = true ∧ e.val = v.val [mget 0 left k] ∧ (L.filter (fun x => x.born != e.born)).map (fun e => (e.key, e.val)) = (mdel left k).map (fun p => (Value.int kk p.1, v.val [p.2]))
  | [], left, h, _, _, _ => by cases h
  | x :: L, [], h, _, _, he => by cases he
  | x :: L, (p, y) :: left, h, hb, hn, he => by
    simp only [List.map_cons, List.cons.injEq, Prod.mk.injEq] at he
    obtain ⟨⟨h1, h2⟩, h3⟩ := he
    simp only [List.map_cons, List.nodup_cons] at hb hn
    rcases List.mem_cons.1 h with rfl | hm
    · have hpk : p = k := by rw [h1] at hk; injection hk
      subst hpk
      refine ⟨by simp [mhas], by simp [mget, h2], ?_⟩
      have : (e :: L).filter (fun x => x.born != e.born) = L := by
        rw [List.filter_cons_of_neg (by simp)]
        rw [List.filter_eq_self]
        intro z hz
        have : z.born ≠ e.born := fun hc => hb.1 (by rw [← hc]; exact List.mem_map_of_mem hz)
        simpa using this
      rw [this, h3]
      simp [mdel]
    · have hpk : p ≠ k := fun hc => hn.1 (by rw [h1, hc, ← hk]; exact List.mem_map_of_mem hm)
      have hxb : x.born ≠ e.born := fun hc => hb.1 (by rw [hc]; exact List.mem_map_of_mem hm)
      obtain ⟨i1, i2, i3⟩ := del_filter hk hm hb.2 hn.2 h3
      refine ⟨by simp [mhas, hpk, i1], by simp [mget, hpk, i2], ?_⟩
      rw [List.filter_cons_of_pos (by simpa using hxb)]
      simp only [mdel, if_neg hpk, List.map_cons, h1, h2, i3]

theorem keys_nodup {kk : IntKind} {v : Fd} {L : List MapEntry} {m : List (Int × Int)} (h : L.map (fun e => (e.key, e.val)) = m.map (fun p => (Value.int kk p.1, v.val [p.2]))) (hn : (m.map (·.1)).Nodup) : (L.map (·.key)).Nodup := by
  have e : L.map (·.key) = m.map (fun p => Value.int kk p.1) := by
    have := congrArg (List.map Prod.fst) h
    simpa [List.map_map, Function.comp_def] using this
  rw [e, show (fun p : Int × Int => Value.int kk p.1) = (Value.int kk) ∘ (·.1) from rfl, ← List.map_map]
  exact List.Pairwise.map _ (fun a b hab hc => hab (by injection hc)) hn

theorem itr_next {kk : IntKind} {v : Fd} {es : Array MapEntry} {clock : Nat} {m left : List (Int × Int)} {cur : List Int} {seen : Array Nat} (h : itrOk kk v es clock m left cur seen) {e : MapEntry} (he : e ∈ (leftOf es seen).toList) :
    ∃ k, e.key = Value.int kk k ∧ mhas left k = true ∧ e.val = v.val [mget 0 left k] ∧ itrOk kk v es clock m (mdel left k) [k] (seen.push e.born) := by
  obtain ⟨⟨m1, m2, m3, m4⟩, h2, h3⟩ := h
  have hl : (leftOf es seen).toList = es.toList.filter (fun e => !seen.contains e.born) := by unfold leftOf; simp
  rw [hl] at he
  have hes : e ∈ es.toList := (List.mem_filter.1 he).1
  have hmem := List.mem_map_of_mem (f := fun e : MapEntry => (e.key, e.val)) he
  rw [h2] at hmem
  obtain ⟨p, hp, hpe⟩ := List.mem_map.1 hmem
  simp only [Prod.mk.injEq] at hpe
  have hk : e.key = Value.int kk p.1 := hpe.1.symm
  have hb : ((es.toList.filter (fun e => !seen.contains e.born)).map (·.born)).Nodup := m3.sublist ((List.filter_sublist).map _)
  have hn : ((es.toList.filter (fun e => !seen.contains e.born)).map (·.key)).Nodup := (keys_nodup m1 m2).sublist ((List.filter_sublist).map _)
  obtain ⟨i1, i2, i3⟩ := del_filter hk he hb hn h2
  refine ⟨p.1, hk, i1, i2, ⟨m1, m2, m3, m4⟩, ?_, fun k hk' => ?_⟩
  · rw [← i3, List.filter_filter]
    congr 1
    apply List.filter_congr
    intro x _
    by_cases hx : x.born = e.born <;> simp [Array.contains_push, hx]
  · cases hk'; exact ⟨e, hes, ⟨seen, rfl⟩, hk⟩

section
variable {G : Type} (S : Sig G) (ρ : Env G) (w0 : World) {P : Program}

theorem den_f1 (f : Nat) (a : SX) : (SX.f1 f a).den S ρ = ap1 f (a.den S ρ) := rfl
theorem den_f2 (f : Nat) (a b : SX) : (SX.f2 f a b).den S ρ = ap2 f (a.den S ρ) (b.den S ρ) := rfl
theorem den_f3 (f : Nat) (a b c : SX) : (SX.f3 f a b c).den S ρ = ap3 f (a.den S ρ) (b.den S ρ) (c.den S ρ) := rfl
theorem den_bool (b : Bool) : (SX.bool b).den S ρ = .bool b := rfl
theorem den_int (n : Int) : (SX.int n).den S ρ = .int n := rfl
theorem mapSC_den {v : Fd} {e : SX} {c : SC} (h : mapSC v e = some c) : c.den S ρ = v.val [(e.den S ρ).toInt] := by
  unfold mapSC at h
  split at h
  · cases h; rfl
  · cases h
    simp only [SC.den, Fd.val]
    rw [SX.mk1_den]
    simp only [den_f1, ap1]
    rw [SX.mk2_den]
    simp [SX.den, ap2, bne]
  · cases h
    simp [SC.den, Fd.val]
  · cases h
    simp [SC.den, Fd.val]
  · cases h
  · cases h

theorem takeItr_spec {r : SX} {kk : IntKind} {v : Fd} {b m l c : SX} : ∀ {hp rest : List Ch}, takeItr r hp = some (kk, v, b, m, l, c, rest) → ∃ l1 l2, hp = l1 ++ .itr kk v b m r l c :: l2 ∧ rest = l1 ++ l2
  | [], rest, h => by cases h
  | d :: t, rest, h => by
    have lift : ∀ q, takeItr r t = some (kk, v, b, m, l, c, q) → rest = d :: q → ∃ l1 l2, d :: t = l1 ++ .itr kk v b m r l c :: l2 ∧ rest = l1 ++ l2 := by
      intro q hr he
      obtain ⟨l1, l2, h1, h2⟩ := takeItr_spec hr
      exact ⟨d :: l1, l2, by rw [h1]; rfl, by rw [he, h2]; rfl⟩
    cases d with
    | itr kk' v' b' m' r' l' c' =>
      simp only [takeItr, Bool.cond_eq_ite] at h
      split at h
      · rename_i hb; cases h; rw [← SX.bq_eq hb]; exact ⟨[], t, rfl, rfl⟩
      · obtain ⟨⟨a1, a2, a3, a4, a5, a6, q⟩, hr, h⟩ := ob_some h; cases h; exact lift q hr rfl
    | _ => simp only [takeItr] at h; obtain ⟨⟨a1, a2, a3, a4, a5, a6, q⟩, hr, h⟩ := ob_some h; cases h; exact lift q hr rfl

theorem itr_pick {F : HProp} {w : World} {kk : IntKind} {v : Fd} {r b m l c : SX} {hp rest : List Ch} (h : takeItr r hp = some (kk, v, b, m, l, c, rest)) (hs : Sat w0 (star (hpDen S ρ w0 hp) F) w) :
    ∃ es clock seen, 0 ≤ (b.den S ρ).toInt ∧ 0 ≤ (r.den S ρ).toInt ∧ itrOk kk v es clock (m.den S ρ).toMap (l.den S ρ).toMap (c.den S ρ).toInts seen ∧
      w.heap[(b.den S ρ).toInt.toNat]? = some (.map es clock) ∧ w.heap[(r.den S ρ).toInt.toNat]? = some (.mapIter (some (b.den S ρ).toInt.toNat) clock seen clock) ∧
      Sat w0 (star (objAt (r.den S ρ).toInt.toNat (.mapIter (some (b.den S ρ).toInt.toNat) clock seen clock)) (star (objAt (b.den S ρ).toInt.toNat (.map es clock)) (star (hpDen S ρ w0 rest) F))) w := by
  obtain ⟨l1, l2, rfl, rfl⟩ := takeItr_spec h
  rw [hpDen_pick, star_assoc] at hs
  have hs : Sat w0 (star (itrDen kk v (b.den S ρ) (m.den S ρ) (r.den S ρ) (l.den S ρ) (c.den S ρ)) (star (hpDen S ρ w0 (l1 ++ l2)) F)) w := hs
  unfold itrDen at hs
  obtain ⟨h1, hs⟩ := sat_and hs
  obtain ⟨h2, hs⟩ := sat_and hs
  obtain ⟨es, hs⟩ := sat_ex hs
  obtain ⟨clock, hs⟩ := sat_ex hs
  obtain ⟨seen, hs⟩ := sat_ex hs
  obtain ⟨h3, hs⟩ := sat_and hs
  rw [star_assoc] at hs
  have hs' := hs
  rw [star_left_comm] at hs'
  exact ⟨es, clock, seen, h1, h2, h3, hs.obj.2.2.1, hs'.obj.2.2.1, hs'⟩

theorem lop_range {F : HProp} {st : St} {t : TypeId} {x : Operand} {w : World} {K : SV → St → VC} {ev : Operand → Value} {o : Oper} (ho : o.op = .range t x) (hst : HSt S w0 F st ρ w) (hL : ∀ x, (lk st.fr x).R S ρ (ev x)) (h : (lop P st (.range t x) K).den S ρ) :
    LOk S ρ w0 F st K ((execOp ev o).run P w) := by
  simp only [lop] at h
  split at h
  · rename_i kt et b hu hx
    split at h
    · rename_i kk v m rest htk
      obtain ⟨es, clock, hb, hmo, hheap, hput⟩ := map_pick S ρ w0 htk hst.hp
      have hx' := R_one S ρ (hx ▸ hL x)
      simp only [SC.den] at hx'
      rw [if_neg (by omega)] at hx'
      obtain ⟨l1, l2, e1, e2⟩ := takeMap_spec htk
      obtain ⟨g1, g2, g3⟩ := ok_parts (fresh_den S ρ h).1
      have hlt : Ch.lt st.n (.map kk v b m) = true := List.all_eq_true.1 g2 _ (by rw [e1]; simp)
      simp only [Ch.lt, Bool.cond_eq_ite] at hlt
      have hbl : b.lt st.n = true := by revert hlt; cases b.lt st.n <;> simp
      have hml : m.lt st.n = true := by revert hlt; rw [hbl]; simp
      refine ⟨{ w with heap := w.heap.push (.mapIter (some (b.den S ρ).toInt.toNat) clock #[] clock) }, .inl ⟨.pointer (some ⟨w.heap.size, 0, none⟩), ?_, ?_⟩⟩
      · unfold execOp; rw [ho]
        refine run_v (s := Instr.range t (ev x)) ?_
        rw [hx']
        simp [Instr.range, run_underlying hu, MapKept.run_getObj_map hheap, newObj, Sem.run, Result.andThen]
      · have hE := updL_ext S ρ st.n [Srt.int] [U.int (w.heap.size : Nat)]
        refine fresh_post S ρ w0 (ns := []) (rest := rest) hst (by simp) h (fun c hc => by rw [e1]; rw [e2] at hc; rcases List.mem_append.1 hc with hc | hc <;> simp [hc]) [.int (w.heap.size : Nat)] rfl (eLe0_at S ρ _ _) ?_ ?_
        · have hs := hst.hp
          rw [e1, hpDen_pick, star_assoc, ← e2] at hs
          obtain ⟨_, hs⟩ := sat_and hs
          obtain ⟨es', hs⟩ := sat_ex hs
          obtain ⟨clock', hs⟩ := sat_ex hs
          obtain ⟨_, hs⟩ := sat_and hs
          have heq := hs.obj.2.2.1
          rw [hheap] at heq
          cases heq
          refine (Sat.newObj hs (.mapIter (some (b.den S ρ).toInt.toNat) clock #[] clock) rfl).mono (fun y hy => ?_)
          rw [← star_assoc] at hy
          refine star_mono (fun z hz => ?_) (fun _ h => h) y hy
          simp only [Ch.den, itrDen, at_den, U.toInt_int]
          rw [SX.den_ext S hE hbl, SX.den_ext S hE hml]
          refine ⟨hb, by omega, es, clock, #[], ⟨hmo, ?_, fun k hk => ?_⟩, ?_⟩
          · rw [List.filter_eq_self.2 (by simp)]; exact hmo.1
          · simp [SX.den, ap1] at hk
          · rw [star_comm]; simpa using hz
        · right
          simp only [SV.den, SC.den, at_den, U.toInt_int]
          rw [if_neg (by omega)]; simp
    · exact h.elim
  · exact h.elim

theorem lop_next {F : HProp} {st : St} {x : Operand} {str : Bool} {w : World} {K : SV → St → VC} {ev : Operand → Value} {o : Oper} (ho : o.op = .next x str) (hst : HSt S w0 F st ρ w) (hL : ∀ x, (lk st.fr x).R S ρ (ev x)) (h : (lop P st (.next x str) K).den S ρ) :
    LOk S ρ w0 F st K ((execOp ev o).run P w) := by
  simp only [lop] at h
  split at h
  · rename_i r oo hx
    cases str
    case true => exact h.elim
    cases hoo : Nat.beq oo 0
    · rw [hoo] at h; exact h.elim
    rw [hoo] at h
    have hoo := Nat.eq_of_beq_eq_true hoo
    subst hoo
    simp only [cond_false, cond_true] at h
    split at h
    · rename_i kk v b m l cur rest htk
      obtain ⟨es, clock, seen, hb, hr, hok, hm, hi, hs⟩ := itr_pick S ρ w0 htk hst.hp
      have hx' := R_one S ρ (hx ▸ hL x)
      simp only [SC.den] at hx'
      rw [if_neg (by omega)] at hx'
      obtain ⟨ha, hb2⟩ := h
      have hz : ((eEq (mlenX l) (.int 0)).den S ρ) = .bool (((l.den S ρ).toMap.length : Int) == 0) := by
        rw [eEq_bool, mlenX_den]; rfl
      have hll : (leftOf es seen).toList = es.toList.filter (fun e => !seen.contains e.born) := by unfold leftOf; simp
      have hlen : (leftOf es seen).size = (l.den S ρ).toMap.length := by
        have := congrArg List.length hok.2.1
        simp only [List.length_map] at this
        rw [← this, ← hll]; simp
      rcases run_next_at (P := P) w o.type (r.den S ρ).toInt.toNat (b.den S ρ).toInt.toNat clock clock seen es clock hi hm hok.1.2.2.2 (Nat.le_refl _) with ⟨k1, k2⟩ | ⟨e, k1, w1, k2, k3⟩
      · have hz1 : ((eEq (mlenX l) (.int 0)).den S ρ).toProp := by
          rw [hz]; simp only [U.toProp_bool]; rw [← hlen, k1]; rfl
        refine ⟨w, .inl ⟨.tuple #[.bool false], ?_, ?_⟩⟩
        · unfold execOp; rw [ho]
          refine run_v (s := Instr.next (ev x) false o.type) ?_
          rw [hx']; simpa using k2
        · have hn : SX.bq (eEq (mlenX l) (.int 0)) (.bool false) = false := by
            cases hq : SX.bq (eEq (mlenX l) (.int 0)) (.bool false)
            · rfl
            · rw [SX.bq_eq hq] at hz1; simp [SX.den] at hz1
          rw [hn] at ha
          simp only [cond_false] at ha
          have ha := ha hz1
          refine same_post S ρ w0 (ns := [eEq (mlenX l) (.int 0)]) hst (by intro y hy; rw [List.mem_singleton] at hy; subst hy; exact hz1) ha ?_ (.inr rfl)
          rw [hpDen_cons, star_assoc]
          exact hs.drop.mono (fun y hy => star_mono (fun z hz => ⟨hb, es, clock, hok.1, hz⟩) (fun _ h => h) y hy)
      · have hne : (l.den S ρ).toMap.length ≠ 0 := by
          rw [← hlen]; intro hc
          have : (leftOf es seen).toList = [] := List.eq_nil_of_length_eq_zero (by simpa using hc)
          rw [this] at k1; cases k1
        have hn : SX.bq (eEq (mlenX l) (.int 0)) (.bool true) = false := by
          cases hq : SX.bq (eEq (mlenX l) (.int 0)) (.bool true)
          · rfl
          · rw [SX.bq_eq hq] at hz
            simp [SX.den] at hz
            exact absurd (by rw [hz]; rfl) hne
        rw [hn] at hb2
        simp only [cond_false] at hb2
        split at hb2
        · rename_i c hc
          obtain ⟨k, hk1, hk2, hk3, hk4⟩ := itr_next hok k1
          refine ⟨setBlock w1 (r.den S ρ).toInt.toNat (.mapIter (some (b.den S ρ).toInt.toNat) clock (seen.push e.born) clock), .inl ⟨.tuple #[.bool true, e.key, e.val], ?_, ?_⟩⟩
          · unfold execOp; rw [ho]
            refine run_v (s := Instr.next (ev x) false o.type) ?_
            rw [hx']; simpa using k3
          · obtain ⟨l1, l2, e1, e2⟩ := takeItr_spec htk
            have hok' := ok_parts (fresh_den S ρ hb2).1
            have hlt : Ch.lt st.n (.itr kk v b m r l cur) = true := List.all_eq_true.1 hok'.2.1 _ (by rw [e1]; simp)
            simp only [Ch.lt, Bool.cond_eq_ite] at hlt
            have hbl : b.lt st.n = true := by revert hlt; cases b.lt st.n <;> simp
            have hml : m.lt st.n = true := by revert hlt; rw [hbl]; cases m.lt st.n <;> simp
            have hrl : r.lt st.n = true := by revert hlt; rw [hbl, hml]; cases r.lt st.n <;> simp
            have hlll : l.lt st.n = true := by revert hlt; rw [hbl, hml, hrl]; cases l.lt st.n <;> simp
            have hE := updL_ext S ρ st.n [Srt.int] [U.int k]
            have hat : (SX.at .int st.n).den S (updL S ρ st.n [Srt.int] [U.int k]) = .int k := at_den S ρ st.n k
            refine fresh_post S ρ w0 (ns := []) (rest := rest) hst (by simp) hb2 (fun c hc => by rw [e1]; rw [e2] at hc; rcases List.mem_append.1 hc with hc | hc <;> simp [hc]) [.int k] rfl ?_ ?_ ?_
            · intro y hy
              rw [List.mem_singleton] at hy; subst hy
              rw [mhasX_den]
              simp only [den_f2, ap2, hat, SX.den_ext S hE hlll, U.toProp_bool, U.toInt_int]
              exact hk2
            · have hs1 : Sat w0 (star (objAt (r.den S ρ).toInt.toNat (.mapIter (some (b.den S ρ).toInt.toNat) clock seen clock)) (star (objAt (b.den S ρ).toInt.toNat (.map es clock)) (star (hpDen S ρ w0 rest) F))) w1 := by
                rcases k2 with rfl | rfl
                · exact hs
                · exact Sat.drew hs _
              refine (hs1.setObj (.mapIter (some (b.den S ρ).toInt.toNat) clock (seen.push e.born) clock) rfl).mono (fun y hy => ?_)
              rw [← star_assoc] at hy
              refine star_mono (fun z hz => ?_) (fun _ h => h) y hy
              simp only [Ch.den, itrDen]
              rw [SX.den_ext S hE hbl, SX.den_ext S hE hml, SX.den_ext S hE hrl, mdelX_den, SX.den_ext S hE hlll, hat]
              refine ⟨hb, hr, es, clock, seen.push e.born, ?_, by rw [star_comm]; exact hz⟩
              simp only [den_f2, den_f1, ap2, ap1, hat, U.toInt_int, U.toInts_ints]
              exact hk4
            · right
              have hcd := mapSC_den S (updL S ρ st.n [Srt.int] [U.int k]) hc
              rw [mgetX_den] at hcd
              simp only [den_f3, ap3, den_int, hat, SX.den_ext S hE hlll, U.toInt_int] at hcd
              simp only [SV.den, tupV, List.map_cons, List.map_nil, SC.den, hat, U.toInt_int, den_bool, U.toBool_bool, hcd, hk1, hk3]
        · exact hb2.elim
    · exact h.elim
  · exact h.elim

theorem lop_entry {F : HProp} {st : St} {x : Operand} {w : World} {K : SV → St → VC} {ev : Operand → Value} {o : Oper} (ho : o.op = .entry x) (hst : HSt S w0 F st ρ w) (hL : ∀ x, (lk st.fr x).R S ρ (ev x)) (h : (lop P st (.entry x) K).den S ρ) :
    LOk S ρ w0 F st K ((execOp ev o).run P w) := by
  simp only [lop] at h
  split at h
  · rename_i r oo hx
    cases hoo : Nat.beq oo 0
    · rw [hoo] at h; exact h.elim
    rw [hoo] at h
    have hoo := Nat.eq_of_beq_eq_true hoo
    subst hoo
    simp only [cond_true] at h
    split at h
    · rename_i kk v b m l cur rest htk
      obtain ⟨es, clock, seen, hb, hr, hok, hm, hi, hs⟩ := itr_pick S ρ w0 htk hst.hp
      have hx' := R_one S ρ (hx ▸ hL x)
      simp only [SC.den] at hx'
      rw [if_neg (by omega)] at hx'
      split at h
      · rename_i k z
        cases hq : SX.bq z (.f1 152 (.int 0))
        · rw [hq] at h; exact h.elim
        rw [hq] at h
        simp only [cond_true] at h
        split at h
        · rename_i c hc
          have hcur : (((SX.f2 122 k z).den S ρ).toInts) = [(k.den S ρ).toInt] := by
            rw [SX.bq_eq hq]; simp [SX.den, ap1, ap2]
          obtain ⟨e, he, ⟨s, hse⟩, hk⟩ := hok.2.2 _ hcur
          rw [hse] at hi
          have hrun := run_entry_at (P := P) w _ _ clock s es clock e hi hm he hok.1.2.2.1
          refine ⟨w, .inl ⟨.tuple #[e.key, e.val], ?_, ?_⟩⟩
          · unfold execOp; rw [ho]
            refine run_v (s := Instr.entry (ev x)) ?_
            rw [hx']; simpa using hrun
          · refine same_post S ρ w0 (ns := []) hst (by simp) h hst.hp (.inr ?_)
            have hval := (del_filter hk he hok.1.2.2.1 (keys_nodup hok.1.1 hok.1.2.1) hok.1.1).2.1
            have hcd := mapSC_den S ρ hc
            rw [mgetX_den] at hcd
            simp only [den_f3, ap3, den_int, U.toInt_int] at hcd
            simp only [SV.den, tupV, List.map_cons, List.map_nil, SC.den, hcd, hk, hval]
        · exact h.elim
      · exact h.elim
    · exact h.elim
  · exact h.elim
end
end
end Go.Eng

/- The operations that write: that the symbolic run is the model's. The operations joined. -/
set_option linter.unusedSimpArgs false
set_option linter.unusedVariables false
namespace Go.Eng
noncomputable section
open Go.RowKit (Below)
section
variable {G : Type} (S : Sig G) (ρ : Env G) (w0 : World) {P : Program}
theorem lop_call {F : HProp} {st : St} {w : World} {K : SV → St → VC} {ev : Operand → Value} {o : Oper} {c : Call} (ho : o.op = .call c)
    (hst : HSt S w0 F st ρ w) (hL : ∀ x, (lk st.fr x).R S ρ (ev x)) (h : (lop P st (.call c) K).den S ρ) : LOk S ρ w0 F st K ((execOp ev o).run P w) := by
  have hh := h
  unfold lop at hh
  simp only at hh
  split at hh
  · rename_i hc ha ht
    exact lop_append S ρ w0 ho hc ha ht hst hL h
  · rename_i hc ha ht
    exact lop_copy S ρ w0 ho hc ha ht hst hL h
  · rename_i hc ha ht
    exact lop_clear S ρ w0 ho hc ha ht hst hL h
  · rename_i hc ha ht
    exact lop_delete S ρ w0 ho hc ha ht hst hL h
  · exact hh.elim
theorem lop_sound {F : HProp} {st : St} {o : Oper} {w : World} {K : SV → St → VC} {ev : Operand → Value} (hst : HSt S w0 F st ρ w) (hL : ∀ x, (lk st.fr x).R S ρ (ev x)) (h : (lop P st o.op K).den S ρ) :
    ∃ w', (∃ v, (execOp ev o).run P w = .ok (.value v) w' ∧ LPost S ρ w0 F st K w' v) ∨ ((execOp ev o).run P w = .ok .skip w' ∧ LPost S ρ w0 F st K w' undef) := by
  show LOk S ρ w0 F st K ((execOp ev o).run P w)
  have ho : ∃ o', o.op = o' := ⟨_, rfl⟩
  obtain ⟨o', ho⟩ := ho
  rw [ho] at h
  have hh := h
  unfold lop at hh
  simp only at hh
  split at hh
  · exact lop_alloc S ρ w0 ho hst h
  · exact lop_box S ρ w0 ho hst hL h
  · exact lop_makeSlice S ρ w0 ho hst hL h
  · exact lop_makeMap S ρ w0 ho hst h
  · exact lop_buildSlice S ρ w0 ho hst hL h
  · exact lop_store S ρ w0 ho hst hL h
  · exact lop_mapUpdate S ρ w0 ho hst hL h
  · exact lop_call S ρ w0 ho hst hL h
  · exact lop_range S ρ w0 ho hst hL h
  · exact lop_next S ρ w0 ho hst hL h
  · exact lop_entry S ρ w0 ho hst hL h
  · exact hh.elim
end
end
end Go.Eng

/- Regions and code: that the symbolic run is the model's. -/
set_option linter.unusedSimpArgs false
set_option linter.unusedVariables false
namespace Go.Eng
noncomputable section
open Go.RowKit (Below)

section
variable {G : Type} (S : Sig G) (w0 : World) (F : HProp) {P : Program} {C : Cx}

/-- The run of a body, handed to the run of code: calls by it are the model's calls. -/
def BodyOk (S : Sig G) (w0 : World) (F : HProp) (P : Program) (body : Nat → List SV → St → (SV → St → VC) → VC) : Prop :=
  ∀ (f : Nat) (args : List SV) (st : St) (K : SV → St → VC) (ρ : Env G) (w : World) (xs : List Value) (R : Ending → World → Prop), HSt S w0 F st ρ w → st.ok = true → argsR S ρ args xs → (body f args st K).den S ρ →
    (∀ ρ' sv st' w' v, Next' S w0 F st ρ ρ' st' w' → sv.R S ρ' v → (K sv st').den S ρ' → R (.returned v) w') → Calls P f xs.toArray w R
/-- An entry of the model's own, for a function with no body, keeps a contract. -/
def ExtOk (S : Sig G) (P : Program) (f : FuncId) (sp : Ctr) : Prop := ∀ (ch : Nat → Bool) (w0 : World) (F : HProp) (ρ : Env G) (w : World) (xs : List Value),
  argsR S ρ sp.args xs → (∀ e ∈ sp.reqs, (e.den S ρ).toProp) → Sat w0 (star (hpDen (S.wc ch) ρ w0 sp.pre) F) w →
  ∃ v w', (callFunc f xs.toArray).run P w = .ok (.value v) w' ∧ ∃ ρ', Ext sp.ss.length ρ ρ' ∧ sp.res.R S ρ' v ∧ Sat w0 (star (hpDen (S.wc ch) ρ' w0 sp.post) F) w' ∧ ∀ x ∈ sp.facts, (x.den S ρ').toProp
def CxOk (S : Sig G) (P : Program) (C : Cx) : Prop :=
  (∀ f sps, assoc C.specs f = some sps → ∀ sp ∈ sps, sp.wf = true ∧ CtrOk S P f sp) ∧
  (∀ f l, assoc C.anns f = some l → ∀ i sp args, (i, Ann.ghost sp args) ∈ l → sp.wf = true ∧ GhOk S sp) ∧
  (∀ f sps, assoc C.exts f = some sps → ∀ sp ∈ sps, sp.wf = true ∧ ExtOk S P f sp)

theorem lk_R {ρ : Env G} {fr : List SV} {tm : List Value} (h : FrR S ρ fr tm) : ∀ i, (getSV fr i).R S ρ (tm.getD i undef) := by
  intro i
  induction fr generalizing tm i with
  | nil => exact .inl rfl
  | cons s l ih =>
    cases tm with
    | nil => exact h.elim
    | cons v m =>
      cases i with
      | zero => exact h.1
      | succ i => simpa [getSV_succ] using ih h.2 i
theorem lk_eval {ρ : Env G} {fr : List SV} {a : Act} (h : FrR S ρ fr a.tmps.toList) (x : Operand) : (lk fr x).R S ρ (a.eval x) := by
  cases x with
  | tmp t =>
    have := lk_R S h t
    simp only [lk, Act.eval]
    rw [List.getD_eq_getElem?_getD] at this
    rw [Array.getD_eq_getD_getElem?]
    simpa using this
  | const v => exact litSV_R S ρ v
  | global g =>
    right
    simp only [lk, SV.den, SC.den, Act.eval]
    rw [if_neg (show ¬ ((SX.den S ρ (.int (g : Nat))).toInt < 0) by simp only [SX.den, U.toInt_int]; omega)]; rfl
  | func f => right; rfl
theorem FrR_set {ρ : Env G} : ∀ {fr : List SV} {tm : List Value} (i : Nat) {sv : SV} {v : Value}, FrR S ρ fr tm → sv.R S ρ v → FrR S ρ (setSV fr i sv) (tm.set i v)
  | [], [], i, sv, v, h, hv => by rw [setSV_nil]; simp; trivial
  | s :: l, x :: m, 0, sv, v, h, hv => ⟨hv, h.2⟩
  | s :: l, x :: m, i + 1, sv, v, h, hv => ⟨h.1, FrR_set i h.2 hv⟩
  | [], _ :: _, _, _, _, h, _ => h.elim
  | _ :: _, [], _, _, _, h, _ => h.elim
theorem FrR_put {ρ : Env G} {fr : List SV} {a : Act} {dst : Option Tmp} {sv : SV} {v : Value} (h : FrR S ρ fr a.tmps.toList) (hv : sv.R S ρ v) : FrR S ρ (putDst fr dst sv) (a.put dst v).tmps.toList := by
  cases dst with
  | none => exact h
  | some d =>
    simp only [putDst, Act.put, Array.toList_setIfInBounds]
    exact FrR_set S d h hv
theorem put_defers (a : Act) (dst : Option Tmp) (v : Value) : (a.put dst v).defers = a.defers := by cases dst <;> rfl

theorem next_refl {st : St} {ρ : Env G} {w : World} {ns : List SX} (h : HSt S w0 F st ρ w) (hn : ∀ x ∈ ns, (x.den S ρ).toProp) : Next' S w0 F st ρ ρ (st.add ns) w :=
  ⟨Ext.refl _ _, Nat.le_refl _, rfl, fun _ h => h, ⟨h.hp, fun e he => by
    rcases List.mem_append.1 he with he | he
    · exact hn e he
    · exact h.asm e he⟩⟩
theorem next_trans {st st' st'' : St} {ρ ρ' ρ'' : Env G} {w' w'' : World} (h : Next' S w0 F st ρ ρ' st' w') (k : Next' S w0 F st' ρ' ρ'' st'' w'') : Next' S w0 F st ρ ρ'' st'' w'' :=
  ⟨h.ext.trans k.ext h.le, Nat.le_trans h.le k.le, k.fr.trans h.fr, fun l hl => by have := k.frR l (by rw [h.fr]; exact h.frR l hl); rw [h.fr] at this; exact this, k.hs⟩

theorem capsOf_den {ρ : Env G} : ∀ {g : SC} {f : Nat} {l : List SC}, capsOf g = some (f, l) → g.den S ρ = .func (.func f) #[] (l.map (SC.den S ρ)).toArray := by
  intro g
  induction g with
  | fn f => intro f' l h; cases h; rfl
  | cap g x ih _ =>
    intro f l h
    obtain ⟨⟨f', l'⟩, h1, h⟩ := ob_some h
    cases h
    simp only [SC.den, ih h1]
    simp
  | _ => intro f l h; cases h

theorem argsR_map {ρ : Env G} {L : Operand → SV} {ev : Operand → Value} (hL : ∀ x, (L x).R S ρ (ev x)) : ∀ (l : List Operand), argsR S ρ (l.map L) (l.map ev)
  | [] => trivial
  | x :: l => ⟨hL x, argsR_map hL l⟩
theorem argsR_append {ρ : Env G} : ∀ {a b : List SV} {x y : List Value}, argsR S ρ a x → argsR S ρ b y → argsR S ρ (a ++ b) (x ++ y)
  | [], b, [], y, _, h => h
  | s :: a, b, v :: x, y, h, h' => ⟨h.1, argsR_append h.2 h'⟩
  | [], _, _ :: _, _, h, _ => h.elim
  | _ :: _, _, [], _, h, _ => h.elim
theorem argsR_caps {ρ : Env G} : ∀ (l : List SC), argsR S ρ (l.map SV.one) (l.map (SC.den S ρ))
  | [] => trivial
  | c :: l => ⟨.inr rfl, argsR_caps l⟩

theorem callSpecs_sound {f : Nat} {st : St} {ρ : Env G} {w : World} {args : List SV} {K : SV → St → VC} {xs : List Value} {R : Ending → World → Prop} (hst : HSt S w0 F st ρ w) (hx : argsR S ρ args xs)
    (hK : ∀ ρ' sv st' w' v, Next' S w0 F st ρ ρ' st' w' → sv.R S ρ' v → (K sv st').den S ρ' → R (.returned v) w') :
    ∀ (sps : List Ctr), (∀ sp ∈ sps, sp.wf = true ∧ CtrOk S P f sp) → (callSpecs st args K sps).den S ρ → Calls P f xs.toArray w R
  | [], _, h => h.elim
  | sp :: l, hsp, h => by
    simp only [callSpecs] at h
    split at h
    · rename_i v hv
      obtain ⟨hwf, hok⟩ := hsp sp List.mem_cons_self
      obtain ⟨ch, ρc, F', h1, h2, h3, h4⟩ := callSpec_core S ρ w0 hwf hst hx hv h
      refine (hok ch w0 F' ρc w xs h1 h2 h3).mono ?_
      rintro e w' ⟨ρc', v, he, rfl, hr, hs, hf⟩
      obtain ⟨ρ', sv, st', hn, hsv, hk⟩ := h4 ρc' w' he hs hf
      exact hK ρ' sv st' w' v hn (hsv v hr) hk
    · exact callSpecs_sound hst hx hK l (fun sp hm => hsp sp (List.mem_cons_of_mem _ hm)) h

theorem callExts_sound {f : Nat} {st : St} {ρ : Env G} {w : World} {args : List SV} {K : SV → St → VC} {xs : List Value} {R : Ending → World → Prop} (hst : HSt S w0 F st ρ w) (hx : argsR S ρ args xs)
    (hK : ∀ ρ' sv st' w' v, Next' S w0 F st ρ ρ' st' w' → sv.R S ρ' v → (K sv st').den S ρ' → R (.returned v) w') :
    ∀ (sps : List Ctr), (∀ sp ∈ sps, sp.wf = true ∧ ExtOk S P f sp) → (callSpecs st args K sps).den S ρ → ∃ v w', (callFunc f xs.toArray).run P w = .ok (.value v) w' ∧ R (.returned v) w'
  | [], _, h => h.elim
  | sp :: l, hsp, h => by
    simp only [callSpecs] at h
    split at h
    · rename_i v hv
      obtain ⟨hwf, hok⟩ := hsp sp List.mem_cons_self
      obtain ⟨ch, ρc, F', h1, h2, h3, h4⟩ := callSpec_core S ρ w0 hwf hst hx hv h
      obtain ⟨v, w', hrun, ρc', he, hr, hs, hf⟩ := hok ch w0 F' ρc w xs h1 h2 h3
      obtain ⟨ρ', sv, st', hn, hsv, hk⟩ := h4 ρc' w' he hs hf
      exact ⟨v, w', hrun, hK ρ' sv st' w' v hn (hsv v hr) hk⟩
    · exact callExts_sound hst hx hK l (fun sp hm => hsp sp (List.mem_cons_of_mem _ hm)) h

theorem callFn_sound {body : Nat → List SV → St → (SV → St → VC) → VC} (hb : BodyOk S w0 F P body) (hC : CxOk S P C) {st : St} {f : Nat} {ρ : Env G} {w : World} {args : List SV} {K : SV → St → VC} {xs : List Value} {R : Ending → World → Prop}
    (hst : HSt S w0 F st ρ w) (hx : argsR S ρ args xs) (h : (callFn P C body st f args K).den S ρ)
    (hK : ∀ ρ' sv st' w' v, Next' S w0 F st ρ ρ' st' w' → sv.R S ρ' v → (K sv st').den S ρ' → R (.returned v) w') :
    ((callFunc f xs.toArray).run P w = .ok (.enter f xs.toArray) w ∧ Calls P f xs.toArray w R) ∨ (∃ v w', (callFunc f xs.toArray).run P w = .ok (.value v) w' ∧ R (.returned v) w') := by
  unfold callFn at h
  split at h
  · exact h.elim
  · rename_i fn hfn
    cases hnm : (fn.name == "runtime.NumGoroutine")
    · cases hbd : fn.body.isSome
      · rw [hbd, hnm] at h
        simp only [cond_false] at h
        split at h
        · rename_i sps hs
          exact .inr (callExts_sound S w0 F hst hx hK sps (hC.2.2 f sps hs) h)
        · exact h.elim
      · rw [hbd, hnm] at h
        simp only [cond_true, cond_false] at h
        refine .inl ⟨?_, ?_⟩
        · have hnone : fn.body.isNone = false := by cases hq : fn.body <;> simp [hq] at hbd ⊢
          have hne : fn.name ≠ "runtime.NumGoroutine" := by simpa using hnm
          have hbn : fn.body ≠ none := by intro hq; rw [hq] at hnone; cases hnone
          simp [callFunc, hfn, hne, hbn]
        · split at h
          · rename_i sps hs
            exact callSpecs_sound S w0 F hst hx hK sps (hC.1 f sps hs) h
          · cases hok : st.ok
            · rw [hok] at h; exact h.elim
            · rw [hok] at h
              exact hb f args st K ρ w xs R hst hok hx h hK
    · rw [hnm] at h; exact h.elim

/-- One operation. -/
theorem doOp_sound {body : Nat → List SV → St → (SV → St → VC) → VC} (hb : BodyOk S w0 F P body) (hC : CxOk S P C) {st : St} {o : Oper} {ρ : Env G} {w : World} {K : SV → St → VC} {a : Act} {next : Act → World → Prop} {Q : Exit → Act → World → Prop}
    (hst : HSt S w0 F st ρ w) (hL : ∀ x, (lk st.fr x).R S ρ (a.eval x)) (h : (doOp P C body st o K).den S ρ)
    (hK : ∀ ρ' sv st' w' v, Next' S w0 F st ρ ρ' st' w' → sv.R S ρ' v → (K sv st').den S ρ' → next (a.put o.dst v) w') : o.wp P a w next Q := by
  unfold doOp at h
  cases hq : quietOp P o.op
  · rw [hq] at h
    simp only [cond_false] at h
    have lopcase : (lop P st o.op K).den S ρ → o.wp P a w next Q := fun hl => by
      obtain ⟨w', hr⟩ := lop_sound S ρ w0 hst hL hl
      unfold Oper.wp
      rcases hr with ⟨v, hrun, ρ', sv, st', hn, hsv, hk⟩ | ⟨hrun, ρ', sv, st', hn, hsv, hk⟩
      · rw [hrun]; exact hK ρ' sv st' w' v hn hsv hk
      · rw [hrun]; exact hK ρ' sv st' w' undef hn hsv hk
    split at h
    · rename_i c hop
      split at h
      · rename_i f hcal
        split at h
        · rename_i g hg
          split at h
          · rename_i f' caps hcaps
            have hgd := R_one S ρ (hg ▸ hL f)
            rw [capsOf_den S hcaps] at hgd
            have hargs := argsR_append S (argsR_map S hL c.args.toList) (argsR_caps S (ρ := ρ) caps)
            have hcf := callFn_sound S w0 F hb hC (R := fun e w'' => match e with | .returned v => next (a.put o.dst v) w'' | .panicked chain => Q (.panic chain) a w'' | .outgrown => LetsOut Q) hst hargs h
              (fun ρ' sv st' w' v hn hsv hk => hK ρ' sv st' w' v hn hsv hk)
            have hrun : (execOp a.eval o).run P w = (callFunc f' (c.args.toList.map a.eval ++ caps.map (SC.den S ρ)).toArray).run P w := by
              unfold execOp
              rw [hop]
              have harr : (c.args.map a.eval ++ (caps.map (SC.den S ρ)).toArray) = (c.args.toList.map a.eval ++ caps.map (SC.den S ρ)).toArray := by apply Array.ext'; simp
              rw [← harr]
              simp [resolve, hcal, hgd, Deferred.ofValue, invoke]
            unfold Oper.wp
            rcases hcf with ⟨h1, h2⟩ | ⟨v, w', h1, h2⟩
            · rw [hrun, h1, Oper.upon_enter]
              exact h2.mono (fun e w' hh => by cases e <;> exact hh)
            · rw [hrun, h1]
              exact h2
          · exact h.elim
        · exact h.elim
      · exact lopcase h
    · exact lopcase h
  · rw [hq] at h
    simp only [cond_true] at h
    split at h
    · rename_i ns v hv
      obtain ⟨hn, hk⟩ := needs_den S ρ h
      obtain ⟨x, hrun, hx⟩ := qev_sound S ρ w0 hst.asm hst.hp hL hv hn
      unfold Oper.wp
      rw [hrun]
      exact hK ρ v (st.add ns) w x (next_refl S w0 F hst hn) hx hk
    · exact h.elim

/-! ### Guards -/
theorem guard_sound {ρ : Env G} {fr : List SV} {a : Act} (h : FrR S ρ fr a.tmps.toList) (ops : Array Oper) (o : Oper) :
    match guardOf ops fr o with
    | .go => Region.wanted o (yielded ops a.tmps) = true
    | .skip => Region.wanted o (yielded ops a.tmps) = false
    | .ask d e want => (getSV fr d = .one (.bool e)) ∧ ((e.den S ρ).toBool = want → Region.wanted o (yielded ops a.tmps) = true) ∧ ((e.den S ρ).toBool ≠ want → Region.wanted o (yielded ops a.tmps) = false)
    | .bad => True := by
  unfold guardOf
  cases hg : o.guard with
  | none => simp [Region.wanted, hg]
  | some jw =>
    obtain ⟨j, want⟩ := jw
    simp only
    cases hd : (ops[j]?).bind (·.dst) with
    | none => simp
    | some d =>
      simp only
      have hr := lk_R S h d
      have key : ∀ e, getSV fr d = .one (.bool e) → yielded ops a.tmps j = some (e.den S ρ).toBool := fun e he => by
        rw [he] at hr
        have := R_one S ρ hr
        have hlt : a.tmps[d]? = some (.bool (e.den S ρ).toBool) := by
          rw [List.getD_eq_getElem?_getD] at this
          cases hx : a.tmps.toList[d]? with
          | none => rw [hx] at this; simp [undef, SC.den] at this
          | some v => rw [hx] at this; simp only [Option.getD_some] at this; rw [← Array.getElem?_toList, hx, this]; rfl
        unfold yielded
        rw [hd]
        simp only [Option.bind_some, hlt]
      cases hgs : getSV fr d with
      | one c =>
        cases c with
        | bool e =>
          have hy := key e hgs
          have ask : (getSV fr d = .one (.bool e)) ∧ ((e.den S ρ).toBool = want → Region.wanted o (yielded ops a.tmps) = true) ∧ ((e.den S ρ).toBool ≠ want → Region.wanted o (yielded ops a.tmps) = false) :=
            ⟨hgs, fun hw => by simp [Region.wanted, hg, hy, hw], fun hw => by simp [Region.wanted, hg, hy, hw]⟩
          cases e with
          | bool b =>
            simp only
            cases hbq : bbq b want
            · simp only [cond_false]
              refine ask.2.2 ?_
              simp only [SX.den, U.toBool_bool]
              rintro rfl; cases b <;> simp [bbq] at hbq
            · simp only [cond_true]
              exact ask.2.1 (bbq_eq hbq)
          | _ => simp only; exact ask
        | _ => trivial
      | tup vs =>
        cases vs with
        | cons _ _ => trivial
        | nil =>
          rw [hgs] at hr
          have this : a.tmps.toList.getD d undef = undef := by
            rcases hr with h | h
            · cases h
            · exact h
          have hy : yielded ops a.tmps j = none := by
            unfold yielded
            rw [hd]
            simp only [Option.bind_some]
            rw [List.getD_eq_getElem?_getD, Array.getElem?_toList] at this
            cases hx : a.tmps[d]? with
            | none => rfl
            | some v => rw [hx] at this; simp only [Option.getD_some] at this; rw [this]; rfl
          simp [Region.wanted, hg, hy]
      | _ => trivial

theorem srt_bool {ρ : Env G} {e : SX} (h : sq e.srt .bool = true) : e.den S ρ = .bool (e.den S ρ).toBool := by
  have := SX.srt_co S ρ e
  rw [sq_eq h] at this
  exact this.symm
theorem bars_not {asm : List SX} {ρ : Env G} (ha : ∀ x ∈ asm, (x.den S ρ).toProp) {e : SX} (h : bars e asm = true) (he : (e.den S ρ).toProp) (hx : ∃ x, e.den S ρ = .bool x) : False := by
  unfold bars at h
  cases hi : inAsm (eNot e) asm
  · rw [hi] at h
    simp only [cond_false] at h
    unfold clash at h
    split at h
    · rename_i x c
      obtain ⟨q, hq, h⟩ := List.any_eq_true.1 h
      split at h
      · rename_i y d
        cases hb : SX.bq x y
        · rw [hb] at h; cases h
        · rw [hb] at h
          simp only [cond_true, Bool.not_eq_true'] at h
          have h1 := ha _ hq
          have he' : (x.den S ρ).toInt = c := by simpa [SX.den, ap2] using he
          have h1' : (y.den S ρ).toInt = d := by simpa [SX.den, ap2] using h1
          rw [SX.bq_eq hb, h1'] at he'
          subst he'
          rw [ibq_refl] at h; cases h
      · cases h
    · cases h
  · have := ha _ (inAsm_mem hi)
    rw [eNot_den] at this
    obtain ⟨x, hx⟩ := hx
    rw [hx] at this he
    simp at this he
    rw [this] at he; cases he
theorem assume_sound {st : St} {ρ : Env G} {w : World} {a : Act} {d : Nat} {e : SX} {b : Bool} {k : St → VC} (hd : Den S ρ w0 F st a w) (hs : getSV st.fr d = .one (.bool e)) (hb : (e.den S ρ).toBool = b)
    (h : (assume st d e b k).den S ρ) : ∃ st', Den S ρ w0 F st' a w ∧ st'.n = st.n ∧ (k st').den S ρ := by
  unfold assume at h
  simp only at h
  cases hq : sq e.srt .bool
  · rw [hq] at h; exact h.elim
  rw [hq] at h
  simp only [cond_true] at h
  obtain ⟨x, hx⟩ : ∃ x, e.den S ρ = .bool x := ⟨_, srt_bool S hq⟩
  have hx' : x = b := by rw [hx] at hb; exact hb
  subst hx'
  have e1 : ((bif x then e else eNot e).den S ρ).toProp := by
    cases x
    · rw [cond_false, eNot_den, hx]; rfl
    · rw [cond_true, hx]; rfl
  have e2 : ¬ ((bif x then eNot e else e).den S ρ).toProp := by
    cases x
    · rw [cond_false, hx]; simp
    · rw [cond_true, eNot_den, hx]; simp
  cases hin : (bif x then bars e st.asm else inAsm e st.asm)
  · rw [hin] at h
    simp only [cond_false] at h
    refine ⟨{ st with fr := setSV st.fr d (.one (.bool (.bool x))), asm := (bif x then e else eNot e) :: st.asm }, ⟨?_, hd.df, hd.hp, ?_⟩, rfl, h e1⟩
    · have hr := lk_R S hd.fr d
      rw [hs] at hr
      have hv := R_one S ρ hr
      by_cases hlt : d < a.tmps.toList.length
      · have hset : a.tmps.toList = a.tmps.toList.set d (.bool x) := by
          rw [List.getD_eq_getElem?_getD, List.getElem?_eq_getElem hlt] at hv
          simp only [Option.getD_some, SC.den, hx, U.toBool_bool] at hv
          rw [← hv, List.set_getElem_self]
        have := FrR_set S d (sv := .one (.bool (.bool x))) (v := .bool x) hd.fr (.inr rfl)
        rw [← hset] at this; exact this
      · exfalso
        rw [List.getD_eq_getElem?_getD, List.getElem?_eq_none (by omega)] at hv
        simp [undef, SC.den] at hv
    · intro y hy
      rcases List.mem_cons.1 hy with rfl | hy
      · exact e1
      · exact hd.asm y hy
  · cases x
    · exact absurd (hd.asm _ (inAsm_mem hin)) e2
    · exact (bars_not S hd.asm hin e1 ⟨_, hx⟩).elim

theorem den_next {st st' : St} {ρ ρ' : Env G} {w w' : World} {a : Act} {dst : Option Tmp} {sv : SV} {v : Value} (hd : Den S ρ w0 F st a w) (hn : Next' S w0 F st ρ ρ' st' w') (hv : sv.R S ρ' v) :
    Den S ρ' w0 F { st' with fr := putDst st'.fr dst sv } (a.put dst v) w' :=
  ⟨FrR_put S (by rw [hn.fr]; exact hn.frR _ hd.fr) hv, by rw [put_defers]; exact hd.df, hn.hs.hp, hn.hs.asm⟩
theorem den_skip {st : St} {ρ : Env G} {w : World} {a : Act} {dst : Option Tmp} (hd : Den S ρ w0 F st a w) : Den S ρ w0 F { st with fr := putDst st.fr dst (.tup []) } (a.put dst undef) w :=
  ⟨FrR_put S hd.fr (.inr rfl), by rw [put_defers]; exact hd.df, hd.hp, hd.asm⟩
theorem den_hst {st : St} {ρ : Env G} {w : World} {a : Act} (hd : Den S ρ w0 F st a w) : HSt S w0 F st ρ w := ⟨hd.hp, hd.asm⟩
theorem ask_bool {ρ : Env G} {e : SX} {fr : List SV} {tm : List Value} {d : Nat} (h : FrR S ρ fr tm) (hs : getSV fr d = .one (.bool e)) : True := trivial

/-- What a state's later states may be. -/
def After (st : St) (ρ : Env G) (ρ' : Env G) (st' : St) (a' : Act) (w' : World) : Prop := Ext st.n ρ ρ' ∧ st.n ≤ st'.n ∧ Den S ρ' w0 F st' a' w'
theorem After.step {st st1 st' : St} {ρ ρ1 ρ' : Env G} {a' : Act} {w' : World} (h : Ext st.n ρ ρ1) (hn : st.n ≤ st1.n) (k : After S w0 F st1 ρ1 ρ' st' a' w') : After S w0 F st ρ ρ' st' a' w' :=
  ⟨h.trans k.1 hn, Nat.le_trans hn k.2.1, k.2.2⟩

/-- A region in the order of its text. -/
theorem seqR_sound {body : Nat → List SV → St → (SV → St → VC) → VC} (hb : BodyOk S w0 F P body) (hC : CxOk S P C) {ops : Array Oper} {K : St → VC} {Q : Exit → Act → World → Prop} :
    ∀ (l : List Oper) (st : St) (ρ : Env G) (a : Act) (w : World), Den S ρ w0 F st a w → (seqR P C body ops l st K).den S ρ →
      (∀ ρ' st' a' w', After S w0 F st ρ ρ' st' a' w' → (K st').den S ρ' → Q .normal a' w') → wpList P ops Q l a w
  | [], st, ρ, a, w, hd, h, hK => wpList_nil (hK ρ st a w ⟨Ext.refl _ _, Nat.le_refl _, hd⟩ h)
  | o :: rest, st, ρ, a, w, hd, h, hK => by
    simp only [seqR] at h
    have hg := guard_sound S hd.fr ops o
    have go : ∀ st1, Den S ρ w0 F st1 a w → st1.n = st.n → Region.wanted o (yielded ops a.tmps) = true →
        (doOp P C body st1 o fun v st => seqR P C body ops rest { st with fr := putDst st.fr o.dst v } K).den S ρ → wpList P ops Q (o :: rest) a w := by
      intro st1 hd1 hn1 hw h1
      refine wpList_step fun K' hK' => ?_
      rw [if_pos hw]
      refine doOp_sound S w0 F hb hC (den_hst S w0 F hd1) (fun x => lk_eval S hd1.fr x) h1 ?_
      intro ρ' sv st' w' v hn hsv hk
      refine hK' _ _ (seqR_sound hb hC rest _ ρ' _ w' (den_next S w0 F hd1 hn hsv) hk ?_)
      intro ρ2 st2 a2 w2 haf hk2
      exact hK _ _ _ _ (After.step S w0 F (st1 := st') (by rw [← hn1]; exact hn.ext) (by rw [← hn1]; exact hn.le) haf) hk2
    have skip : ∀ st1, Den S ρ w0 F st1 a w → st1.n = st.n → Region.wanted o (yielded ops a.tmps) = false →
        (seqR P C body ops rest { st1 with fr := putDst st1.fr o.dst (.tup []) } K).den S ρ → wpList P ops Q (o :: rest) a w := by
      intro st1 hd1 hn1 hw h1
      refine wpList_step fun K' hK' => ?_
      rw [if_neg (by rw [hw]; simp)]
      refine hK' _ _ (seqR_sound hb hC rest _ ρ _ w (den_skip S w0 F hd1) h1 ?_)
      intro ρ2 st2 a2 w2 haf hk2
      exact hK _ _ _ _ (After.step S w0 F (st1 := { st1 with fr := putDst st1.fr o.dst (.tup []) }) (Ext.refl _ _) (Nat.le_of_eq hn1.symm) haf) hk2
    split at h
    · rename_i he; rw [he] at hg; exact go st hd rfl hg h
    · rename_i he; rw [he] at hg; exact skip st hd rfl hg h
    · rename_i d e want he
      rw [he] at hg
      obtain ⟨hs, hy, hno⟩ := hg
      obtain ⟨ht, hf⟩ := h
      by_cases hw : (e.den S ρ).toBool = want
      · obtain ⟨st1, hd1, hn1, h1⟩ := assume_sound S w0 F hd hs hw ht
        exact go st1 hd1 hn1 (hy hw) h1
      · have hw' : (e.den S ρ).toBool = !want := by cases hx : (e.den S ρ).toBool <;> cases want <;> simp_all
        obtain ⟨st1, hd1, hn1, h1⟩ := assume_sound S w0 F hd hs hw' hf
        exact skip st1 hd1 hn1 (hno hw) h1
    · exact h.elim

/-! ### A region that draws its order -/
/-- Whatever order is picked from here on; what 'T' says of the operations that have been carried out holds behind each. -/
def wpAnyS (P : Program) (ops : Array Oper) (Q : Exit → Act → World → Prop) (T : Array Bool → World → Prop) : Nat → Array Bool → Act → World → Prop
  | 0, listed, a, w => Region.ready .any ops listed = [] ∧ Q .normal a w
  | fuel + 1, listed, a, w =>
    (Region.ready .any ops listed = [] → Q .normal a w) ∧
    ∀ i ∈ Region.ready .any ops listed, wpOp P ops Q i (fun a' w' => T (listed.setIfInBounds i true) w' ∧ wpAnyS P ops Q T fuel (listed.setIfInBounds i true) a' w') a w
theorem wpAny_of_S {ops : Array Oper} {Q : Exit → Act → World → Prop} {T : Array Bool → World → Prop} : ∀ (fuel : Nat) (listed : Array Bool) (a : Act) (w : World), wpAnyS P ops Q T fuel listed a w → wpAny P .any ops Q fuel listed a w
  | 0, _, _, _, h => h
  | fuel + 1, _, _, _, h => ⟨h.1, fun i hi => wpOp_mono (fun a' w' h' => wpAny_of_S fuel _ a' w' h'.2) (h.2 i hi)⟩
theorem wpAnyS_mono {ops : Array Oper} {Q : Exit → Act → World → Prop} {T T' : Array Bool → World → Prop} (hT : ∀ l w, T l w → T' l w) : ∀ (fuel : Nat) (listed : Array Bool) (a : Act) (w : World), wpAnyS P ops Q T fuel listed a w → wpAnyS P ops Q T' fuel listed a w
  | 0, _, _, _, h => h
  | fuel + 1, _, _, _, h => ⟨h.1, fun i hi => wpOp_mono (fun a' w' h' => ⟨hT _ _ h'.1, wpAnyS_mono hT fuel _ a' w' h'.2⟩) (h.2 i hi)⟩

/-- What has been listed has what it waits for listed. -/
def Closed (ops : Array Oper) (listed : Array Bool) : Prop := ∀ j o, ops[j]? = some o → listed.getD j true = true → ∀ e ∈ o.after, Region.binds .any e = true → listed.getD e.on false = true
def YieldsT (P : Program) (ops : Array Oper) (T : Array Bool → World → Prop) (i : Nat) (o : Oper) (v : Value) (a : Act) : Prop :=
  (Region.wanted o (yielded ops a.tmps) = true ∧ ∀ l w, Closed ops l → l.getD i true = false → T l w → (execOp a.eval o).run P w = .ok (.value v) w) ∨
  (Region.wanted o (yielded ops a.tmps) = false ∧ v = undef)
theorem YieldsT.wpOp {ops : Array Oper} {Q : Exit → Act → World → Prop} {T : Array Bool → World → Prop} {i : Nat} {o : Oper} {v : Value} {a : Act} (hi : ops[i]? = some o) (hy : YieldsT P ops T i o v a)
    {l : Array Bool} {K : Act → World → Prop} {w : World} (hc : Closed ops l) (hl : l.getD i true = false) (hT : T l w) (h : K (a.put o.dst v) w) : wpOp P ops Q i K a w := by
  unfold Go.wpOp
  simp only [hi]
  rcases hy with ⟨hw, hv⟩ | ⟨hw, rfl⟩
  · simp only [hw, if_true, Oper.wp, hv l w hc hl hT, Oper.upon]; exact .inl h
  · simp only [hw, Bool.false_eq_true, if_false]; exact h
theorem YieldsT.of_same {ops : Array Oper} {T : Array Bool → World → Prop} {i : Nat} {o : Oper} {v : Value} {a a' : Act} (hy : YieldsT P ops T i o v a) (he : execOp a'.eval o = execOp a.eval o)
    (hw : Region.wanted o (yielded ops a'.tmps) = Region.wanted o (yielded ops a.tmps)) : YieldsT P ops T i o v a' := by
  unfold YieldsT at *
  rw [he, hw]
  exact hy

theorem wpOp_putT {ops : Array Oper} {Q : Exit → Act → World → Prop} {T : Array Bool → World → Prop} {i j : Nat} {oi oj : Oper} {v : Value} (hj : ops[j]? = some oj) (hap : oi.apart ops oj = true)
    (hsi : ∀ cs b, oi.op ≠ .select cs b) (hsj : ∀ cs b, oj.op ≠ .select cs b)
    (hQ : ∀ c a w, Q (.panic c) (a.put oi.dst v) w → Q (.panic c) a w) {K : Act → World → Prop} {a : Act} {w : World}
    (hy : YieldsT P ops T i oi v a) (h : wpOp P ops Q j K (a.put oi.dst v) w) :
    wpOp P ops Q j (fun a' w' => YieldsT P ops T i oi v a' ∧ K (a'.put oi.dst v) w') a w := by
  obtain ⟨h1, h2, h3⟩ := Oper.apart_spec hap
  have keep : ∀ (a : Act), YieldsT P ops T i oi v a → ∀ u, YieldsT P ops T i oi v (a.put oj.dst u) := fun a hy u =>
    hy.of_same (execOp_put oi hsi a oj.dst u h3) (wanted_put oi a oj.dst u h3)
  have keepD : ∀ d, YieldsT P ops T i oi v { a with defers := d :: a.defers } := fun d => hy.of_same rfl rfl
  unfold wpOp at *
  simp only [hj] at *
  rw [wanted_put oj a oi.dst v h1] at h
  split
  · rename_i hw
    simp only [hw, if_true] at h
    rcases h with h | ⟨hasks, hlets⟩
    case inr => exact .inr ⟨by unfold Oper.asks at *; rw [execOp_put oj hsj a oi.dst v h1] at hasks; exact hasks, hlets⟩
    refine .inl ?_
    unfold Oper.wp at *
    rw [execOp_put oj hsj a oi.dst v h1] at h
    generalize (execOp a.eval oj).run P w = r at *
    cases r with
    | ok n w' =>
      cases n <;> simp only [Oper.upon] at h ⊢
      case value u => exact ⟨keep a hy u, by rw [← Act.put_comm a v u h2]; exact h⟩
      case skip => exact ⟨keep a hy _, by rw [← Act.put_comm a v undef h2]; exact h⟩
      case defer d =>
        refine ⟨keep _ (keepD d) _, ?_⟩
        rw [← Act.put_comm _ v undef h2, ← Act.put_defers]
        exact h
      case enter f args =>
        refine Calls.mono h fun e w'' he => ?_
        cases e with
        | returned u => exact ⟨keep a hy u, by rw [← Act.put_comm a v u h2]; exact he⟩
        | panicked c => exact hQ _ _ _ he
        | outgrown => exact he
      case row row args => exact Rows.mono h fun u w'' he => ⟨keep a hy u, by rw [← Act.put_comm a v u h2]; exact he⟩
    | halt x w' =>
      cases x <;> simp only [Oper.upon] at h ⊢
      case panic u => exact hQ _ _ _ h
  · rename_i hw
    simp only [hw] at h
    exact ⟨keep a hy _, by rw [← Act.put_comm a v undef h2]; exact h⟩

theorem Closed.set {ops : Array Oper} {l : Array Bool} {i : Nat} (h : Closed ops l) (hi : i ∈ Region.ready .any ops l) : Closed ops (l.setIfInBounds i true) := by
  intro j o hj hl e he hb
  by_cases hji : j = i
  · subst hji
    obtain ⟨_, o', ho', hall⟩ := mem_ready.1 hi
    rw [hj] at ho'; cases ho'
    exact getD_set_true (hall e he hb)
  · rw [getD_set_ne true (Ne.symm hji)] at hl
    exact getD_set_true (h j o hj hl e he hb)

/-- **An operation that may come up now may be taken first**, if it answers so whenever it may come up. -/
theorem wpAnyS_first {ops : Array Oper} {Q : Exit → Act → World → Prop} {T : Array Bool → World → Prop} {i : Nat} {oi : Oper} {v : Value} (hi : ops[i]? = some oi) (hsel : ∀ (j : Nat) (o : Oper) cs b, ops[j]? = some o → o.op ≠ .select cs b)
    (hQ : ∀ c a w, Q (.panic c) (a.put oi.dst v) w → Q (.panic c) a w) (hTi : ∀ l w, T (l.setIfInBounds i true) w → T l w) :
    ∀ (fuel : Nat) (listed : Array Bool) (a : Act) (w : World), Closed ops listed →
      (∀ j oj, ops[j]? = some oj → j ≠ i → listed.getD j true = false → (∀ e ∈ oj.after, Region.binds .any e = true → e.on ≠ i) → oi.apart ops oj = true) →
      i ∈ Region.ready .any ops listed → YieldsT P ops T i oi v a → T listed w → T (listed.setIfInBounds i true) w →
      wpAnyS P ops Q T fuel (listed.setIfInBounds i true) (a.put oi.dst v) w → wpAnyS P ops Q T (fuel + 1) listed a w := by
  intro fuel
  induction fuel with
  | zero =>
    intro listed a w hc _ hr hy hT hT' H
    refine ⟨fun h => (by rw [h] at hr; cases hr), fun j hj => ?_⟩
    by_cases hji : j = i
    · subst hji; exact hy.wpOp hi hc (mem_ready.1 hr).1 hT ⟨hT', H⟩
    · have := ready_mono hj hji
      rw [H.1] at this
      cases this
  | succ fuel ih =>
    intro listed a w hc hfree hr hy hT hT' H
    refine ⟨fun h => (by rw [h] at hr; cases hr), fun j hj => ?_⟩
    by_cases hji : j = i
    · subst hji; exact hy.wpOp hi hc (mem_ready.1 hr).1 hT ⟨hT', H⟩
    · have h1 := H.2 j (ready_mono hj hji)
      obtain ⟨hjun, oj, hoj, hall⟩ := mem_ready.1 hj
      have hnot : ∀ e ∈ oj.after, Region.binds .any e = true → e.on ≠ i := fun e he hb heq => by
        have h1 := hall e he hb
        have h0 := (mem_ready.1 hr).1
        rw [heq] at h1
        rcases Nat.lt_or_ge i listed.size with h' | h'
        · simp [h'] at h0 h1; rw [h0] at h1; cases h1
        · simp [Array.getElem?_eq_none h'] at h1
      have h2 := wpOp_putT hoj (hfree j oj hoj hji hjun hnot) (fun cs b => hsel i oi cs b hi) (fun cs b => hsel j oj cs b hoj) hQ hy h1
      have hfree' : ∀ k ok, ops[k]? = some ok → k ≠ i → (listed.setIfInBounds j true).getD k true = false →
          (∀ e ∈ ok.after, Region.binds .any e = true → e.on ≠ i) → oi.apart ops ok = true := fun k ok hk hki hun hno => by
        refine hfree k ok hk hki ?_ hno
        by_cases hjk : j = k
        · subst hjk; exact hjun
        · rw [getD_set_ne true hjk] at hun; exact hun
      refine wpOp_mono (fun a' w' h3 => ?_) h2
      obtain ⟨hy', hT3, H3⟩ := h3
      rw [Array.setIfInBounds_comm _ _ (Ne.symm hji)] at hT3 H3
      have hT4 := hTi _ _ hT3
      exact ⟨hT4, ih (listed.setIfInBounds j true) a' w' (hc.set hj) hfree' (ready_mono hr (Ne.symm hji)) hy' hT4 hT3 H3⟩
end
end
end Go.Eng

/- Regions that draw their order: that the symbolic run holds for every order. -/
set_option linter.unusedSimpArgs false
set_option linter.unusedVariables false
namespace Go.Eng
noncomputable section
open Go.RowKit (Below)

section
variable {G : Type} (S : Sig G) (w0 : World) (F : HProp) {P : Program} {C : Cx}

/-- What a record says. -/
structure Say where
  i : Nat
  o : Oper
  ev : Operand → Value
  v : Value
/-- No operation that was carried out, other than the ones taken first, waits for this one. -/
def Valid (ops : Array Oper) (X : Nat → Prop) (l : Array Bool) (s : Say) : Prop :=
  ∀ j o, ops[j]? = some o → ¬ X j → l.getD j true = true → waits o s.i = false
def TR (P : Program) (ops : Array Oper) (X : Nat → Prop) (R : List Say) (l : Array Bool) (w : World) : Prop :=
  ∀ s ∈ R, Valid ops X l s → (execOp s.ev s.o).run P w = .ok (.value s.v) w
def RecDen (ρ : Env G) (r : Rec) (s : Say) : Prop := r.i = s.i ∧ r.o = s.o ∧ (∀ x, (lkA r.L x).R S ρ (s.ev x)) ∧ r.v.R S ρ s.v
def Rels (ops : Array Oper) (X : Nat → Prop) (ρ : Env G) (listed : Array Bool) (recs : List Rec) (R : List Say) : Prop :=
  ∀ s ∈ R, Valid ops X listed s → ∃ r ∈ recs, RecDen S ρ r s

theorem same_den {ρ : Env G} {a b : SV} (h : SV.same a b = true) : a.isJunk = false ∧ b.isJunk = false ∧ a.den S ρ = b.den S ρ := by
  cases a with
  | junk => cases b <;> cases h
  | one c => have := SV.bq_eq (a := .one c) h; subst this; exact ⟨rfl, rfl, rfl⟩
  | agg c => have := SV.bq_eq (a := .agg c) h; subst this; exact ⟨rfl, rfl, rfl⟩
  | tup x =>
    cases b with
    | tup y =>
      simp only [SV.same] at h
      split at h
      · rename_i heq
        exact ⟨rfl, rfl, (eqTs_sound S ρ (asm := []) (by simp) heq (by simp)).1⟩
      · cases h
    | junk => cases h
    | one c => cases h
    | agg c => cases h
theorem assoc_mem {α : Type} : ∀ {l : List (Nat × α)} {i : Nat} {x : α}, assoc l i = some x → (i, x) ∈ l
  | [], _, _, h => by cases h
  | (j, y) :: l, i, x, h => by
    simp only [assoc] at h
    cases hq : Nat.beq j i
    · first
        | (rw [hq] at h; exact List.mem_cons_of_mem _ (assoc_mem h))
        | (rw [show Nat.beq i j = false by cases h' : Nat.beq i j; rfl; rw [Nat.eq_of_beq_eq_true h'] at hq; simp at hq] at h; exact List.mem_cons_of_mem _ (assoc_mem h))
    · have := Nat.eq_of_beq_eq_true hq
      subst this
      rw [hq] at h; cases h; exact List.mem_cons_self
theorem lkA_ext {n : Nat} {ρ ρ' : Env G} (h : Ext n ρ ρ') {L : List (Nat × SV)} (hl : L.all (fun p => p.2.lt n) = true) {x : Operand} {v : Value} (hv : (lkA L x).R S ρ v) : (lkA L x).R S ρ' v := by
  cases x with
  | tmp t =>
    simp only [lkA] at *
    split at hv
    · rename_i sv hs
      have hm : (t, sv) ∈ L := assoc_mem hs
      have := List.all_eq_true.1 hl _ hm
      rcases hv with hv | hv
      · exact .inl hv
      · exact .inr (by rw [SV.den_ext S h this]; exact hv)
    · exact .inl rfl
  | const c =>
    have h1 := litSV_R S ρ c
    have h2 := litSV_R S ρ' c
    rcases hv with hv | hv
    · exact .inl hv
    · rcases h1 with h1 | h1
      · exact .inl h1
      · have : v = c := by rw [h1]; exact hv
        subst this; exact h2
  | global g => exact hv.imp id fun h' => h'
  | func f => exact hv.imp id fun h' => h'
theorem snap_R {ρ : Env G} {fr : List SV} {a : Act} (h : FrR S ρ fr a.tmps.toList) (o : Op) (x : Operand) : (lkA (snap fr o) x).R S ρ (a.eval x) := by
  have hx := lk_eval S h x
  cases x with
  | tmp t =>
    simp only [lkA]
    split
    · rename_i sv hs
      have hm := assoc_mem hs
      unfold snap at hm
      obtain ⟨y, _, hy⟩ := List.mem_filterMap.1 hm
      cases y <;> simp at hy
      obtain ⟨rfl, rfl⟩ := hy
      exact hx
    · exact .inl rfl
  | const c => exact hx
  | global g => exact hx
  | func f => exact hx

theorem firstQuiet_spec {fr : List SV} {ops : Array Oper} : ∀ {l : List Nat} {i : Nat} {o : Oper}, firstQuiet P fr ops l = some (i, o) → i ∈ l ∧ ops[i]? = some o
  | [], _, _, h => nomatch h
  | j :: l, i, o, h => by
    simp only [firstQuiet] at h
    split at h
    · rename_i o' ho
      cases hq : quietAt P fr ops o'
      · rw [hq] at h; have := firstQuiet_spec h; exact ⟨List.mem_cons_of_mem _ this.1, this.2⟩
      · rw [hq] at h; cases h; exact ⟨List.mem_cons_self, ho⟩
    · cases h

/-- How many have not been carried out. -/
def left (listed : Array Bool) : Nat := listed.toList.countP (· == false)
theorem left_set {l : Array Bool} {i : Nat} (h : l.getD i true = false) : left (l.setIfInBounds i true) + 1 = left l := by
  unfold left
  rw [Array.toList_setIfInBounds]
  rw [Array.getD_eq_getD_getElem?, ← Array.getElem?_toList] at h
  revert h
  generalize l.toList = m
  intro h
  induction m generalizing i with
  | nil => simp at h
  | cons b m ih =>
    cases i with
    | zero => simp at h; subst h; simp
    | succ i =>
      have := ih (i := i) (by simpa using h)
      simp only [List.set_cons_succ, List.countP_cons]
      omega
theorem left_zero {ops : Array Oper} {l : Array Bool} (h : left l = 0) : Region.ready .any ops l = [] := by
  apply List.eq_nil_iff_forall_not_mem.2
  intro i hi
  have := left_set (mem_ready.1 hi).1
  omega
theorem getD_lt {l : Array Bool} {i : Nat} (h : l.getD i true = false) : i < l.size := by
  rcases Nat.lt_or_ge i l.size with h' | h'
  · exact h'
  · simp [Array.getElem?_eq_none h'] at h
theorem getD_set_self {l : Array Bool} {i : Nat} (h : l.getD i true = false) (d : Bool) : (l.setIfInBounds i true).getD i d = true := by
  simp [getD_lt h]

theorem wpAnyS_done {ops : Array Oper} {Q : Exit → Act → World → Prop} {T : Array Bool → World → Prop} {listed : Array Bool} {a : Act} {w : World} (hr : Region.ready .any ops listed = []) (h : Q .normal a w) : ∀ k, wpAnyS P ops Q T k listed a w
  | 0 => ⟨hr, h⟩
  | k + 1 => ⟨fun _ => h, by rw [hr]; simp⟩

theorem valid_anti {ops : Array Oper} {X : Nat → Prop} {l : Array Bool} {i : Nat} {s : Say} (hl : l.getD i true = false) (h : Valid ops X (l.setIfInBounds i true) s) : Valid ops X l s := by
  intro j o hj hx hlj
  refine h j o hj hx ?_
  by_cases hij : i = j
  · subst hij; exact getD_set_self hl _
  · rw [getD_set_ne true hij]; exact hlj
theorem valid_drop {ops : Array Oper} {X : Nat → Prop} {l : Array Bool} {i : Nat} {s : Say} (hl : l.getD i true = false) (h : Valid ops (fun j => X j ∨ j = i) l s) : Valid ops X l s := by
  intro j o hj hx hlj
  refine h j o hj (fun h' => ?_) hlj
  rcases h' with h' | rfl
  · exact hx h'
  · rw [hl] at hlj; cases hlj
theorem valid_setX {ops : Array Oper} {X : Nat → Prop} {l : Array Bool} {i : Nat} {s : Say} (h : Valid ops (fun j => X j ∨ j = i) (l.setIfInBounds i true) s) : Valid ops (fun j => X j ∨ j = i) l s := by
  intro j o hj hx hlj
  have hij : i ≠ j := fun h' => hx (.inr h'.symm)
  exact h j o hj hx (by rw [getD_set_ne true hij]; exact hlj)
theorem valid_setX' {ops : Array Oper} {X : Nat → Prop} {l : Array Bool} {i : Nat} {s : Say} (h : Valid ops (fun j => X j ∨ j = i) l s) : Valid ops (fun j => X j ∨ j = i) (l.setIfInBounds i true) s := by
  intro j o hj hx hlj
  have hij : i ≠ j := fun h' => hx (.inr h'.symm)
  exact h j o hj hx (by rw [getD_set_ne true hij] at hlj; exact hlj)

theorem conj_den {ρ : Env G} : ∀ {l : List VC}, (VC.conj l).den S ρ → ∀ v ∈ l, v.den S ρ
  | [], _, v, hv => nomatch hv
  | [a], h, v, hv => by rw [List.mem_singleton] at hv; subst hv; exact h
  | a :: b :: l, h, v, hv => by
    obtain ⟨h1, h2⟩ := h
    rcases List.mem_cons.1 hv with rfl | hv
    · exact h1
    · exact conj_den (l := b :: l) h2 v hv
theorem firstAsk_spec {ρ : Env G} {fr : List SV} {a : Act} (hfr : FrR S ρ fr a.tmps.toList) {ops : Array Oper} {d : Nat} {e : SX} {want : Bool} : ∀ {l : List Nat}, firstAsk fr ops l = some (d, e, want) → getSV fr d = .one (.bool e) ∧ True
  | [], h => nomatch h
  | i :: l, h => by
    simp only [firstAsk] at h
    split at h
    · rename_i o ho
      have hg := guard_sound S hfr ops o
      split at h
      · rename_i d' e' want' he
        rw [he] at hg
        cases h
        exact ⟨hg.1, trivial⟩
      · exact firstAsk_spec hfr h
    · cases h
theorem drawR_sound {body : Nat → List SV → St → (SV → St → VC) → VC} (hb : BodyOk S w0 F P body) (hC : CxOk S P C) {ops : Array Oper} {K : St → VC} {Q : Exit → Act → World → Prop} (hns : Region.noSelect ops = true) (hQp : ∀ c a w, ¬ Q (.panic c) a w) :
    ∀ (fuel : Nat) (listed : Array Bool) (recs : List Rec) (st : St) (X : Nat → Prop) (R : List Say) (k : Nat) (ρ : Env G) (a : Act) (w : World), Den S ρ w0 F st a w → Closed ops listed → (∀ j, X j → listed.getD j true = true) →
      Rels S ops X ρ listed recs R → TR P ops X R listed w → left listed ≤ k → (drawR P C body ops fuel listed recs st K).den S ρ →
      (∀ ρ' st' a' w', After S w0 F st ρ ρ' st' a' w' → (K st').den S ρ' → Q .normal a' w') → wpAnyS P ops Q (TR P ops X R) k listed a w := by
  intro fuel
  induction fuel with
  | zero =>
    intro listed recs st X R k ρ a w hd hc hX hrel hT hk h hK
    simp only [drawR] at h
    split at h
    · rename_i hr; exact wpAnyS_done hr (hK ρ st a w ⟨Ext.refl _ _, Nat.le_refl _, hd⟩ h) k
    · exact h.elim
  | succ fuel ih =>
    intro listed recs st X R k ρ a w hd hc hX hrel hT hk h hK
    have done : ∀ st1, Den S ρ w0 F st1 a w → st1.n = st.n → (drawR P C body ops fuel listed recs st1 K).den S ρ → wpAnyS P ops Q (TR P ops X R) k listed a w := fun st1 hd1 hn1 h1 =>
      ih listed recs st1 X R k ρ a w hd1 hc hX hrel hT hk h1 fun ρ' st' a' w' haf hk' => hK ρ' st' a' w' (After.step S w0 F (st1 := st1) (Ext.refl _ _) (Nat.le_of_eq hn1.symm) haf) hk'
    simp only [drawR] at h
    split at h
    · rename_i hr; exact wpAnyS_done hr (hK ρ st a w ⟨Ext.refl _ _, Nat.le_refl _, hd⟩ h) k
    · rename_i i0 rest hready
      split at h
      · -- a quiet one is taken first
        rename_i i o hfq
        obtain ⟨hmem, hi⟩ := firstQuiet_spec hfq
        have hir : i ∈ Region.ready .any ops listed := by rw [hready]; exact hmem
        have hil := (mem_ready.1 hir).1
        cases hfree : Region.free .any ops listed i
        · rw [hfree] at h; exact h.elim
        rw [hfree] at h
        simp only [cond_true] at h
        obtain ⟨k', rfl⟩ : ∃ k', k = k' + 1 := ⟨k - 1, by have := left_set hil; omega⟩
        have hk' : left (listed.setIfInBounds i true) ≤ k' := by have := left_set hil; omega
        have hX' : ∀ j, (X j ∨ j = i) → (listed.setIfInBounds i true).getD j true = true := by
          rintro j (hj | rfl)
          · by_cases hij : i = j
            · subst hij; exact getD_set_self hil _
            · rw [getD_set_ne true hij]; exact hX j hj
          · exact getD_set_self hil _
        -- what the records of before say holds for the larger set, too
        have mono : ∀ R', (∀ s ∈ R, s ∈ R') → ∀ l w, TR P ops (fun j => X j ∨ j = i) R' l w → TR P ops X R l w := fun R' hsub l w hT' s hs hv =>
          hT' s (hsub s hs) fun j o' hj hx hlj => hv j o' hj (fun h' => hx (.inl h')) hlj
        have core : ∀ (R' : List Say) (v : Value) , (∀ s ∈ R, s ∈ R') → YieldsT P ops (TR P ops (fun j => X j ∨ j = i) R') i o v a → TR P ops (fun j => X j ∨ j = i) R' listed w →
            wpAnyS P ops Q (TR P ops (fun j => X j ∨ j = i) R') k' (listed.setIfInBounds i true) (a.put o.dst v) w → wpAnyS P ops Q (TR P ops X R) (k' + 1) listed a w := by
          intro R' v hsub hy hTl hrest
          refine wpAnyS_mono (mono R' hsub) _ _ _ _ ?_
          refine wpAnyS_first hi (Region.noSelect_spec hns) (fun c a w h' => absurd h' (hQp c _ w)) ?_ k' listed a w hc (Region.free_spec hi hfree) hir hy hTl ?_ hrest
          · intro l w hTl s hs hv; exact hTl s hs (valid_setX' hv)
          · intro s hs hv; exact hTl s hs (valid_setX hv)
        have hT1 : TR P ops (fun j => X j ∨ j = i) R listed w := fun s hs hv => hT s hs (valid_drop hil hv)
        have hrel1 : ∀ s ∈ R, Valid ops (fun j => X j ∨ j = i) (listed.setIfInBounds i true) s → ∃ r ∈ recs, RecDen S ρ r s := fun s hs hv => hrel s hs (valid_drop hil (valid_setX hv))
        have go : ∀ st1, Den S ρ w0 F st1 a w → st1.n = st.n → Region.wanted o (yielded ops a.tmps) = true →
            (match qev P st1.hp st1.asm (lkA (snap st1.fr o.op)) o.op with
              | some (ns, v) => VC.needs ns (drawR P C body ops fuel (listed.setIfInBounds i true) (⟨i, o, snap st1.fr o.op, v⟩ :: recs) { (st1.add ns) with fr := putDst st1.fr o.dst v } K)
              | none => VC.ff 35).den S ρ → wpAnyS P ops Q (TR P ops X R) (k' + 1) listed a w := by
          intro st1 hd1 hn1 hw h1
          split at h1
          · rename_i ns sv hv
            obtain ⟨hn, hk2⟩ := needs_den S ρ h1
            have hL := fun x => snap_R S hd1.fr o.op x
            obtain ⟨x, hrun, hx⟩ := qev_sound S ρ w0 hd1.asm hd1.hp hL hv hn
            refine core (⟨i, o, a.eval, x⟩ :: R) x (fun s hs => List.mem_cons_of_mem _ hs) ?_ ?_ ?_
            · refine .inl ⟨hw, fun l w hcl hli hTl => hTl ⟨i, o, a.eval, x⟩ List.mem_cons_self ?_⟩
              intro j o' hj hx' hlj
              cases hwt : waits o' i
              · rfl
              · exfalso
                obtain ⟨e, he, hbe⟩ := Array.any_eq_true'.1 hwt
                simp only [Bool.and_eq_true, beq_iff_eq] at hbe
                have := hcl j o' hj hlj e he hbe.1
                rw [hbe.2] at this
                have hlt := getD_lt hli
                simp [hlt] at this hli
                rw [hli] at this; cases this
            · intro s hs hv'
              rcases List.mem_cons.1 hs with rfl | hs
              · exact hrun
              · exact hT1 s hs hv'
            · refine ih _ _ _ _ _ k' ρ _ w (den_next S w0 F hd1 (next_refl S w0 F (den_hst S w0 F hd1) hn) hx) (hc.set hir) hX' ?_ ?_ hk' hk2 ?_
              · intro s hs hv'
                rcases List.mem_cons.1 hs with rfl | hs
                · exact ⟨_, List.mem_cons_self, rfl, rfl, hL, hx⟩
                · obtain ⟨r, hr, hrd⟩ := hrel1 s hs hv'
                  exact ⟨r, List.mem_cons_of_mem _ hr, hrd⟩
              · intro s hs hv'
                rcases List.mem_cons.1 hs with rfl | hs
                · exact hrun
                · exact hT1 s hs (valid_setX hv')
              · intro ρ' st' a' w' haf hk3
                exact hK _ _ _ _ (After.step S w0 F (st1 := { (st1.add ns) with fr := putDst st1.fr o.dst sv }) (Ext.refl _ _) (Nat.le_of_eq hn1.symm) haf) hk3
          · exact h1.elim
        have skip : ∀ st1, Den S ρ w0 F st1 a w → st1.n = st.n → Region.wanted o (yielded ops a.tmps) = false →
            (drawR P C body ops fuel (listed.setIfInBounds i true) recs { st1 with fr := putDst st1.fr o.dst (.tup []) } K).den S ρ → wpAnyS P ops Q (TR P ops X R) (k' + 1) listed a w := by
          intro st1 hd1 hn1 hw h1
          refine core R undef (fun s hs => hs) (.inr ⟨hw, rfl⟩) hT1 ?_
          refine ih _ _ _ _ _ k' ρ _ w (den_skip S w0 F hd1) (hc.set hir) hX' hrel1 (fun s hs hv => hT1 s hs (valid_setX hv)) hk' h1 ?_
          intro ρ' st' a' w' haf hk3
          exact hK _ _ _ _ (After.step S w0 F (st1 := { st1 with fr := putDst st1.fr o.dst (.tup []) }) (Ext.refl _ _) (Nat.le_of_eq hn1.symm) haf) hk3
        have hg := guard_sound S hd.fr ops o
        split at h
        · rename_i he; rw [he] at hg; exact go st hd rfl hg h
        · rename_i he; rw [he] at hg; exact skip st hd rfl hg h
        · rename_i d e want he
          rw [he] at hg
          obtain ⟨hs, hy, hno⟩ := hg
          obtain ⟨ht, hf⟩ := h
          by_cases hw : (e.den S ρ).toBool = want
          · obtain ⟨st1, hd1, hn1, h1⟩ := assume_sound S w0 F hd hs hw ht
            exact go st1 hd1 hn1 (hy hw) h1
          · have hw' : (e.den S ρ).toBool = !want := by cases hx : (e.den S ρ).toBool <;> cases want <;> simp_all
            obtain ⟨st1, hd1, hn1, h1⟩ := assume_sound S w0 F hd hs hw' hf
            exact done st1 hd1 hn1 h1
        · exact h.elim
      · -- loud ones: whichever comes
        split at h
        · rename_i d e want hfa
          obtain ⟨hs, _⟩ := firstAsk_spec S hd.fr hfa
          obtain ⟨ht, hf⟩ := h
          by_cases hw : (e.den S ρ).toBool = want
          · obtain ⟨st1, hd1, hn1, h1⟩ := assume_sound S w0 F hd hs hw ht
            exact done st1 hd1 hn1 h1
          · have hw' : (e.den S ρ).toBool = !want := by cases hx : (e.den S ρ).toBool <;> cases want <;> simp_all
            obtain ⟨st1, hd1, hn1, h1⟩ := assume_sound S w0 F hd hs hw' hf
            exact done st1 hd1 hn1 h1
        · have hir0 : i0 ∈ Region.ready .any ops listed := by rw [hready]; exact List.mem_cons_self
          have hil0 := (mem_ready.1 hir0).1
          obtain ⟨k', rfl⟩ : ∃ k', k = k' + 1 := ⟨k - 1, by have := left_set hil0; omega⟩
          refine ⟨fun h0 => (by rw [h0] at hir0; cases hir0), fun j hj => ?_⟩
          have hil := (mem_ready.1 hj).1
          have hir := hj
          have hk' : left (listed.setIfInBounds j true) ≤ k' := by have := left_set hil; omega
          rw [hready] at hj
          have h := conj_den S h _ (List.mem_map_of_mem hj)
          split at h
          · rename_i o hi
            have hg := guard_sound S hd.fr ops o
            split at h
            · rename_i he
              rw [he] at hg
              unfold Go.wpOp
              simp only [hi, hg, if_true]
              refine .inl (doOp_sound S w0 F hb hC (den_hst S w0 F hd) (fun x => lk_eval S hd.fr x) h ?_)
              intro ρ' sv st' w' v hn hsv hk2
              cases hall : (recs.filter fun r => !(waits o r.i)).all (recOk P st'.hp st'.asm st.n)
              · rw [hall] at hk2; exact hk2.elim
              rw [hall] at hk2
              simp only [cond_true] at hk2
              have hrel2 : ∀ s ∈ R, Valid ops X (listed.setIfInBounds j true) s → ∃ r ∈ recs.filter (fun r => !(waits o r.i)), RecDen S ρ r s := by
                intro s hs hv
                obtain ⟨r, hr, hrd⟩ := hrel s hs (valid_anti hil hv)
                refine ⟨r, List.mem_filter.2 ⟨hr, ?_⟩, hrd⟩
                have := hv j o hi (fun hx => by have := hX j hx; rw [hil] at this; cases this) (getD_set_self hil _)
                rw [hrd.1, this]; rfl
              have hrec : ∀ r ∈ recs.filter (fun r => !(waits o r.i)), ∀ s, RecDen S ρ r s → RecDen S ρ' r s ∧ (execOp s.ev s.o).run P w' = .ok (.value s.v) w' := by
                intro r hr s hrd
                have hro := List.all_eq_true.1 hall r hr
                unfold recOk at hro
                cases hvl : r.v.lt st.n
                · rw [hvl] at hro; cases hro
                cases hLl : r.L.all (fun p => p.2.lt st.n)
                · rw [hvl, hLl] at hro; cases hro
                rw [hvl, hLl] at hro
                simp only [cond_true] at hro
                split at hro
                · rename_i v' hq
                  obtain ⟨h1, h2, h3, h4⟩ := hrd
                  have h3' : ∀ x, (lkA r.L x).R S ρ' (s.ev x) := fun x => lkA_ext S hn.ext hLl (h3 x)
                  obtain ⟨x, hrun, hx⟩ := qev_sound S ρ' w0 hn.hs.asm hn.hs.hp h3' hq (fun e he => nomatch he)
                  obtain ⟨hj1, hj2, hsame⟩ := same_den S (ρ := ρ') hro
                  have hvd : s.v = r.v.den S ρ := h4.resolve_left (by rw [hj1]; simp)
                  have hxd : x = v'.den S ρ' := hx.resolve_left (by rw [hj2]; simp)
                  have hsv' : s.v = r.v.den S ρ' := by rw [hvd, SV.den_ext S hn.ext hvl]
                  refine ⟨⟨h1, h2, h3', .inr hsv'⟩, ?_⟩
                  rw [← h2, hrun, hxd, hsv', hsame]
                · cases hro
              have hT2 : TR P ops X R (listed.setIfInBounds j true) w' := by
                intro s hs hv
                obtain ⟨r, hr, hrd⟩ := hrel2 s hs hv
                exact (hrec r hr s hrd).2
              refine ⟨hT2, ih _ _ _ X R k' ρ' _ w' (den_next S w0 F hd hn hsv) (hc.set hir) ?_ ?_ hT2 hk' hk2 ?_⟩
              · intro j' hj'
                by_cases hij : j = j'
                · subst hij; exact getD_set_self hil _
                · rw [getD_set_ne true hij]; exact hX j' hj'
              · intro s hs hv
                obtain ⟨r, hr, hrd⟩ := hrel2 s hs hv
                exact ⟨r, hr, (hrec r hr s hrd).1⟩
              · intro ρ2 st2 a2 w2 haf hk3
                exact hK _ _ _ _ (After.step S w0 F (st1 := { st' with fr := putDst st'.fr o.dst sv }) hn.ext hn.le haf) hk3
            · exact h.elim
          · exact h.elim

theorem drew_sat {H : HProp} {w : World} (h : Sat w0 H w) : Sat w0 H { w with drawn := w.drawn + 1 } := Sat.drew h _

theorem region_draw_sound {body : Nat → List SV → St → (SV → St → VC) → VC} (hb : BodyOk S w0 F P body) (hC : CxOk S P C) {id : Nat} {ops : Array Oper} {K : St → VC} {Q : Exit → Act → World → Prop} (hm : P.follows .mixedOrders = true) (hns : Region.noSelect ops = true) (hQp : ∀ c a w, ¬ Q (.panic c) a w)
    {fuel : Nat} {st : St} {ρ : Env G} {a : Act} {w : World} (hd : Den S ρ w0 F st a w) (h : (drawR P C body ops fuel (Array.replicate ops.size false) [] st K).den S ρ)
    (hK : ∀ ρ' st' a' w', After S w0 F st ρ ρ' st' a' w' → (K st').den S ρ' → Q .normal a' w') : (Code.region id ops true).wp P Q a w := by
  refine wp_region_any hm ?_
  refine wpAny_of_S _ _ _ _ (drawR_sound S w0 F hb hC hns hQp fuel _ [] st (fun _ => False) [] ops.size ρ a _ ⟨hd.fr, hd.df, Sat.drew hd.hp _, hd.asm⟩ ?_ (fun _ h => h.elim) (fun s hs => nomatch hs) (fun s hs => nomatch hs) ?_ h hK)
  · intro j o hj hl
    have hlt : j < ops.size := (Array.getElem?_eq_some_iff.1 hj).1
    simp [hlt] at hl
  · unfold left
    exact Nat.le_trans List.countP_le_length (by simp)
end
end
end Go.Eng

/- Code, bodies, contracts: that the symbolic run is the model's. -/
set_option linter.unusedSimpArgs false
set_option linter.unusedVariables false
namespace Go.Eng
noncomputable section
open Go.RowKit (Below)

section
variable {G : Type} (S : Sig G) (w0 : World) (F : HProp) {P : Program} {C : Cx}

/-! ### Loops -/
def WpIn (P : Program) (c : Code) (Q : Exit → Act → World → Prop) (a : Act) (w : World) : Prop :=
  ∀ (b : Frame) (k : List Item) (cs : List Frame), ∃ e a' w', Q e a' w' ∧ Arrives P (lone (b.at a (.code c :: .inLoop c :: k)) cs w) b k cs e a' w'
theorem wpIn_loop {c : Code} {Q : Exit → Act → World → Prop} {a : Act} {w : World} (h : WpIn P c Q a w) : (Code.loop c).wp P Q a w := by
  intro b k cs
  obtain ⟨e, a', w', hq, harr⟩ := h b k cs
  exact ⟨e, a', w', hq, .of_steps (.one step_loop) harr⟩
theorem wpIn_step {c : Code} {Q : Exit → Act → World → Prop} {a : Act} {w : World} (h : c.wp P (Exit.then (WpIn P c Q) Q) a w) : WpIn P c Q a w := by
  intro b k cs
  obtain ⟨e, a₁, w₁, hq, harr⟩ := h b (.inLoop c :: k) cs
  cases e with
  | normal =>
    obtain ⟨e₂, a₂, w₂, hq₂, harr₂⟩ := hq b k cs
    exact ⟨e₂, a₂, w₂, hq₂, .of_steps (Steps.trans harr (.one step_inLoop)) harr₂⟩
  | exit id => exact ⟨_, a₁, w₁, hq, .pass (x := .inLoop c) rfl (fun _ _ => .inl (by simp)) harr⟩
  | goto l => exact ⟨_, a₁, w₁, hq, .pass (x := .inLoop c) rfl (fun _ _ => .inl (by simp)) harr⟩
  | ret => exact ⟨_, a₁, w₁, hq, .pass (x := .inLoop c) rfl (fun _ _ => .inl (by simp)) harr⟩
  | panic ch => exact ⟨_, a₁, w₁, hq, .pass (x := .inLoop c) rfl (fun _ _ => .inl (by simp)) harr⟩
  | outgrown => exact ⟨_, a₁, w₁, hq, .pass (x := .inLoop c) rfl (fun _ _ => .inl (by simp)) harr⟩
theorem wpIn_inv {c : Code} {Q : Exit → Act → World → Prop} (I : Nat → Act → World → Prop) (round : ∀ n a w, I n a w → c.wp P (Exit.then (fun a' w' => ∃ m, m < n ∧ I m a' w') Q) a w) :
    ∀ n a w, I n a w → WpIn P c Q a w := by
  intro n
  induction n using Nat.strongRecOn with
  | _ n ih =>
    intro a w hI
    refine wpIn_step (wp_mono (round n a w hI) ?_)
    intro e a' w' h
    cases e with
    | normal => obtain ⟨m, hm, hI'⟩ := h; exact ih m hm a' w' hI'
    | _ => exact h

/-! ### Annotations -/
theorem annsOf_mem {f id : Nat} {a : Ann} (h : a ∈ annsOf C f id) : ∃ l i, assoc C.anns f = some l ∧ (i, a) ∈ l := by
  unfold annsOf at h
  split at h
  · rename_i l hl
    obtain ⟨⟨i, b⟩, hm, hb⟩ := List.mem_filterMap.1 h
    simp only [Bool.cond_eq_ite] at hb
    split at hb
    · cases hb; exact ⟨l, i, hl, hm⟩
    · cases hb
  · cases h

/-! ### Invariants -/
theorem Ch.bq_eq {a b : Ch} (h : Ch.bq a b = true) : a = b := by
  cases a <;> cases b <;> simp only [Ch.bq, Bool.cond_eq_ite] at h <;> first | (cases h; done) | skip
  · split at h
    · rename_i h1; split at h
      · rename_i h2; rw [Nat.eq_of_beq_eq_true h1, SX.bq_eq h2, SCs.bq_eq h]
      · cases h
    · cases h
  · split at h
    · rename_i h1; split at h
      · rename_i h2; split at h
        · rename_i h3; rw [of_decide_eq_true h1, SX.bq_eq h2, SX.bq_eq h3, SX.bq_eq h]
        · cases h
      · cases h
    · cases h
  · split at h
    · rename_i h1; split at h
      · rename_i h2; split at h
        · rename_i h3; rw [of_decide_eq_true h1, SX.bq_eq h2, SX.bq_eq h3, SX.bq_eq h]
        · cases h
      · cases h
    · cases h
  · split at h
    · rename_i h0; split at h
      · rename_i h1; split at h
        · rename_i h2; split at h
          · rename_i h3; split at h
            · rename_i h4; rw [Nat.eq_of_beq_eq_true h0, of_decide_eq_true h1, SX.bq_eq h2, SX.bq_eq h3, SX.bq_eq h4, SX.bq_eq h]
            · cases h
          · cases h
        · cases h
      · cases h
    · cases h
  · split at h
    · rename_i h0; split at h
      · rename_i h1; split at h
        · rename_i h2; rw [kn_inj (Nat.eq_of_beq_eq_true h0), of_decide_eq_true h1, SX.bq_eq h2, SX.bq_eq h]
        · cases h
      · cases h
    · cases h
  · split at h
    · rename_i h1; split at h
      · rename_i h2; rw [Nat.eq_of_beq_eq_true h1, SX.bq_eq h2, SX.bq_eq h]
      · cases h
    · cases h
  · simp only [← Bool.cond_eq_ite] at h
    rename_i kk v b m r l c kk' v' b' m' r' l' c'
    cases h1 : Nat.beq (kn kk) (kn kk')
    · rw [h1] at h; cases h
    cases h2 : decide (v = v')
    · rw [h1, h2] at h; cases h
    cases h3 : SX.bq b b'
    · rw [h1, h2, h3] at h; cases h
    cases h4 : SX.bq m m'
    · rw [h1, h2, h3, h4] at h; cases h
    cases h5 : SX.bq r r'
    · rw [h1, h2, h3, h4, h5] at h; cases h
    cases h6 : SX.bq l l'
    · rw [h1, h2, h3, h4, h5, h6] at h; cases h
    rw [h1, h2, h3, h4, h5, h6] at h
    rw [kn_inj (Nat.eq_of_beq_eq_true h1), of_decide_eq_true h2, SX.bq_eq h3, SX.bq_eq h4, SX.bq_eq h5, SX.bq_eq h6, SX.bq_eq h]

theorem dropCh_sound {ρ : Env G} {c : Ch} : ∀ {l r : List Ch}, dropCh c l = some r → hpDen S ρ w0 l = star (c.den S ρ w0) (hpDen S ρ w0 r)
  | [], r, h => nomatch h
  | d :: l, r, h => by
    simp only [dropCh, Bool.cond_eq_ite] at h
    split at h
    · rename_i hq; cases h; rw [Ch.bq_eq hq]; rfl
    · obtain ⟨r', h1, h⟩ := ob_some h
      cases h
      rw [hpDen_cons, dropCh_sound h1, hpDen_cons, star_left_comm]
theorem holdAll_sound {ρ : Env G} : ∀ {l hp r : List Ch}, holdAll l hp = some r → hpDen S ρ w0 hp = star (hpDen S ρ w0 l) (hpDen S ρ w0 r)
  | [], hp, r, h => by
    cases h
    have : hpDen S ρ w0 [] = emp := rfl
    rw [this, star_comm, star_emp]
  | c :: l, hp, r, h => by
    obtain ⟨hp', h1, h⟩ := ob_some h
    rw [dropCh_sound S w0 h1, holdAll_sound h, hpDen_cons, star_assoc]

theorem frOk_sound {d : Nat} {th : List SX} {ss : List Srt} {slots : List (Nat × SV)} {ρ ρI : Env G} {asm : List SX} (ha : ∀ x ∈ asm, (x.den S ρ).toProp) (hT : ThR S d th ss ρ ρI)
    (hsl : slots.all (fun p => p.2.wf d ss) = true) (hE : ∀ e : SV, e.lt d = true → e.den S ρI = e.den S ρ) :
    ∀ {head fr : List SV} {i : Nat} {ns ns' : List SX} {tm : List Value}, frOk asm d th slots ns i head fr = some ns' → (∀ x ∈ ns', (x.den S ρ).toProp) → head.all (SV.lt d) = true → FrR S ρ fr tm →
      FrR S ρI (setSlots slots i head) tm ∧ ∀ x ∈ ns, (x.den S ρ).toProp
  | [], [], i, ns, ns', tm, h, hn, hh, hf => by
    cases h
    cases tm with
    | nil => exact ⟨trivial, hn⟩
    | cons => exact hf.elim
  | [], _ :: _, i, ns, ns', tm, h, hn, hh, hf => nomatch h
  | _ :: _, [], i, ns, ns', tm, h, hn, hh, hf => nomatch h
  | g :: hs, v :: vs, i, ns, ns', tm, h, hn, hh, hf => by
    cases tm with
    | nil => exact hf.elim
    | cons x tm =>
      simp only [List.all_cons, Bool.and_eq_true] at hh
      simp only [frOk] at h
      split at h
      · rename_i p hp
        obtain ⟨n1, e1, h⟩ := ob_some h
        obtain ⟨h2, hn1⟩ := frOk_sound ha hT hsl hE h hn hh.2 hf.2
        obtain ⟨h1, hn0⟩ := eqV_sound S ρ ha e1 hn1
        refine ⟨?_, hn0⟩
        simp only [setSlots, hp]
        have hw : p.wf d ss = true := List.all_eq_true.1 hsl _ (assoc_mem hp)
        exact ⟨(SV.sub_R S ρ hT hw).1 (h1 x hf.1), h2⟩
      · rename_i hp
        obtain ⟨n1, e1, h⟩ := ob_some h
        obtain ⟨h2, hn1⟩ := frOk_sound ha hT hsl hE h hn hh.2 hf.2
        obtain ⟨h1, hn0⟩ := eqV_sound S ρ ha e1 hn1
        refine ⟨?_, hn0⟩
        simp only [setSlots, hp]
        refine ⟨?_, h2⟩
        rcases h1 x hf.1 with hj | he
        · exact .inl hj
        · exact .inr (by rw [hE g hh.1]; exact he)

theorem inv_wf {iv : Inv} {n : Nat} (h : iv.wf n = true) : iv.meas.wf n iv.ss = true ∧ iv.facts.all (SX.wf n iv.ss) = true ∧ iv.hp.all (Ch.wf n iv.ss) = true ∧ iv.slots.all (fun p => p.2.wf n iv.ss) = true ∧ iv.meas.lt (n + iv.ss.length) = true := by
  unfold Inv.wf at h
  simp only [Bool.cond_eq_ite] at h
  split at h
  · rename_i h1; split at h
    · rename_i h2; split at h
      · rename_i h3; split at h
        · rename_i h4; exact ⟨h1, h2, h3, h4, h⟩
        · cases h
      · cases h
    · cases h
  · cases h

/-- An invariant that is met stands, at some of its atoms. -/
theorem meet_sound {n : Nat} {ρ ρ' : Env G} {st : St} {iv : Inv} {head : List SV} {th ns : List SX} {rest base : List Ch} {left : List Ch} {asm0 : List SX} {a : Act} {w : World} (hE : Ext n ρ ρ') (hd : Den S ρ' w0 F st a w)
    (hw : iv.wf n = true) (hh : head.all (SV.lt n) = true) (hb : base.all (Ch.lt n) = true) (h : meet n st iv head = some (th, ns, rest)) (hn : ∀ x ∈ ns, (x.den S ρ').toProp) (hold : hpDen S ρ' w0 rest = star (hpDen S ρ' w0 base) (hpDen S ρ' w0 left))
    (has : asm0.all (SX.lt n) = true) (ha0 : ∀ x ∈ asm0, (x.den S ρ).toProp) :
    ∃ us : List (U G), us.length = iv.ss.length ∧ Den S (updL S ρ n iv.ss us) w0 F { fr := setSlots iv.slots 0 head, hp := iv.hp ++ base, n := n + iv.ss.length, asm := iv.facts ++ asm0 } a w ∧
      (∀ x ∈ iv.facts, (x.den S (updL S ρ n iv.ss us)).toProp) ∧ (iv.meas.sub n th).den S ρ' = iv.meas.den S (updL S ρ n iv.ss us) := by
  obtain ⟨w1, w2, w3, w4, w5⟩ := inv_wf hw
  unfold meet at h
  simp only at h
  obtain ⟨th', hth, h⟩ := ob_some h
  simp only [Bool.cond_eq_ite] at h
  split at h
  · rename_i hok
    obtain ⟨ns1, hfr, h⟩ := ob_some h
    obtain ⟨⟨ns2, rest', ks⟩, htk, h⟩ := ob_some h
    simp only at h
    split at h
    · cases h
      let us : List (U G) := (List.range iv.ss.length).map fun j => (getTh th j).den S ρ'
      have hus : us.length = iv.ss.length := by simp [us]
      have husj : ∀ j s, iv.ss[j]? = some s → us[j]? = some ((getTh th j).den S ρ') := fun j s hs => by
        have := (List.getElem?_eq_some_iff.1 hs).1
        simp [us, this]
      have hEI : Ext n ρ (updL S ρ n iv.ss us) := updL_ext S ρ n iv.ss us
      have hT : ThR S n th iv.ss ρ' (updL S ρ n iv.ss us) := ⟨fun i hi => by rw [hEI i hi, hE i hi], fun i s hs => by
        rw [updL_high S (n := n) (ρ := ρ) hs (husj _ _ hs), U.co_co]
        have h1 := thOk_get hok i s hs
        have h2 := SX.srt_co S ρ' (getTh th i)
        rw [h1] at h2
        exact h2⟩
      obtain ⟨hfa, hn2⟩ := foldr_need S ρ' hd.asm hn
      have hfacts := (mem_sub S ρ' hT w2).1 hfa
      obtain ⟨hn1, htake⟩ := takeChs_sound S ρ' w0 hd.asm S.ch htk hn2 (fun i K hm => nomatch hm)
      have hEE : ∀ e : SV, e.lt n = true → e.den S (updL S ρ n iv.ss us) = e.den S ρ' := fun e he => by rw [SV.den_ext S hEI he, SV.den_ext S hE he]
      obtain ⟨hfrR, _⟩ := frOk_sound S hd.asm hT w4 hEE hfr hn1 hh hd.fr
      refine ⟨us, hus, ⟨hfrR, hd.df, ?_, ?_⟩, hfacts, SX.sub_den S ρ' hT w1⟩
      · have key : ∀ y, star (hpDen S ρ' w0 st.hp) F y → star (hpDen S ρ' w0 left) (star (hpDen S (updL S ρ n iv.ss us) w0 (iv.hp ++ base)) F) y := by
          intro y hy
          have := htake _ _ hy
          rw [hp_sub_den S ρ' w0 hT S.ch w3, hold] at this
          have hbase : hpDen S ρ' w0 base = hpDen S (updL S ρ n iv.ss us) w0 base := by rw [hpDen_ext S hE w0 hb, hpDen_ext S hEI w0 hb]
          rw [hbase] at this
          rw [hpDen_append]
          rw [star_assoc, star_left_comm (hpDen S ρ' w0 left), star_left_comm (hpDen S ρ' w0 left), ← star_assoc (hpDen S (updL S ρ n iv.ss us) w0 base)]
          exact this
        exact Sat.drop (hd.hp.mono key)
      · intro e he
        rcases List.mem_append.1 he with he | he
        · exact hfacts e he
        · rw [SX.den_ext S hEI (List.all_eq_true.1 has e he)]; exact ha0 e he
    · cases h
  · cases h
theorem hp_filter {ρ : Env G} (p : Ch → Bool) : ∀ l : List Ch, hpDen S ρ w0 l = star (hpDen S ρ w0 (l.filter p)) (hpDen S ρ w0 (l.filter fun c => !p c))
  | [] => by
    have : hpDen S ρ w0 [] = emp := rfl
    rw [List.filter_nil, List.filter_nil, this, star_emp]
  | c :: l => by
    rw [hpDen_cons, hp_filter p l, List.filter_cons, List.filter_cons]
    cases p c
    · simp only [Bool.not_false, if_true, Bool.false_eq_true, if_false]
      rw [hpDen_cons, star_left_comm]
    · simp only [Bool.not_true, if_true, Bool.false_eq_true, if_false]
      rw [hpDen_cons, star_assoc]
theorem ghosts_sound (K : St → VC) : ∀ (l : List Ann), (∀ sp args, Ann.ghost sp args ∈ l → sp.wf = true ∧ GhOk S sp) → ∀ (st : St) (ρ : Env G) (a : Act) (w : World), Den S ρ w0 F st a w → (ghosts st K l).den S ρ →
    ∃ ρ' st', After S w0 F st ρ ρ' st' a w ∧ (K st').den S ρ'
  | [], _, st, ρ, a, w, hd, h => ⟨ρ, st, ⟨Ext.refl _ _, Nat.le_refl _, hd⟩, h⟩
  | .inv i :: l, hl, st, ρ, a, w, hd, h => ghosts_sound K l (fun sp args hm => hl sp args (List.mem_cons_of_mem _ hm)) st ρ a w hd h
  | [.iff e], hl, st, ρ, a, w, hd, h => ⟨ρ, st, ⟨Ext.refl _ _, Nat.le_refl _, hd⟩, h⟩
  | .iff e :: x :: l, hl, st, ρ, a, w, hd, h => by
    simp only [ghosts] at h
    cases hi : inAsm e st.asm
    · rw [hi] at h
      exact ghosts_sound K l (fun sp args hm => hl sp args (List.mem_cons_of_mem _ (List.mem_cons_of_mem _ hm))) st ρ a w hd h
    · rw [hi] at h
      exact ghosts_sound K (x :: l) (fun sp args hm => hl sp args (List.mem_cons_of_mem _ hm)) st ρ a w hd h
  | .split e :: l, hl, st, ρ, a, w, hd, h => by
    simp only [ghosts] at h
    cases hq : sq e.srt .bool
    · rw [hq] at h; exact h.elim
    rw [hq] at h
    obtain ⟨ht, hf⟩ := h
    have hc : ∀ (x : SX), (x.den S ρ).toProp → ∀ y ∈ x :: st.asm, (y.den S ρ).toProp := fun x hx y hy => by
      rcases List.mem_cons.1 hy with rfl | hy
      · exact hx
      · exact hd.asm y hy
    cases hv : (e.den S ρ).toBool
    · have hp' : ((eNot e).den S ρ).toProp := by rw [eNot_den, srt_bool S hq, hv]; rfl
      exact ghosts_sound K l (fun sp args hm => hl sp args (List.mem_cons_of_mem _ hm)) { st with asm := eNot e :: st.asm } ρ a w ⟨hd.fr, hd.df, hd.hp, hc _ hp'⟩ (hf hp')
    · have hp : (e.den S ρ).toProp := by rw [srt_bool S hq, hv]; rfl
      exact ghosts_sound K l (fun sp args hm => hl sp args (List.mem_cons_of_mem _ hm)) { st with asm := e :: st.asm } ρ a w ⟨hd.fr, hd.df, hd.hp, hc _ hp⟩ (ht hp)
  | .cut N head base iv0 :: l, hl, st, ρ, a, w, hd, h => by
    simp only [ghosts] at h
    generalize iv0.at N = iv at h
    split at h
    · exact h.elim
    · rename_i th ns rest hm
      split at h
      · exact h.elim
      rename_i lft hhold
      cases hN : Nat.ble st.n N
      · rw [hN] at h; exact h.elim
      rw [hN, cond_true] at h
      cases h1 : iv.wf N
      · rw [h1] at h; exact h.elim
      cases h2 : head.all (SV.lt N)
      · rw [h1, h2] at h; exact h.elim
      cases h3 : base.all (Ch.lt N)
      · rw [h1, h2, h3] at h; exact h.elim
      rw [h1, h2, h3] at h
      simp only [cond_true] at h
      have hle : st.n ≤ N := Nat.le_of_ble_eq_true hN
      obtain ⟨hn, hk⟩ := needs_den S ρ h
      obtain ⟨us, hus, hdI, hf, _⟩ := meet_sound S w0 F (Ext.refl N ρ) hd h1 h2 h3 hm hn (holdAll_sound S w0 hhold) (asm0 := []) rfl (fun x hx => nomatch hx)
      have hkk := imps_den S _ (alls_den S hk us hus) hf
      obtain ⟨ρ2, st2, haf, hk2⟩ := ghosts_sound K l (fun sp args hm => hl sp args (List.mem_cons_of_mem _ hm)) _ _ a w hdI hkk
      exact ⟨ρ2, st2, After.step S w0 F (fun i hi => updL_ext S ρ N iv.ss us i (Nat.lt_of_lt_of_le hi hle)) (Nat.le_trans hle (Nat.le_add_right _ _)) haf, hk2⟩
  | .ghost sp args :: l, hl, st, ρ, a, w, hd, h => by
    simp only [ghosts] at h
    split at h
    · rename_i v hv
      obtain ⟨hwf, hg⟩ := hl sp args List.mem_cons_self
      obtain ⟨ch, ρc, F', h1, h2, h3, h4⟩ := callSpec_core S ρ w0 hwf (den_hst S w0 F hd) (argsR_map S (fun x => lk_eval S hd.fr x) args) hv h
      obtain ⟨ρc', he, hs, hf⟩ := hg ch w0 F' ρc w h2 h3
      obtain ⟨ρ', sv, st', hn, _, hk⟩ := h4 ρc' w he hs hf
      have hd' : Den S ρ' w0 F st' a w := ⟨by rw [hn.fr]; exact hn.frR _ hd.fr, hd.df, hn.hs.hp, hn.hs.asm⟩
      obtain ⟨ρ2, st2, haf, hk2⟩ := ghosts_sound K l (fun sp args hm => hl sp args (List.mem_cons_of_mem _ hm)) st' ρ' a w hd' hk
      exact ⟨ρ2, st2, After.step S w0 F hn.ext hn.le haf, hk2⟩
    · exact h.elim
end
end
end Go.Eng

/- Code, bodies, contracts: that the symbolic run is the model's. -/
set_option linter.unusedSimpArgs false
set_option linter.unusedVariables false
namespace Go.Eng
noncomputable section
open Go.RowKit (Below)

section
variable {G : Type} (S : Sig G) (w0 : World) (F : HProp) {P : Program} {C : Cx}

def Wp (P : Program) (c : Code) (Q : Exit → Act → World → Prop) (a : Act) (w : World) : Prop := (∀ b, c = .loop b → WpIn P b Q a w) ∧ c.wp P Q a w
theorem Wp.of {c : Code} {Q : Exit → Act → World → Prop} {a : Act} {w : World} (hc : ∀ b, c ≠ .loop b) (h : c.wp P Q a w) : Wp P c Q a w := ⟨fun b hb => absurd hb (hc b), h⟩
theorem Wp.loop {b : Code} {Q : Exit → Act → World → Prop} {a : Act} {w : World} (h : WpIn P b Q a w) : Wp P (.loop b) Q a w := ⟨fun b' hb => by cases hb; exact h, wpIn_loop h⟩

/-- What a continuation promises, from a state on. -/
structure KtR (K : Kt) (st : St) (ρ : Env G) (Q : Exit → Act → World → Prop) : Prop where
  nrm : ∀ ρ' st' a' w', After S w0 F st ρ ρ' st' a' w' → (K.nrm st').den S ρ' → Q .normal a' w'
  ret : ∀ ρ' st' a' w', After S w0 F st ρ ρ' st' a' w' → (K.ret st').den S ρ' → Q .ret a' w'
  ext : ∀ i ρ' st' a' w', After S w0 F st ρ ρ' st' a' w' → (K.ext i st').den S ρ' → Q (.exit i) a' w'
  pan : ∀ c a w, ¬ Q (.panic c) a w
theorem KtR.step {K : Kt} {st st1 : St} {ρ ρ1 : Env G} {Q : Exit → Act → World → Prop} (hE : Ext st.n ρ ρ1) (hn : st.n ≤ st1.n) (h : KtR S w0 F K st ρ Q) : KtR S w0 F K st1 ρ1 Q :=
  ⟨fun _ _ _ _ ha hk => h.nrm _ _ _ _ (After.step S w0 F hE hn ha) hk, fun _ _ _ _ ha hk => h.ret _ _ _ _ (After.step S w0 F hE hn ha) hk, fun i _ _ _ _ ha hk => h.ext i _ _ _ _ (After.step S w0 F hE hn ha) hk, h.pan⟩
theorem KtR.asm {K : Kt} {st st1 : St} {ρ : Env G} {Q : Exit → Act → World → Prop} (hn : st.n = st1.n) (h : KtR S w0 F K st ρ Q) : KtR S w0 F K st1 ρ Q := h.step S w0 F (Ext.refl _ _) (Nat.le_of_eq hn)

theorem asm_cons {ρ : Env G} {e : SX} {l : List SX} (h : (e.den S ρ).toProp) (h' : ∀ x ∈ l, (x.den S ρ).toProp) : ∀ x ∈ e :: l, (x.den S ρ).toProp := fun x hx => by
  rcases List.mem_cons.1 hx with rfl | hx
  · exact h
  · exact h' x hx

theorem sx_sound {body : Nat → List SV → St → (SV → St → VC) → VC} (hb : BodyOk S w0 F P body) (hC : CxOk S P C) (f : Nat) :
    ∀ (fuel : Nat) (c : Code) (st : St) (ρ : Env G) (a : Act) (w : World) (K : Kt) (Q : Exit → Act → World → Prop), Den S ρ w0 F st a w → (sx P C body f fuel c st K).den S ρ → KtR S w0 F K st ρ Q → Wp P c Q a w := by
  intro fuel
  induction fuel with
  | zero => intro c st ρ a w K Q hd h hK; exact h.elim
  | succ fuel ih =>
    intro c st ρ a w K Q hd h hK
    have refl : After S w0 F st ρ ρ st a w := ⟨Ext.refl _ _, Nat.le_refl _, hd⟩
    unfold sx at h
    split at h
    · exact Wp.of (by intros; simp) (wp_skip (hK.nrm _ _ _ _ refl h))
    · exact Wp.of (by intros; simp) (wp_label (hK.nrm _ _ _ _ refl h))
    · -- region
      rename_i id ops draw
      refine Wp.of (by intros; simp) ?_
      obtain ⟨ρ1, st1, haf, hk⟩ := ghosts_sound S w0 F _ (annsOf C f id) (fun sp args hm => by obtain ⟨l, i, hl, hm⟩ := annsOf_mem hm; exact hC.2.1 f l hl i sp args hm) st ρ a w hd h
      have hn : ∀ ρ' st' a' w', After S w0 F st1 ρ1 ρ' st' a' w' → (ghosts st' K.nrm (annsOf C f (500000 + id))).den S ρ' → Q .normal a' w' := fun ρ' st' a' w' h1 h2 => by
        obtain ⟨ρ2, st2, haf2, hk2⟩ := ghosts_sound S w0 F _ (annsOf C f (500000 + id)) (fun sp args hm => by obtain ⟨l, i, hl, hm⟩ := annsOf_mem hm; exact hC.2.1 f l hl i sp args hm) st' ρ' a' w' h1.2.2 h2
        exact hK.nrm _ _ _ _ (After.step S w0 F haf.1 haf.2.1 (After.step S w0 F h1.1 h1.2.1 haf2)) hk2
      cases draw
      · simp only [cond_false] at hk
        exact wp_region_list (seqR_sound S w0 F hb hC ops.toList st1 ρ1 a w haf.2.2 hk hn)
      · simp only [cond_true] at hk
        cases hm : P.follows .mixedOrders
        · rw [hm] at hk; exact hk.elim
        cases hns : Region.noSelect ops
        · rw [hm, hns] at hk; exact hk.elim
        rw [hm, hns] at hk
        exact region_draw_sound S w0 F hb hC hm hns hK.pan haf.2.2 hk hn
    · -- seq
      rename_i x y
      refine Wp.of (by intros; simp) (wp_seq (ih x st ρ a w _ _ hd h ⟨?_, ?_, ?_, ?_⟩).2)
      · intro ρ' st' a' w' haf hk
        exact (ih y st' ρ' a' w' K Q haf.2.2 hk (hK.step S w0 F haf.1 haf.2.1)).2
      · intro ρ' st' a' w' haf hk; exact hK.ret _ _ _ _ haf hk
      · intro i ρ' st' a' w' haf hk; exact hK.ext i _ _ _ _ haf hk
      · intro c a w h; exact hK.pan c a w h
    · -- cond
      rename_i x c1 c2
      refine Wp.of (by intros; simp) ?_
      have hx := lk_eval S hd.fr x
      split at h
      · rename_i he; rw [he] at hx
        exact wp_cond_true (by rw [R_one S ρ hx]; rfl) (ih c1 st ρ a w K Q hd h hK).2
      · rename_i he; rw [he] at hx
        exact wp_cond_false (by rw [R_one S ρ hx]; rfl) (ih c2 st ρ a w K Q hd h hK).2
      · rename_i e _ _ he; rw [he] at hx
        cases hq : sq e.srt .bool
        · rw [hq] at h; exact h.elim
        rw [hq] at h
        simp only [cond_true] at h
        obtain ⟨ht, hf⟩ := h
        have hev := R_one S ρ hx
        simp only [SC.den] at hev
        cases hv : (e.den S ρ).toBool
        · rw [hv] at hev
          have hp : ¬ (e.den S ρ).toProp := by rw [srt_bool S hq, hv]; simp
          have hp' : ((eNot e).den S ρ).toProp := by rw [eNot_den, srt_bool S hq, hv]; rfl
          refine wp_cond_false hev ?_
          cases hin : inAsm e st.asm
          · rw [hin] at hf
            exact (ih c2 { st with asm := eNot e :: st.asm } ρ a w K Q ⟨hd.fr, hd.df, hd.hp, asm_cons S hp' hd.asm⟩ (hf hp') (KtR.asm S w0 F (st := st) rfl hK)).2
          · exact absurd (hd.asm _ (inAsm_mem hin)) hp
        · rw [hv] at hev
          have hp : (e.den S ρ).toProp := by rw [srt_bool S hq, hv]; rfl
          have hp' : ¬ ((eNot e).den S ρ).toProp := by rw [eNot_den, srt_bool S hq, hv]; simp
          refine wp_cond_true hev ?_
          cases hin : bars e st.asm
          · rw [hin] at ht
            exact (ih c1 { st with asm := e :: st.asm } ρ a w K Q ⟨hd.fr, hd.df, hd.hp, asm_cons S hp hd.asm⟩ (ht hp) (KtR.asm S w0 F (st := st) rfl hK)).2
          · exact (bars_not S hd.asm hin hp ⟨_, srt_bool S hq⟩).elim
      · exact h.elim
    · -- block
      rename_i id b
      refine Wp.of (by intros; simp) (wp_block (ih b st ρ a w _ _ hd h ⟨?_, ?_, ?_, ?_⟩).2)
      · intro ρ' st' a' w' haf hk; exact hK.nrm _ _ _ _ haf hk
      · intro ρ' st' a' w' haf hk; exact hK.ret _ _ _ _ haf hk
      · intro i ρ' st' a' w' haf hk
        simp only [Exit.inBlock]
        simp only [Bool.cond_eq_ite] at hk
        split at hk
        · rename_i hi; rw [if_pos (Nat.eq_of_beq_eq_true hi)]; exact hK.nrm _ _ _ _ haf hk
        · rename_i hi
          rw [if_neg (fun h => hi (by subst h; simp))]
          exact hK.ext i _ _ _ _ haf hk
      · intro c a w h; exact hK.pan c a w h
    · exact Wp.of (by intros; simp) (wp_exit (hK.ext _ _ _ _ _ refl h))
    · exact Wp.of (by intros; simp) (wp_ret (hK.ret _ _ _ _ refl h))
    · -- loop
      rename_i b
      split at h
      · exact h.elim
      · rename_i key hkey
        split at h
        · -- a round by itself
          refine Wp.loop (wpIn_step (ih b st ρ a w _ _ hd h ⟨?_, ?_, ?_, ?_⟩).2)
          · intro ρ' st' a' w' haf hk
            exact (ih (.loop b) st' ρ' a' w' K Q haf.2.2 hk (hK.step S w0 F haf.1 haf.2.1)).1 b rfl
          · intro ρ' st' a' w' haf hk; exact hK.ret _ _ _ _ haf hk
          · intro i ρ' st' a' w' haf hk; exact hK.ext i _ _ _ _ haf hk
          · intro c a w h; exact hK.pan c a w h
        · rename_i iv0 hiv
          simp only at h
          generalize hIV : iv0.at st.n = iv at h
          generalize junks st.fr (Code.writes b) = head at h
          split at h
          · exact h.elim
          · rename_i th0 ns rest hmeet
            cases h1 : iv.wf st.n
            · rw [h1] at h; exact h.elim
            cases h2 : head.all (SV.lt st.n)
            · rw [h1, h2] at h; exact h.elim
            cases h3 : rest.all (Ch.lt st.n)
            · rw [h1, h2, h3] at h; exact h.elim
            rw [h1, h2, h3] at h
            simp only [cond_true] at h
            obtain ⟨hn, hfr⟩ := needs_den S ρ h
            obtain ⟨hok, hcont⟩ := fresh_den S ρ hfr
            have has : (ns ++ st.asm).all (SX.lt st.n) = true := by
              unfold St.ok at hok
              simp only [Bool.cond_eq_ite] at hok
              split at hok
              · split at hok
                · exact hok
                · cases hok
              · cases hok
            have ha0 : ∀ x ∈ ns ++ st.asm, (x.den S ρ).toProp := fun x hx => (List.mem_append.1 hx).elim (hn x) (hd.asm x)
            let stI : St := { fr := setSlots iv.slots 0 head, hp := iv.hp ++ rest, n := st.n + iv.ss.length, asm := iv.facts ++ (ns ++ st.asm) }
            let I : Nat → Act → World → Prop := fun m a w => ∃ us : List (U G), us.length = iv.ss.length ∧ Den S (updL S ρ st.n iv.ss us) w0 F stI a w ∧ (∀ x ∈ iv.facts, (x.den S (updL S ρ st.n iv.ss us)).toProp) ∧ (iv.meas.den S (updL S ρ st.n iv.ss us)).toInt.toNat = m
            obtain ⟨us, hus, hdI, hf, hm⟩ := meet_sound S w0 F (Ext.refl st.n ρ) hd h1 h2 h3 hmeet hn (left := []) (by have : hpDen S ρ w0 [] = emp := rfl; rw [this, star_emp]) has ha0
            refine Wp.loop (wpIn_inv I ?_ _ a w ⟨us, hus, hdI, hf, rfl⟩)
            rintro m a1 w1 ⟨us, hus, hdI, hf, hm⟩
            have hEI : Ext st.n ρ (updL S ρ st.n iv.ss us) := updL_ext S ρ st.n iv.ss us
            refine (ih b stI _ a1 w1 _ _ hdI (hcont us hus hf) ⟨?_, ?_, ?_, ?_⟩).2
            · intro ρ' st' a' w' haf hk
              simp only at hk
              split at hk
              · exact hk.elim
              · rename_i th1 ns1 rest1 hmeet1
                split at hk
                · exact hk.elim
                · rename_i lft hhold
                  obtain ⟨hk1, _⟩ := needs_den S ρ' hk
                  obtain ⟨hpos, hk2⟩ := need_sound S ρ' haf.2.2.asm hk1
                  obtain ⟨hlt, hk3⟩ := need_sound S ρ' haf.2.2.asm hk2
                  rw [eLe_den] at hpos
                  rw [eLt_den] at hlt
                  obtain ⟨us', hus', hdI', hf', hm'⟩ := meet_sound S w0 F (hEI.trans haf.1 (Nat.le_add_right _ _)) haf.2.2 h1 h2 h3 hmeet1 hk3 (holdAll_sound S w0 hhold) has ha0
                  have hml := (inv_wf h1).2.2.2.2
                  have hm0 : iv.meas.den S ρ' = iv.meas.den S (updL S ρ st.n iv.ss us) := SX.den_ext S haf.1 hml
                  refine ⟨_, ?_, us', hus', hdI', hf', rfl⟩
                  rw [← hm', ← hm]
                  rw [hm0] at hlt
                  simp only [SX.den, U.toInt_int] at hpos
                  omega
            · intro ρ' st' a' w' haf hk; exact hK.ret _ _ _ _ (After.step S w0 F hEI (Nat.le_add_right _ _) haf) hk
            · intro i ρ' st' a' w' haf hk; exact hK.ext i _ _ _ _ (After.step S w0 F hEI (Nat.le_add_right _ _) haf) hk
            · intro c a w h; exact hK.pan c a w h
    · exact h.elim
end
end
end Go.Eng

/- Bodies and contracts: that the symbolic run is the model's. -/
set_option linter.unusedSimpArgs false
set_option linter.unusedVariables false
namespace Go.Eng
noncomputable section
open Go.RowKit (Below)

section
variable {P : Program}
def oneRun (tmps : Array Value) : ResultVar → Sem Value
  | .tmp t => pure (tmps.getD t undef)
  | .cell a t => do loadVar t (← asAddr (tmps.getD a undef))
theorem results_eq (fn : Func) (tmps : Array Value) : results fn tmps = (do
    let vs ← fn.results.mapM (oneRun tmps)
    pure (if h : vs.size = 1 then vs[0] else .tuple vs)) := by
  unfold results
  congr 2
theorem results_1 {fn : Func} {tmps : Array Value} {r : ResultVar} {x : Value} {w : World} (h : fn.results = #[r]) (h1 : (oneRun tmps r).run P w = .ok x w) : (results fn tmps).run P w = .ok x w := by
  rw [results_eq, h]; simp [h1]
theorem results_2 {fn : Func} {tmps : Array Value} {r r2 : ResultVar} {x x2 : Value} {w : World} (h : fn.results = #[r, r2]) (h1 : (oneRun tmps r).run P w = .ok x w) (h2 : (oneRun tmps r2).run P w = .ok x2 w) : (results fn tmps).run P w = .ok (.tuple #[x, x2]) w := by
  rw [results_eq, h]; simp [h1, h2]
theorem results_3 {fn : Func} {tmps : Array Value} {r r2 r3 : ResultVar} {x x2 x3 : Value} {w : World} (h : fn.results = #[r, r2, r3]) (h1 : (oneRun tmps r).run P w = .ok x w) (h2 : (oneRun tmps r2).run P w = .ok x2 w) (h3 : (oneRun tmps r3).run P w = .ok x3 w) : (results fn tmps).run P w = .ok (.tuple #[x, x2, x3]) w := by
  rw [results_eq, h]; simp [h1, h2, h3]
theorem results_4 {fn : Func} {tmps : Array Value} {r r2 r3 r4 : ResultVar} {x x2 x3 x4 : Value} {w : World} (h : fn.results = #[r, r2, r3, r4]) (h1 : (oneRun tmps r).run P w = .ok x w) (h2 : (oneRun tmps r2).run P w = .ok x2 w) (h3 : (oneRun tmps r3).run P w = .ok x3 w) (h4 : (oneRun tmps r4).run P w = .ok x4 w) : (results fn tmps).run P w = .ok (.tuple #[x, x2, x3, x4]) w := by
  rw [results_eq, h]; simp [h1, h2, h3, h4]
end

section
variable {G : Type} (S : Sig G) (w0 : World) (F : HProp) {P : Program} {C : Cx}
theorem oneRes_sound {st : St} {ρ : Env G} {a : Act} {w : World} (hd : Den S ρ w0 F st a w) {r : ResultVar} {p : Bool × List SC} (h : oneRes P st r = some p) : (oneRun a.tmps r).run P w = .ok (tupV S ρ p) w := by
  cases r with
  | tmp t =>
    simp only [oneRes] at h
    have hr := lk_R S hd.fr t
    rw [List.getD_eq_getElem?_getD, Array.getElem?_toList] at hr
    simp only [oneRun]
    rw [Array.getD_eq_getD_getElem?]
    split at h
    · rename_i c hc
      cases h
      rw [hc] at hr
      rw [R_one S ρ hr]; rfl
    · rename_i cs hc
      cases h
      rw [hc] at hr
      have := hr.resolve_left (by simp [SV.isJunk])
      rw [this]; rfl
    · cases h
  | cell x t =>
    simp only [oneRes] at h
    split at h
    · rename_i b o d n hs hd' hn
      have hr := lk_R S hd.fr x
      rw [List.getD_eq_getElem?_getD, Array.getElem?_toList, hs] at hr
      have hv := R_one S ρ hr
      have main : ∀ sv, loadAt st.hp st.asm (tyAgg d) (bif tyAgg d then n else 1) (.ptr b o) = some ([], sv) → held b st.hp = true → (oneRun a.tmps (.cell x t)).run P w = .ok (sv.den S ρ) w := by
        intro sv hl hh
        have hb := held_sound S ρ w0 hh hd.hp
        have := loadAt_sound S ρ w0 hd.asm hd.hp hd' hn hl (fun e he => nomatch he)
        simp only [SC.den] at this hv
        rw [if_neg (by omega)] at this hv
        simp only [oneRun]
        rw [Array.getD_eq_getD_getElem?, hv]
        exact this
      split at h
      · rename_i c hl
        simp only [Bool.cond_eq_ite] at h
        split at h
        · rename_i hh; cases h; exact main _ hl hh
        · cases h
      · rename_i cs hl
        simp only [Bool.cond_eq_ite] at h
        split at h
        · rename_i hh; cases h; exact main _ hl hh
        · cases h
      · cases h
    · cases h
theorem resOf_sound {st : St} {ρ : Env G} {a : Act} {w : World} (hd : Den S ρ w0 F st a w) {fn : Func} {sv : SV} (h : resOf P fn st = some sv) : ∃ v, (results fn a.tmps).run P w = .ok v w ∧ sv.R S ρ v := by
  unfold resOf at h
  split at h
  · rename_i hr
    cases h
    have : fn.results = #[] := by rw [← Array.toList_inj]; exact hr
    exact ⟨.tuple #[], results_none this _ _ _, .inr rfl⟩
  · rename_i r hr
    have : fn.results = #[r] := by rw [← Array.toList_inj]; exact hr
    split at h
    · rename_i c h1; cases h; exact ⟨_, results_1 this (oneRes_sound S w0 F hd h1), .inr rfl⟩
    · rename_i cs h1; cases h; exact ⟨_, results_1 this (oneRes_sound S w0 F hd h1), .inr rfl⟩
    · cases h
  · rename_i r1 r2 hr
    have : fn.results = #[r1, r2] := by rw [← Array.toList_inj]; exact hr
    obtain ⟨a1, h1, h⟩ := ob_some h
    obtain ⟨a2, h2, h⟩ := ob_some h
    cases h
    exact ⟨_, results_2 this (oneRes_sound S w0 F hd h1) (oneRes_sound S w0 F hd h2), .inr rfl⟩
  · rename_i r1 r2 r3 hr
    have : fn.results = #[r1, r2, r3] := by rw [← Array.toList_inj]; exact hr
    obtain ⟨a1, h1, h⟩ := ob_some h
    obtain ⟨a2, h2, h⟩ := ob_some h
    obtain ⟨a3, h3, h⟩ := ob_some h
    cases h
    exact ⟨_, results_3 this (oneRes_sound S w0 F hd h1) (oneRes_sound S w0 F hd h2) (oneRes_sound S w0 F hd h3), .inr rfl⟩
  · rename_i r1 r2 r3 r4 hr
    have : fn.results = #[r1, r2, r3, r4] := by rw [← Array.toList_inj]; exact hr
    obtain ⟨a1, h1, h⟩ := ob_some h
    obtain ⟨a2, h2, h⟩ := ob_some h
    obtain ⟨a3, h3, h⟩ := ob_some h
    obtain ⟨a4, h4, h⟩ := ob_some h
    cases h
    exact ⟨_, results_4 this (oneRes_sound S w0 F hd h1) (oneRes_sound S w0 F hd h2) (oneRes_sound S w0 F hd h3) (oneRes_sound S w0 F hd h4), .inr rfl⟩
  · cases h

theorem FrR_args {ρ : Env G} : ∀ {l : List SV} {xs : List Value} (n : Nat), argsR S ρ l xs → FrR S ρ (l ++ List.replicate n .junk) (xs ++ List.replicate n undef)
  | [], [], n, _ => by
    simp only [List.nil_append]
    induction n with
    | zero => trivial
    | succ n ih => exact ⟨.inl rfl, ih⟩
  | s :: l, v :: xs, n, h => ⟨h.1, FrR_args n h.2⟩
  | [], _ :: _, _, h => h.elim
  | _ :: _, [], _, h => h.elim
theorem argsR_len {ρ : Env G} : ∀ {l : List SV} {xs : List Value}, argsR S ρ l xs → l.length = xs.length
  | [], [], _ => rfl
  | s :: l, v :: xs, h => by simp [argsR_len h.2]
  | [], _ :: _, h => h.elim
  | _ :: _, [], h => h.elim
theorem FrR_ok {ρ ρ' : Env G} {st : St} (hok : st.ok = true) (hE : Ext st.n ρ ρ') {l : List Value} (h : FrR S ρ st.fr l) : FrR S ρ' st.fr l := by
  unfold St.ok at hok
  simp only [Bool.cond_eq_ite] at hok
  split at hok
  · rename_i hf; exact FrR_ext S hE hf h
  · cases hok

/-- Any run of a body is the model's. -/
theorem runBody_sound (hC : CxOk S P C) : ∀ (fuel : Nat), BodyOk S w0 F P (runBody P C fuel)
  | 0, f, args, st, K, ρ, w, xs, R, hst, hok, hx, h, hK => by simp only [runBody] at h; exact h.elim
  | fuel + 1, f, args, st, K, ρ, w, xs, R, hst, hok, hx, h, hK => by
    simp only [runBody] at h
    split at h
    · exact h.elim
    · rename_i fn hfn
      split at h
      · exact h.elim
      · rename_i c hc
        refine calls_of_wp hfn hc ?_
        have hd : Den S ρ w0 F { st with fr := args ++ List.replicate (fn.ntmps - args.length) .junk } { tmps := xs.toArray ++ Array.replicate (fn.ntmps - xs.toArray.size) undef, defers := [] } w := by
          refine ⟨?_, rfl, hst.hp, hst.asm⟩
          have := FrR_args S (fn.ntmps - args.length) hx
          simpa [argsR_len S hx] using this
        let Q : Exit → Act → World → Prop := fun e a w' => match e with | .panic _ => False | e => bodyPost P fn R e a w'
        have fin : ∀ ρ' st' a' w', After S w0 F { st with fr := args ++ List.replicate (fn.ntmps - args.length) .junk } ρ ρ' st' a' w' →
            (match resOf P fn st' with
              | some v => (match annsOf C f 999999 with
                | [] => K v { st' with fr := st.fr }
                | x :: l => bif SV.lt st'.n v then ghosts st' (fun st'' => K v { st'' with fr := st.fr }) (x :: l) else .ff 56)
              | none => VC.ff 54).den S ρ' → a'.defers = [] ∧ ∃ v, (results fn a'.tmps).run P w' = .ok v w' ∧ R (.returned v) w' := by
          intro ρ' st' a' w' haf hk
          split at hk
          · rename_i sv hsv
            obtain ⟨v, hr, hv⟩ := resOf_sound S w0 F haf.2.2 hsv
            generalize hal : annsOf C f 999999 = al at hk
            cases al with
            | nil => exact ⟨haf.2.2.df, v, hr, hK ρ' sv { st' with fr := st.fr } w' v ⟨haf.1, haf.2.1, rfl, fun l hl => FrR_ok S hok haf.1 hl, ⟨haf.2.2.hp, haf.2.2.asm⟩⟩ hv hk⟩
            | cons x l =>
              simp only at hk
              cases hlt : SV.lt st'.n sv
              · rw [hlt] at hk; exact hk.elim
              rw [hlt] at hk
              simp only [cond_true] at hk
              obtain ⟨ρ2, st2, haf2, hk2⟩ := ghosts_sound S w0 F _ (x :: l) (fun sp args hm => by rw [← hal] at hm; obtain ⟨l, i, hl, hm⟩ := annsOf_mem hm; exact hC.2.1 f l hl i sp args hm) st' ρ' a' w' haf.2.2 hk
              have H := After.step S w0 F haf.1 haf.2.1 haf2
              have hv2 : sv.R S ρ2 v := by
                rcases hv with hv | hv
                · exact .inl hv
                · exact .inr (by rw [SV.den_ext S haf2.1 hlt]; exact hv)
              exact ⟨haf.2.2.df, v, hr, hK ρ2 sv { st2 with fr := st.fr } w' v ⟨H.1, H.2.1, rfl, fun l hl => FrR_ok S hok H.1 hl, ⟨H.2.2.hp, H.2.2.asm⟩⟩ hv2 hk2⟩
          · exact hk.elim
        refine wp_mono (Q := Q) (sx_sound S w0 F (runBody_sound hC fuel) hC f 100000 c _ ρ _ w _ Q hd h ⟨?_, ?_, ?_, ?_⟩).2 ?_
        · intro ρ' st' a' w' haf hk; exact fin ρ' st' a' w' haf hk
        · intro ρ' st' a' w' haf hk; exact fin ρ' st' a' w' haf hk
        · intro i ρ' st' a' w' haf hk; exact hk.elim
        · intro c a w h; exact h
        · intro e a w h; cases e <;> first | exact h | exact h.elim

/-! ### A function keeps its contract -/
theorem VC.den_wc (ch : Nat → Bool) : ∀ (v : VC) (ρ : Env G), v.den (S.wc ch) ρ ↔ v.den S ρ
  | .tt, _ => Iff.rfl
  | .ff _, _ => Iff.rfl
  | .and a b, ρ => and_congr (VC.den_wc ch a ρ) (VC.den_wc ch b ρ)
  | .imp e a, ρ => by simp only [VC.den, SX.den_wc]; exact imp_congr Iff.rfl (VC.den_wc ch a ρ)
  | .need e a, ρ => by simp only [VC.den, SX.den_wc]; exact and_congr Iff.rfl (VC.den_wc ch a ρ)
  | .all n .int a, ρ => forall_congr' fun _ => VC.den_wc ch a _
  | .all n .bool a, ρ => forall_congr' fun _ => VC.den_wc ch a _
  | .all n .ints a, ρ => forall_congr' fun _ => VC.den_wc ch a _
  | .all n .bytes a, ρ => forall_congr' fun _ => VC.den_wc ch a _
  | .all n .rows a, ρ => forall_congr' fun _ => VC.den_wc ch a _
  | .all n .amap a, ρ => forall_congr' fun _ => VC.den_wc ch a _
  | .all n .g a, ρ => forall_congr' fun _ => VC.den_wc ch a _
theorem argsR_wc (ch : Nat → Bool) {ρ : Env G} : ∀ {l : List SV} {xs : List Value}, argsR (S.wc ch) ρ l xs ↔ argsR S ρ l xs
  | [], [] => Iff.rfl
  | s :: l, v :: xs => and_congr (SV.R_wc S ρ ch s v) (argsR_wc ch)
  | [], _ :: _ => Iff.rfl
  | _ :: _, [] => Iff.rfl
theorem CtrOk.wc (ch : Nat → Bool) {f : Nat} {sp : Ctr} (h : CtrOk S P f sp) : CtrOk (S.wc ch) P f sp := by
  intro ch' w0 F ρ w xs hx hr hs
  refine (h ch' w0 F ρ w xs ((argsR_wc S ch).1 hx) (fun e he => by have := hr e he; rwa [SX.den_wc] at this) hs).mono ?_
  rintro e w' ⟨ρ', v, hE, he, hv, hs', hf⟩
  exact ⟨ρ', v, hE, he, (SV.R_wc S ρ' ch _ _).2 hv, hs', fun x hx => by rw [SX.den_wc]; exact hf x hx⟩
theorem GhOk.wc (ch : Nat → Bool) {sp : Ctr} (h : GhOk S sp) : GhOk (S.wc ch) sp := by
  intro ch' w0 F ρ w hr hs
  obtain ⟨ρ', hE, hs', hf⟩ := h ch' w0 F ρ w (fun e he => by have := hr e he; rwa [SX.den_wc] at this) hs
  exact ⟨ρ', hE, hs', fun x hx => by rw [SX.den_wc]; exact hf x hx⟩
theorem ExtOk.wc (ch : Nat → Bool) {f : Nat} {sp : Ctr} (h : ExtOk S P f sp) : ExtOk (S.wc ch) P f sp := by
  intro ch' w0 F ρ w xs hx hr hs
  obtain ⟨v, w', hrun, ρ', hE, hv, hs', hf⟩ := h ch' w0 F ρ w xs ((argsR_wc S ch).1 hx) (fun e he => by have := hr e he; rwa [SX.den_wc] at this) hs
  exact ⟨v, w', hrun, ρ', hE, (SV.R_wc S ρ' ch _ _).2 hv, hs', fun x hx => by rw [SX.den_wc]; exact hf x hx⟩
theorem CxOk.wc (ch : Nat → Bool) (h : CxOk S P C) : CxOk (S.wc ch) P C :=
  ⟨fun f sps hf sp hm => ⟨(h.1 f sps hf sp hm).1, (h.1 f sps hf sp hm).2.wc S ch⟩, fun f l hf i sp args hm => ⟨(h.2.1 f l hf i sp args hm).1, (h.2.1 f l hf i sp args hm).2.wc S ch⟩,
    fun f sps hf sp hm => ⟨(h.2.2 f sps hf sp hm).1, (h.2.2 f sps hf sp hm).2.wc S ch⟩⟩

theorem ctr_wf {sp : Ctr} (hwf : sp.wf = true) : sp.args.all (SV.wf 0 sp.ss) = true ∧ sp.pre.all (Ch.wf 0 sp.ss) = true ∧ sp.reqs.all (SX.wf 0 sp.ss) = true ∧ sp.res.wf 0 (sp.ss ++ sp.ps) = true ∧
      sp.post.all (Ch.wf 0 (sp.ss ++ sp.ps)) = true ∧ sp.facts.all (SX.wf 0 (sp.ss ++ sp.ps)) = true := by
  unfold Ctr.wf at hwf
  simp only [Bool.cond_eq_ite] at hwf
  split at hwf
  · rename_i a1
    split at hwf
    · rename_i a2
      split at hwf
      · rename_i a3
        split at hwf
        · rename_i a4
          split at hwf
          · rename_i a5; exact ⟨a1, a2, a3, a4, a5, hwf⟩
          · cases hwf
        · cases hwf
      · cases hwf
    · cases hwf
  · cases hwf

theorem preX_get : ∀ {ss : List Srt} {th : List SX} {k i : Nat} {s : Srt}, preX (ats k ss) th = true → ss[i]? = some s → getTh th i = .at s (k + i)
  | [], th, k, i, s, h, hs => by simp at hs
  | t :: ss, [], k, i, s, h, hs => by cases h
  | t :: ss, e :: th, k, i, s, h, hs => by
    simp only [ats, preX, Bool.cond_eq_ite] at h
    split at h
    · rename_i hq
      cases i with
      | zero => simp at hs; subst hs; simp only [getTh]; rw [← SX.bq_eq hq]; rfl
      | succ i =>
        simp only [getTh]
        rw [preX_get h (by simpa using hs), show k + 1 + i = k + (i + 1) by omega]
    · cases h

/-- **What the symbolic run asks for is enough.** -/
theorem vcOf_sound (hC : CxOk S P C) {fuel f : Nat} {sp : Ctr} (h : ∀ ρ : Env G, (vcOf P C fuel f sp).den S ρ) : CtrOk S P f sp := by
  intro ch w0 F ρ w xs hx hreq hs
  have h := h ρ
  rw [← VC.den_wc S ch] at h
  unfold vcOf at h
  cases hwf : sp.wf
  · rw [hwf] at h; exact h.elim
  cases hok : St.ok { fr := [], hp := sp.pre, n := sp.ss.length, asm := sp.reqs }
  · rw [hwf, hok] at h; exact h.elim
  rw [hwf, hok] at h
  simp only [cond_true] at h
  have h := imps_den (S.wc ch) ρ h (fun e he => by rw [SX.den_wc]; exact hreq e he)
  obtain ⟨w1, w2, w3, w4, w5, w6⟩ := ctr_wf hwf
  refine runBody_sound (S.wc ch) w0 F (hC.wc S ch) fuel f sp.args _ _ ρ w xs _ ⟨hs, fun e he => by rw [SX.den_wc]; exact hreq e he⟩ hok ((argsR_wc S ch).2 hx) h ?_
  intro ρ' sv st' w' v hn hsv hk
  split at hk
  · exact hk.elim
  · rename_i th hth
    cases h1 : thOk th (sp.ss ++ sp.ps)
    · rw [h1] at hk; exact hk.elim
    cases h2 : preX (ats 0 sp.ss) th
    · rw [h1, h2] at hk; exact hk.elim
    rw [h1, h2] at hk
    simp only [cond_true] at hk
    split at hk
    · exact hk.elim
    · rename_i ns1 he
      split at hk
      · exact hk.elim
      · rename_i ns2 rest ks htk
        cases h3 : ks.all backOk
        · rw [h3] at hk; exact hk.elim
        rw [h3] at hk
        simp only [cond_true] at hk
        obtain ⟨hn3, _⟩ := needs_den (S.wc ch) ρ' hk
        obtain ⟨hf, hn2⟩ := foldr_need (S.wc ch) ρ' hn.hs.asm hn3
        have hch : ∀ i K, (i, K) ∈ ks → ch i = chOf (S.wc ch) K := fun i K hm => by
          have := List.all_eq_true.1 h3 _ hm
          cases K with
          | rd j => simp only [backOk] at this; rw [Nat.eq_of_beq_eq_true this]; rfl
          | _ => cases this
        obtain ⟨hn1, htake⟩ := takeChs_sound (S.wc ch) ρ' w0 hn.hs.asm ch htk hn2 hch
        obtain ⟨hv, _⟩ := eqV_sound (S.wc ch) ρ' hn.hs.asm he hn1
        let ρc : Env G := fun i => if i < sp.ss.length then ρ i else (getTh th i).den S ρ'
        have hT : ThR S 0 th (sp.ss ++ sp.ps) ρ' ρc := ⟨fun i hi => absurd hi (Nat.not_lt_zero _), fun i s hs => by
          rw [Nat.zero_add]
          by_cases hi : i < sp.ss.length
          · simp only [ρc, if_pos hi]
            rw [List.getElem?_append_left hi] at hs
            rw [preX_get h2 hs, Nat.zero_add]
            simp only [SX.den]
            rw [hn.ext i hi]
          · simp only [ρc, if_neg hi]
            have e1 := thOk_get h1 i s hs
            have e2 := SX.srt_co S ρ' (getTh th i)
            rw [e1] at e2
            exact e2⟩
        have hT' : ThR (S.wc ch) 0 th (sp.ss ++ sp.ps) ρ' ρc := ⟨hT.low, fun i s hs => by rw [SX.den_wc, co_wc]; exact hT.high i s hs⟩
        refine ⟨ρc, v, fun i hi => by simp only [ρc, if_pos hi], rfl, ?_, ?_, ?_⟩
        · have := (SV.sub_R (S.wc ch) ρ' hT' w4).1 (hv v hsv)
          exact (SV.R_wc S ρc ch _ _).1 this
        · have := hn.hs.hp.mono (htake _)
          rw [hp_sub_den (S.wc ch) ρ' w0 hT' ch w5] at this
          rw [star_left_comm] at this
          exact this.drop
        · have := (mem_sub (S.wc ch) ρ' hT' w6).1 hf
          intro x hx
          have := this x hx
          rwa [SX.den_wc] at this
end
end
end Go.Eng

/- The model's own entry for slices.overlaps keeps a contract: two arrays do not overlap. -/
set_option linter.unusedSimpArgs false
set_option linter.unusedVariables false
namespace Go.Eng
noncomputable section
open Go.RowKit (Below)
def En.srt : En → Srt | .ints _ => .ints | .bytes => .bytes | .rows _ => .rows
def ovCtr (e : En) : Ctr :=
  let i (n : Nat) : SX := .at .int n
  { ss := [.int, .int, .int, .int, .int, e.srt, .int, .int, .int, .int, .int, .int, e.srt, .int]
    args := [.one (.slice (i 0) (.int 0) (i 1) (i 2) (i 3) (i 4) e.stride), .one (.slice (i 7) (.int 0) (i 8) (i 9) (i 10) (i 11) e.stride)]
    pre := [.arr e (i 0) (.at e.srt 5) (i 6), .arr e (i 7) (.at e.srt 12) (i 13)]
    reqs := [eLe (i 3) (i 6), eLe (i 10) (i 13)]
    ps := []
    res := .one (.bool (.bool false))
    post := [.arr e (i 0) (.at e.srt 5) (i 6), .arr e (i 7) (.at e.srt 12) (i 13)]
    facts := [] }
theorem rows_apart {w0 w : World} {b c : Nat} {u v : List Value} {y z : Bool} {H : HProp} (h : Sat w0 (star (row b 0 u y) (star (row c 0 v z) H)) w) (hu : u ≠ []) (hv : v ≠ []) : b ≠ c := by
  obtain ⟨x, ⟨a, r, d, rfl, rfl, a2, r2, d2, rfl, rfl, h3⟩, hi⟩ := h
  intro e
  subst e
  have e1 : rowH b 0 u y b 0 ≠ none := by
    cases u with
    | nil => exact absurd rfl hu
    | cons q l => simp [rowH]
  have e2 : rowH b 0 v z b 0 ≠ none := by
    cases v with
    | nil => exact absurd rfl hv
    | cons q l => simp [rowH]
  rcases d b 0 with e | e
  · exact e1 e
  · unfold Hl.un at e
    cases hq : rowH b 0 v z b 0 with
    | none => exact e2 hq
    | some q => rw [hq] at e; cases e
section
variable {G : Type} (S : Sig G) {P : Program}
theorem ext_overlaps {f : FuncId} {fn : Func} {e : En} {tS tR et : TypeId} (hf : P.funcs[f]? = some fn) (hname : (fn.name == "runtime.NumGoroutine") = false) (hb : fn.body.isNone = true)
    (hn : Extern.findNext fn = none) (he : Extern.find fn = some (Extern.SlicesOverlaps.overlaps fn.params fn.resultTypes)) (hp : fn.params = #[tS, tS]) (hr : fn.resultTypes = #[tR])
    (ht : P.underlying tS = some (.slice et)) (hs : szOf P et = some e.stride) (h1 : 1 ≤ e.stride) : ExtOk S P f (ovCtr e) := by
  intro ch w0 F ρ w xs hx hq hsat
  obtain ⟨v1, v2, rfl, hv1, hv2⟩ : ∃ v1 v2, xs = [v1, v2] ∧ SV.R S ρ (.one (.slice (.at .int 0) (.int 0) (.at .int 1) (.at .int 2) (.at .int 3) (.at .int 4) e.stride)) v1 ∧
      SV.R S ρ (.one (.slice (.at .int 7) (.int 0) (.at .int 8) (.at .int 9) (.at .int 10) (.at .int 11) e.stride)) v2 := by
    match xs, hx with
    | [v1, v2], hx => exact ⟨v1, v2, rfl, hx.1, hx.2.1⟩
  have hv1 := R_one S ρ hv1
  have hv2 := R_one S ρ hv2
  have q1 := hq _ (by simp [ovCtr]; exact .inl rfl)
  have q2 := hq (eLe (.at .int 10) (.at .int 13)) (by simp [ovCtr])
  refine ⟨.bool false, w, ?_, ρ, Ext.refl _ _, .inr rfl, hsat, by simp [ovCtr]⟩
  rw [run_callFunc_extern hf hname hb hn he]
  have main : (Extern.SlicesOverlaps.overlaps fn.params fn.resultTypes #[v1, v2]).run P w = .ok (.bool false) w := by
    rw [hp, hr]
    have hz : ∀ w, (sizeOf et).run P w = .ok e.stride w := fun w => run_sizeOfE hs w
    subst hv1; subst hv2
    have triv : ∀ (a b : Option Addr) (la lb ca cb : Nat), (la = 0 ∨ lb = 0 ∨ a = none ∨ b = none) → (Extern.SlicesOverlaps.overlaps #[tS, tS] #[tR] #[.slice a la ca, .slice b lb cb]).run P w = .ok (.bool false) w := by
      intro a b la lb ca cb hor
      change Sem.run P (α := Value) (do
        let some t := (#[tS, tS] : Array TypeId)[0]? | stuck "slices.overlaps: no parameter types"
        let .slice elem ← underlying t | stuck "slices.overlaps: slice type expected"
        let size ← sizeOf elem
        match (a : Option Addr), (b : Option Addr) with
        | some a, some b =>
          if la = 0 ∨ lb = 0 ∨ size = 0 then pure (Value.bool false)
          else if a.block != b.block && (← frozen a) && (← frozen b) then unsupported .addressObserved
          else do
            if a.block != b.block then do
              noView a; noView b
              if ← mayBeOne a b then return Value.bool ((← choose (.extern "sameAddr.stringBytes" 2)) == 1)
            pure (Value.bool (a.block == b.block && a.off < b.off + lb * size && b.off < a.off + la * size))
        | _, _ => pure (Value.bool false)) w = _
      cases a <;> cases b <;> simp [run_underlying ht, hz]
      rcases hor with h | h | h | h
      · simp [h]
      · simp [h]
      · cases h
      · cases h
    simp only [SC.den]
    rw [eLe_den] at q1 q2
    generalize hb1 : ((SX.at .int 0).den S ρ).toInt = b1 at *
    generalize hb2 : ((SX.at .int 7).den S ρ).toInt = b2 at *
    by_cases n1 : b1 < 0
    · exact triv _ _ _ _ _ _ (.inr (.inr (.inl (by simp [n1]))))
    by_cases n2 : b2 < 0
    · exact triv _ _ _ _ _ _ (.inr (.inr (.inr (by simp [n2]))))
    by_cases n3 : ((SX.at .int 3).den S ρ).toInt.toNat = 0
    · exact triv _ _ _ _ _ _ (.inl n3)
    by_cases n4 : ((SX.at .int 10).den S ρ).toInt.toNat = 0
    · exact triv _ _ _ _ _ _ (.inr (.inl n4))
    rw [if_neg n1, if_neg n2]
    simp only [ovCtr, hpDen_cons, star_assoc, Ch.den] at hsat
    rw [SX.den_wc, SX.den_wc, SX.den_wc, SX.den_wc, SX.den_wc, SX.den_wc] at hsat
    obtain ⟨spare1, hsat⟩ := sat_ex hsat
    obtain ⟨g1, hsat⟩ := sat_and hsat
    obtain ⟨g2, hsat⟩ := sat_and hsat
    obtain ⟨g3, hsat⟩ := sat_and hsat
    rw [← star_assoc, star_comm (row _ _ _ _), star_assoc] at hsat
    obtain ⟨spare2, hsat⟩ := sat_ex hsat
    obtain ⟨k1, hsat⟩ := sat_and hsat
    obtain ⟨k2, hsat⟩ := sat_and hsat
    obtain ⟨k3, hsat⟩ := sat_and hsat
    rw [hb1] at g3 hsat
    rw [hb2] at k3 hsat
    generalize hA : e.vals ((SX.at e.srt 5).den S ρ) ++ spare1 = A at *
    generalize hB : e.vals ((SX.at e.srt 12).den S ρ) ++ spare2 = B at *
    have lA : A.length = ((SX.at .int 6).den S ρ).toInt.toNat * e.stride := by rw [← hA, List.length_append]; exact g1
    have lB : B.length = ((SX.at .int 13).den S ρ).toInt.toNat * e.stride := by rw [← hB, List.length_append]; exact k1
    have pA : 0 < A.length := by rw [lA]; exact Nat.mul_pos (by omega) h1
    have pB : 0 < B.length := by rw [lB]; exact Nat.mul_pos (by omega) h1
    have nA : A ≠ [] := List.length_pos_iff.1 pA
    have nB : B ≠ [] := List.length_pos_iff.1 pB
    have hne := rows_apart hsat nB nA
    obtain ⟨cB, eB, hB'⟩ := Sat.load_strict hsat nB
    obtain ⟨cellB, _⟩ := hsat.load (i := 0) pB
    rw [star_left_comm] at hsat
    obtain ⟨cA, eA, hA'⟩ := Sat.load_strict hsat nA
    refine Lib.run_overlaps_apart w tS tR et ht e.stride hz ⟨b1.toNat, _, none⟩ ⟨b2.toNat, _, none⟩ _ _ _ _ (fun h => hne h.symm) eA eB cA.size cB.size ?_ ?_ ?_ ?_ ?_
    · simp [World.shape?, hA']
    · simp [World.shape?, hB']
    · intro h0
      simp only [World.cell?, hB'] at cellB
      have : cB = #[] := Array.eq_empty_of_size_eq_zero h0
      rw [this] at cellB
      simp at cellB
    · simp [World.frozen?, hA']
    · simp [World.frozen?, hA']
  rw [show ([v1, v2] : List Value).toArray = #[v1, v2] from rfl, main]
  rfl
end
end
end Go.Eng

/- A small judge of formulas: it knows lower bounds. -/
set_option linter.unusedSimpArgs false
set_option linter.unusedVariables false
namespace Go.Eng
noncomputable section
abbrev LB := List (Nat × Int)
def LB.get : LB → Nat → Option Int
  | [], _ => none
  | (j, l) :: r, i => bif Nat.beq j i then some l else LB.get r i
mutual
def lbOf (lo hi : LB) : SX → Option Int
  | .int n => some n
  | .at s i => (match s with | .int => LB.get lo i | _ => none)
  | .f1 f _ => (match f with | 30 | 31 | 32 | 33 => some 0 | _ => none)
  | .f2 f a b => (match f with
    | 40 => (match lbOf lo hi a, lbOf lo hi b with | some x, some y => some (x + y) | _, _ => none)
    | 41 => (match lbOf lo hi a, ubOf lo hi b with | some x, some y => some (x - y) | _, _ => none)
    | 111 => some 0
    | _ => none)
  | _ => none
def ubOf (lo hi : LB) : SX → Option Int
  | .int n => some n
  | .at s i => (match s with | .int => (match LB.get hi i with | some x => some (-x) | none => none) | _ => none)
  | .f2 f a b => (match f with
    | 40 => (match ubOf lo hi a, ubOf lo hi b with | some x, some y => some (x + y) | _, _ => none)
    | 41 => (match ubOf lo hi a, lbOf lo hi b with | some x, some y => some (x - y) | _, _ => none)
    | 111 => some 255
    | _ => none)
  | _ => none
end
def LB.put (i : Nat) (c : Int) : LB → LB
  | [] => [(i, c)]
  | (j, l) :: r => bif Nat.beq j i then (j, max l c) :: r else bif Nat.blt j i then (i, c) :: (j, l) :: r else (j, l) :: LB.put i c r
def learnLo (lo : LB) (e : SX) : LB :=
  match e with
  | .f2 f (.int c) (.at .int i) => (match f with | 47 => LB.put i c lo | 46 => LB.put i (c + 1) lo | _ => lo)
  | _ => lo
def learnHi (hi : LB) (e : SX) : LB :=
  match e with
  | .f2 f (.at .int i) (.int c) => (match f with | 47 => LB.put i (-c) hi | 46 => LB.put i (-(c - 1)) hi | _ => hi)
  | _ => hi
/-- A measure that falls by a written number. -/
def fallsBy : SX → SX → Bool
  | .f2 f x (.f2 g y (.int (.ofNat (_ + 1)))), .f2 f' x' y' => bif (bif Nat.beq f 41 then (bif Nat.beq g 40 then Nat.beq f' 41 else false) else false) then (bif SX.bq x x' then SX.bq y y' else false) else false
  | _, _ => false
def proves (lo hi : LB) : SX → Bool
  | .bool b => b
  | .f1 f x => (match f with
    | 23 => (match lbOf lo hi x, ubOf lo hi x with | some l, some u => bif decide (-9223372036854775808 ≤ l) then decide (u ≤ 9223372036854775807) else false | _, _ => false)
    | _ => false)
  | .f2 f a b => (match f with
    | 47 => (match ubOf lo hi a, lbOf lo hi b with | some u, some l => decide (u ≤ l) | _, _ => false)
    | 46 => bif fallsBy a b then true else (match ubOf lo hi a, lbOf lo hi b with | some u, some l => decide (u < l) | _, _ => false)
    | _ => false)
  | _ => false
def allB (c : Int) : List UInt8 → Bool
  | [] => true
  | x :: l => bif ibq (.ofNat x.toNat) c then allB c l else false
def absurdE (lo hi : LB) : SX → Bool
  | .bool b => !b
  | .f1 f x => (match f, x with
    | 2, .f2 45 (.f2 111 (.byt l) i) (.int c) => (match lbOf lo hi i, ubOf lo hi i with
      | some (.ofNat a), some (.ofNat b) => bif Nat.blt b l.length then allB c ((l.drop a).take (b + 1 - a)) else false
      | _, _ => false)
    | _, _ => false)
  | .f2 f a b => (match f with
    | 47 => (match lbOf lo hi a, ubOf lo hi b with | some l, some u => decide (u < l) | _, _ => false)
    | 46 => (match lbOf lo hi a, ubOf lo hi b with | some l, some u => decide (u ≤ l) | _, _ => false)
    | _ => false)
  | _ => false
def LB.below (n : Nat) : LB → LB
  | [] => []
  | (j, l) :: r => bif Nat.blt j n then (j, l) :: r else LB.below n r
def VC.chk : LB → LB → VC → Bool
  | _, _, .tt => true
  | _, _, .ff _ => false
  | lo, hi, .and a b => bif VC.chk lo hi a then VC.chk lo hi b else false
  | lo, hi, .imp e a => bif absurdE lo hi e then true else VC.chk (learnLo lo e) (learnHi hi e) a
  | lo, hi, .need e a => bif proves lo hi e then VC.chk (learnLo lo e) (learnHi hi e) a else false
  | lo, hi, .all n _ a => VC.chk (LB.below n lo) (LB.below n hi) a

section
variable {G : Type} (S : Sig G)
def LBOk (v : Nat → Int) (env : LB) : Prop := env.Pairwise (fun a b => b.1 < a.1) ∧ ∀ p ∈ env, p.2 ≤ v p.1
theorem LB.get_ok {v : Nat → Int} : ∀ {env : LB}, (∀ p ∈ env, p.2 ≤ v p.1) → ∀ {i : Nat} {l : Int}, LB.get env i = some l → l ≤ v i
  | [], _, _, _, h => nomatch h
  | (j, l') :: r, ho, i, l, h => by
    simp only [LB.get] at h
    cases hb : Nat.beq j i
    · rw [hb] at h; exact LB.get_ok (fun p hp => ho p (List.mem_cons_of_mem _ hp)) h
    · rw [hb] at h; cases h
      have := ho _ List.mem_cons_self
      rw [Nat.eq_of_beq_eq_true hb] at this; exact this
theorem bnd_ok {ρ : Env G} {lo hi : LB} (ho : ∀ p ∈ lo, p.2 ≤ (ρ p.1).toInt) (hh : ∀ p ∈ hi, p.2 ≤ -(ρ p.1).toInt) : ∀ {e : SX},
    (∀ {l : Int}, lbOf lo hi e = some l → l ≤ (e.den S ρ).toInt) ∧ (∀ {l : Int}, ubOf lo hi e = some l → (e.den S ρ).toInt ≤ l) := by
  intro e
  induction e with
  | int n => exact ⟨fun h => (by simp only [lbOf] at h; cases h; exact Int.le_refl _), fun h => (by simp only [ubOf] at h; cases h; exact Int.le_refl _)⟩
  | «at» s i =>
    refine ⟨fun h => ?_, fun h => ?_⟩
    · simp only [lbOf] at h
      cases s <;> simp only [reduceCtorEq] at h
      exact LB.get_ok (v := fun i => (ρ i).toInt) ho h
    · simp only [ubOf] at h
      cases s <;> simp only [reduceCtorEq] at h
      split at h
      · rename_i x hx
        cases h
        have := LB.get_ok (v := fun i => -(ρ i).toInt) hh hx
        simp only [SX.den, U.co, U.toInt_int]
        omega
      · cases h
  | f1 f a _ =>
    refine ⟨fun h => ?_, fun h => ?_⟩
    · simp only [lbOf] at h
      split at h <;> cases h
      all_goals simp only [SX.den, ap1, U.toInt_int]; omega
    · simp only [ubOf] at h; cases h
  | f2 f a b iha ihb =>
    refine ⟨fun h => ?_, fun h => ?_⟩
    · simp only [lbOf] at h
      split at h
      · split at h
        · rename_i x y hx hy
          cases h
          have := iha.1 hx
          have := ihb.1 hy
          simp only [SX.den, ap2, U.toInt_int]; omega
        · cases h
      · split at h
        · rename_i x y hx hy
          cases h
          have := iha.1 hx
          have := ihb.2 hy
          simp only [SX.den, ap2, U.toInt_int]; omega
        · cases h
      · cases h
        simp only [SX.den, ap2, U.toInt_int]; omega
      · cases h
    · simp only [ubOf] at h
      split at h
      · split at h
        · rename_i x y hx hy
          cases h
          have := iha.2 hx
          have := ihb.2 hy
          simp only [SX.den, ap2, U.toInt_int]; omega
        · cases h
      · split at h
        · rename_i x y hx hy
          cases h
          have := iha.2 hx
          have := ihb.1 hy
          simp only [SX.den, ap2, U.toInt_int]; omega
        · cases h
      · cases h
        simp only [SX.den, ap2, U.toInt_int]
        have := (((a.den S ρ).toBytes.getD (b.den S ρ).toInt.toNat 0)).toNat_lt
        omega
      · cases h
  | _ => exact ⟨fun h => (by simp only [lbOf] at h; cases h), fun h => (by simp only [ubOf] at h; cases h)⟩
theorem LB.put_ok {ρ : Nat → Int} {i : Nat} {c : Int} (hc : c ≤ ρ i) : ∀ {env : LB}, LBOk ρ env → LBOk ρ (LB.put i c env) ∧ ∀ p ∈ LB.put i c env, p.1 = i ∨ ∃ q ∈ env, q.1 = p.1
  | [], _ => ⟨⟨List.pairwise_singleton _ _, fun p hp => by rw [LB.put, List.mem_singleton] at hp; subst hp; exact hc⟩, fun p hp => by rw [LB.put, List.mem_singleton] at hp; subst hp; exact .inl rfl⟩
  | (j, l) :: r, h => by
    obtain ⟨hp, ho⟩ := h
    rw [List.pairwise_cons] at hp
    simp only [LB.put]
    cases h1 : Nat.beq j i
    · cases h2 : Nat.blt j i
      · have ih := LB.put_ok hc (env := r) ⟨hp.2, fun p hq => ho p (List.mem_cons_of_mem _ hq)⟩
        have hij : i < j := by
          have e1 : ¬ j < i := fun hh => by rw [← Nat.blt_eq] at hh; rw [h2] at hh; cases hh
          have e2 : j ≠ i := fun hh => by rw [hh, Nat.beq_refl] at h1; cases h1
          omega
        simp only [cond_false]
        refine ⟨⟨List.pairwise_cons.2 ⟨fun p hq => ?_, ih.1.1⟩, fun p hq => ?_⟩, fun p hq => ?_⟩
        · rcases ih.2 p hq with e | ⟨q, hq', e⟩
          · rw [e]; exact hij
          · rw [← e]; exact hp.1 q hq'
        · rcases List.mem_cons.1 hq with rfl | hq
          · exact ho _ List.mem_cons_self
          · exact ih.1.2 p hq
        · rcases List.mem_cons.1 hq with rfl | hq
          · exact .inr ⟨_, List.mem_cons_self, rfl⟩
          · rcases ih.2 p hq with e | ⟨q, hq', e⟩
            · exact .inl e
            · exact .inr ⟨q, List.mem_cons_of_mem _ hq', e⟩
      · rw [Nat.blt_eq] at h2
        simp only [cond_true, cond_false]
        refine ⟨⟨List.pairwise_cons.2 ⟨fun p hq => ?_, List.pairwise_cons.2 hp⟩, fun p hq => ?_⟩, fun p hq => ?_⟩
        · rcases List.mem_cons.1 hq with rfl | hq
          · exact h2
          · have := hp.1 p hq; omega
        · rcases List.mem_cons.1 hq with rfl | hq
          · exact hc
          · exact ho p hq
        · rcases List.mem_cons.1 hq with rfl | hq
          · exact .inl rfl
          · exact .inr ⟨p, hq, rfl⟩
    · have e := Nat.eq_of_beq_eq_true h1
      subst e
      simp only [cond_true]
      refine ⟨⟨List.pairwise_cons.2 ⟨fun p hq => hp.1 p hq, hp.2⟩, fun p hq => ?_⟩, fun p hq => ?_⟩
      · rcases List.mem_cons.1 hq with rfl | hq
        · have := ho (j, l) List.mem_cons_self
          simp only at this ⊢; omega
        · exact ho p (List.mem_cons_of_mem _ hq)
      · rcases List.mem_cons.1 hq with rfl | hq
        · exact .inl rfl
        · exact .inr ⟨p, List.mem_cons_of_mem _ hq, rfl⟩
abbrev loV (ρ : Env G) : Nat → Int := fun i => (ρ i).toInt
abbrev hiV (ρ : Env G) : Nat → Int := fun i => -(ρ i).toInt
theorem learnLo_ok {ρ : Env G} {env : LB} (h : LBOk (loV ρ) env) {e : SX} (he : (e.den S ρ).toProp) : LBOk (loV ρ) (learnLo env e) := by
  unfold learnLo
  split
  · rename_i f c i
    split
    · have he : decide (c ≤ (ρ i).toInt) = true := he
      exact (LB.put_ok (of_decide_eq_true he) h).1
    · have he : decide (c < (ρ i).toInt) = true := he
      have := of_decide_eq_true he
      exact (LB.put_ok (by simp only [loV]; omega) h).1
    · exact h
  · exact h
theorem learnHi_ok {ρ : Env G} {env : LB} (h : LBOk (hiV ρ) env) {e : SX} (he : (e.den S ρ).toProp) : LBOk (hiV ρ) (learnHi env e) := by
  unfold learnHi
  split
  · rename_i f i c
    split
    · have he : decide ((ρ i).toInt ≤ c) = true := he
      have := of_decide_eq_true he
      exact (LB.put_ok (by simp only [hiV]; omega) h).1
    · have he : decide ((ρ i).toInt < c) = true := he
      have := of_decide_eq_true he
      exact (LB.put_ok (by simp only [hiV]; omega) h).1
    · exact h
  · exact h
theorem fallsBy_ok {ρ : Env G} {a b : SX} (h : fallsBy a b = true) : (a.den S ρ).toInt < (b.den S ρ).toInt := by
  unfold fallsBy at h
  split at h
  · rename_i f x g y n f' x' y'
    cases h1 : Nat.beq f 41
    · rw [h1] at h; cases h
    cases h2 : Nat.beq g 40
    · rw [h1, h2] at h; cases h
    cases h3 : Nat.beq f' 41
    · rw [h1, h2, h3] at h; cases h
    cases h4 : SX.bq x x'
    · rw [h1, h2, h3, h4] at h; cases h
    rw [h1, h2, h3, h4] at h
    have e1 := Nat.eq_of_beq_eq_true h1
    have e2 := Nat.eq_of_beq_eq_true h2
    have e3 := Nat.eq_of_beq_eq_true h3
    have e4 := SX.bq_eq h4
    have e5 := SX.bq_eq h
    subst e1; subst e2; subst e3; subst e4; subst e5
    simp only [SX.den, ap2, U.toInt_int]
    have e6 : (Int.ofNat n.succ : Int) = (n : Int) + 1 := rfl
    rw [e6]
    omega
  · cases h
theorem proves_ok {ρ : Env G} {lo hi : LB} (ho : LBOk (loV ρ) lo) (hh : LBOk (hiV ρ) hi) {e : SX} (he : proves lo hi e = true) : (e.den S ρ).toProp := by
  have B := @bnd_ok G S ρ lo hi ho.2 hh.2
  unfold proves at he
  split at he
  · simp [SX.den, he]
  · rename_i f x
    split at he
    · split at he
      · rename_i l u hl hu
        have b1 := (B).1 hl
        have b2 := (B).2 hu
        cases h1 : decide (-9223372036854775808 ≤ l)
        · rw [h1] at he; cases he
        rw [h1] at he
        have q1 := of_decide_eq_true h1
        have q2 := of_decide_eq_true he
        show (decide (IntKind.i64.min ≤ (x.den S ρ).toInt) && decide ((x.den S ρ).toInt ≤ IntKind.i64.max)) = true
        rw [Bool.and_eq_true]
        refine ⟨decide_eq_true ?_, decide_eq_true ?_⟩
        · show (-(2 ^ 63) : Int) ≤ _; omega
        · show _ ≤ (2 ^ 63 - 1 : Int); omega
      · cases he
    · cases he
  · rename_i f a b
    split at he
    · split at he
      · rename_i u l hu hl
        have b1 := (B).2 hu
        have b2 := (B).1 hl
        have := of_decide_eq_true he
        show decide ((a.den S ρ).toInt ≤ (b.den S ρ).toInt) = true
        exact decide_eq_true (by omega)
      · cases he
    · cases hf : fallsBy a b
      · rw [hf] at he
        simp only [cond_false] at he
        split at he
        · rename_i u l hu hl
          have b1 := (B).2 hu
          have b2 := (B).1 hl
          have := of_decide_eq_true he
          show decide ((a.den S ρ).toInt < (b.den S ρ).toInt) = true
          exact decide_eq_true (by omega)
        · cases he
      · show decide ((a.den S ρ).toInt < (b.den S ρ).toInt) = true
        exact decide_eq_true (fallsBy_ok S hf)
    · cases he
  · cases he
theorem allB_ok {c : Int} : ∀ {l : List UInt8}, allB c l = true → ∀ x ∈ l, ((x.toNat : Nat) : Int) = c
  | [], _, x, hx => nomatch hx
  | y :: l, h, x, hx => by
    simp only [allB] at h
    cases h1 : ibq (.ofNat y.toNat) c
    · rw [h1] at h; cases h
    · rw [h1] at h
      rcases List.mem_cons.1 hx with rfl | hx
      · exact ibq_eq h1
      · exact allB_ok h x hx
theorem absurdE_ok {ρ : Env G} {lo hi : LB} (ho : LBOk (loV ρ) lo) (hh : LBOk (hiV ρ) hi) {e : SX} (he : absurdE lo hi e = true) : ¬ (e.den S ρ).toProp := by
  have B := @bnd_ok G S ρ lo hi ho.2 hh.2
  unfold absurdE at he
  split at he
  · rename_i b; cases b <;> simp [SX.den] at he ⊢
  · rename_i f x
    split at he
    · rename_i l i c
      split at he
      · rename_i a b hl hu
        have b1 := (B).1 hl
        have b2 := (B).2 hu
        cases h1 : Nat.blt b l.length
        · rw [h1] at he; cases he
        rw [h1] at he
        simp only [cond_true] at he
        rw [Nat.blt_eq] at h1
        have c1 : (Int.ofNat a : Int) = (a : Int) := rfl
        have c2 : (Int.ofNat b : Int) = (b : Int) := rfl
        have hlt : (i.den S ρ).toInt.toNat < l.length := by omega
        have hval : ((((l.getD (i.den S ρ).toInt.toNat 0).toNat : Nat) : Int)) = c := by
          apply allB_ok he
          rw [List.getD_eq_getElem?_getD, List.getElem?_eq_getElem hlt]
          apply List.mem_iff_getElem?.2
          refine ⟨(i.den S ρ).toInt.toNat - a, ?_⟩
          rw [List.getElem?_take_of_lt (by omega), List.getElem?_drop, show a + ((i.den S ρ).toInt.toNat - a) = (i.den S ρ).toInt.toNat by omega, List.getElem?_eq_getElem hlt]
          rfl
        intro hq
        have hq : (!((((l.getD (i.den S ρ).toInt.toNat 0).toNat : Nat) : Int) == c)) = true := hq
        rw [hval] at hq
        simp at hq
      · cases he
    · cases he
  · rename_i f a b
    split at he
    · split at he
      · rename_i l u hl hu
        have b1 := (B).1 hl
        have b2 := (B).2 hu
        have := of_decide_eq_true he
        intro hq
        have hq : decide ((a.den S ρ).toInt ≤ (b.den S ρ).toInt) = true := hq
        have := of_decide_eq_true hq
        omega
      · cases he
    · split at he
      · rename_i l u hl hu
        have b1 := (B).1 hl
        have b2 := (B).2 hu
        have := of_decide_eq_true he
        intro hq
        have hq : decide ((a.den S ρ).toInt < (b.den S ρ).toInt) = true := hq
        have := of_decide_eq_true hq
        omega
      · cases he
    · cases he
  · cases he
theorem below_ok {v v' : Nat → Int} {n : Nat} (hv : ∀ i, i < n → v' i = v i) : ∀ {env : LB}, LBOk v env → LBOk v' (LB.below n env)
  | [], _ => ⟨List.Pairwise.nil, fun _ h => nomatch h⟩
  | (j, l) :: r, h => by
    simp only [LB.below]
    obtain ⟨hp, ho⟩ := h
    have hp' := List.pairwise_cons.1 hp
    cases h1 : Nat.blt j n
    · exact below_ok hv ⟨hp'.2, fun p hq => ho p (List.mem_cons_of_mem _ hq)⟩
    · rw [Nat.blt_eq] at h1
      refine ⟨hp, fun p hq => ?_⟩
      have hlt : p.1 < n := by
        rcases List.mem_cons.1 hq with rfl | hq
        · exact h1
        · have := hp'.1 p hq; simp only at this; omega
      rw [hv _ hlt]; exact ho p hq
theorem upd_low (ρ : Env G) (n : Nat) (u : U G) (i : Nat) (h : i < n) : ρ.upd n u i = ρ i := by unfold Env.upd; rw [if_neg (by omega)]
theorem VC.chk_ok : ∀ (v : VC) (lo hi : LB) (ρ : Env G), LBOk (loV ρ) lo → LBOk (hiV ρ) hi → VC.chk lo hi v = true → v.den S ρ := by
  intro v
  induction v with
  | tt => intro _ _ _ _ _ _; trivial
  | ff n => intro _ _ _ _ _ h; cases h
  | and a b iha ihb =>
    intro lo hi ρ ho hh h
    simp only [VC.chk] at h
    cases h1 : VC.chk lo hi a
    · rw [h1] at h; cases h
    · rw [h1] at h; exact ⟨iha lo hi ρ ho hh h1, ihb lo hi ρ ho hh h⟩
  | imp e a ih =>
    intro lo hi ρ ho hh h he
    simp only [VC.chk] at h
    cases h1 : absurdE lo hi e
    · rw [h1] at h; exact ih _ _ ρ (learnLo_ok S ho he) (learnHi_ok S hh he) h
    · exact absurd he (absurdE_ok S ho hh h1)
  | need e a ih =>
    intro lo hi ρ ho hh h
    simp only [VC.chk] at h
    cases h1 : proves lo hi e
    · rw [h1] at h; cases h
    · rw [h1] at h
      have he := proves_ok S ho hh h1
      exact ⟨he, ih _ _ ρ (learnLo_ok S ho he) (learnHi_ok S hh he) h⟩
  | all n s a ih =>
    intro lo hi ρ ho hh h
    have key : ∀ u : U G, a.den S (ρ.upd n u) := fun u => ih _ _ _ (below_ok (fun i hi => by simp only [loV, upd_low ρ n u i hi]) ho) (below_ok (fun i hi => by simp only [hiV, upd_low ρ n u i hi]) hh) h
    cases s <;> exact fun x => key _
theorem vc_chk {v : VC} (h : VC.chk [] [] v = true) (ρ : Env G) : v.den S ρ := VC.chk_ok S v [] [] ρ ⟨List.Pairwise.nil, fun _ h => nomatch h⟩ ⟨List.Pairwise.nil, fun _ h => nomatch h⟩ h
end
end
end Go.Eng

/- What each of the library's functions means, one equation each. -/
set_option linter.unusedSimpArgs false
set_option linter.unusedVariables false
namespace Go.Eng
noncomputable section
section
variable {G : Type}
theorem p155 (a b : U G) : (ap2 155 a b).toProp = (a = b) := by
  show (@decide (a = b) (Classical.propDecidable _) = true) = _
  exact propext ⟨fun h => @of_decide_eq_true _ (Classical.propDecidable _) h, fun h => @decide_eq_true _ (Classical.propDecidable _) h⟩
theorem ap1_1 (a : U G) : ap1 1 a = .int (-a.toInt) := rfl
theorem ap1_2 (a : U G) : ap1 2 a = .bool (!a.toBool) := rfl
theorem ap1_3 (a : U G) : ap1 3 a = .int (if a.toBool then 1 else 0) := rfl
theorem ap1_4 (a : U G) : ap1 4 a = .int a.toInt := rfl
theorem ap1_10 (a : U G) : ap1 10 a = .int (IntKind.wrap .i8 a.toInt) := rfl
theorem ap1_11 (a : U G) : ap1 11 a = .int (IntKind.wrap .i16 a.toInt) := rfl
theorem ap1_12 (a : U G) : ap1 12 a = .int (IntKind.wrap .i32 a.toInt) := rfl
theorem ap1_13 (a : U G) : ap1 13 a = .int (IntKind.wrap .i64 a.toInt) := rfl
theorem ap1_14 (a : U G) : ap1 14 a = .int (IntKind.wrap .u8 a.toInt) := rfl
theorem ap1_15 (a : U G) : ap1 15 a = .int (IntKind.wrap .u16 a.toInt) := rfl
theorem ap1_16 (a : U G) : ap1 16 a = .int (IntKind.wrap .u32 a.toInt) := rfl
theorem ap1_17 (a : U G) : ap1 17 a = .int (IntKind.wrap .u64 a.toInt) := rfl
theorem ap1_20 (a : U G) : ap1 20 a = .bool (decide (IntKind.min .i8 ≤ a.toInt) && decide (a.toInt ≤ IntKind.max .i8)) := rfl
theorem ap1_21 (a : U G) : ap1 21 a = .bool (decide (IntKind.min .i16 ≤ a.toInt) && decide (a.toInt ≤ IntKind.max .i16)) := rfl
theorem ap1_22 (a : U G) : ap1 22 a = .bool (decide (IntKind.min .i32 ≤ a.toInt) && decide (a.toInt ≤ IntKind.max .i32)) := rfl
theorem ap1_23 (a : U G) : ap1 23 a = .bool (decide (IntKind.min .i64 ≤ a.toInt) && decide (a.toInt ≤ IntKind.max .i64)) := rfl
theorem ap1_24 (a : U G) : ap1 24 a = .bool (decide (IntKind.min .u8 ≤ a.toInt) && decide (a.toInt ≤ IntKind.max .u8)) := rfl
theorem ap1_25 (a : U G) : ap1 25 a = .bool (decide (IntKind.min .u16 ≤ a.toInt) && decide (a.toInt ≤ IntKind.max .u16)) := rfl
theorem ap1_26 (a : U G) : ap1 26 a = .bool (decide (IntKind.min .u32 ≤ a.toInt) && decide (a.toInt ≤ IntKind.max .u32)) := rfl
theorem ap1_27 (a : U G) : ap1 27 a = .bool (decide (IntKind.min .u64 ≤ a.toInt) && decide (a.toInt ≤ IntKind.max .u64)) := rfl
theorem ap1_30 (a : U G) : ap1 30 a = .int a.toInts.length := rfl
theorem ap1_31 (a : U G) : ap1 31 a = .int a.toBytes.length := rfl
theorem ap1_32 (a : U G) : ap1 32 a = .int a.toRows.length := rfl
theorem ap1_33 (a : U G) : ap1 33 a = .int a.toMap.length := rfl
theorem ap1_152 (a : U G) : ap1 152 a = .ints [] := rfl
theorem ap1_153 (a : U G) : ap1 153 a = .bytes [] := rfl
theorem ap1_154 (a : U G) : ap1 154 a = .rows [] := rfl
theorem ap1_155 (a : U G) : ap1 155 a = .amap [] := rfl
theorem ap1_160 (a : U G) : ap1 160 a = .int (crcRun 4294967295 a.toBytes : Nat) := rfl
theorem ap2_40 (a b : U G) : ap2 40 a b = .int (a.toInt + b.toInt) := rfl
theorem ap2_41 (a b : U G) : ap2 41 a b = .int (a.toInt - b.toInt) := rfl
theorem ap2_42 (a b : U G) : ap2 42 a b = .int (a.toInt * b.toInt) := rfl
theorem ap2_43 (a b : U G) : ap2 43 a b = .int (a.toInt.tdiv b.toInt) := rfl
theorem ap2_44 (a b : U G) : ap2 44 a b = .int (a.toInt.tmod b.toInt) := rfl
theorem ap2_45 (a b : U G) : ap2 45 a b = .bool (a.toInt == b.toInt) := rfl
theorem ap2_46 (a b : U G) : ap2 46 a b = .bool (decide (a.toInt < b.toInt)) := rfl
theorem ap2_47 (a b : U G) : ap2 47 a b = .bool (decide (a.toInt ≤ b.toInt)) := rfl
theorem ap2_48 (a b : U G) : ap2 48 a b = .bool (a.toBool == b.toBool) := rfl
theorem ap2_49 (a b : U G) : ap2 49 a b = .bool (a.toBool && b.toBool) := rfl
theorem ap2_50 (a b : U G) : ap2 50 a b = .bool (a.toBool || b.toBool) := rfl
theorem ap2_51 (a b : U G) : ap2 51 a b = .int (if b.toInt < a.toInt then b.toInt else a.toInt) := rfl
theorem ap2_52 (a b : U G) : ap2 52 a b = .int (if b.toInt > a.toInt then b.toInt else a.toInt) := rfl
theorem ap2_60 (a b : U G) : ap2 60 a b = .int (bitsV .and .i8 a.toInt b.toInt) := rfl
theorem ap2_61 (a b : U G) : ap2 61 a b = .int (bitsV .and .i16 a.toInt b.toInt) := rfl
theorem ap2_62 (a b : U G) : ap2 62 a b = .int (bitsV .and .i32 a.toInt b.toInt) := rfl
theorem ap2_63 (a b : U G) : ap2 63 a b = .int (bitsV .and .i64 a.toInt b.toInt) := rfl
theorem ap2_64 (a b : U G) : ap2 64 a b = .int (bitsV .and .u8 a.toInt b.toInt) := rfl
theorem ap2_65 (a b : U G) : ap2 65 a b = .int (bitsV .and .u16 a.toInt b.toInt) := rfl
theorem ap2_66 (a b : U G) : ap2 66 a b = .int (bitsV .and .u32 a.toInt b.toInt) := rfl
theorem ap2_67 (a b : U G) : ap2 67 a b = .int (bitsV .and .u64 a.toInt b.toInt) := rfl
theorem ap2_68 (a b : U G) : ap2 68 a b = .int (bitsV .or .i8 a.toInt b.toInt) := rfl
theorem ap2_69 (a b : U G) : ap2 69 a b = .int (bitsV .or .i16 a.toInt b.toInt) := rfl
theorem ap2_70 (a b : U G) : ap2 70 a b = .int (bitsV .or .i32 a.toInt b.toInt) := rfl
theorem ap2_71 (a b : U G) : ap2 71 a b = .int (bitsV .or .i64 a.toInt b.toInt) := rfl
theorem ap2_72 (a b : U G) : ap2 72 a b = .int (bitsV .or .u8 a.toInt b.toInt) := rfl
theorem ap2_73 (a b : U G) : ap2 73 a b = .int (bitsV .or .u16 a.toInt b.toInt) := rfl
theorem ap2_74 (a b : U G) : ap2 74 a b = .int (bitsV .or .u32 a.toInt b.toInt) := rfl
theorem ap2_75 (a b : U G) : ap2 75 a b = .int (bitsV .or .u64 a.toInt b.toInt) := rfl
theorem ap2_76 (a b : U G) : ap2 76 a b = .int (bitsV .xor .i8 a.toInt b.toInt) := rfl
theorem ap2_77 (a b : U G) : ap2 77 a b = .int (bitsV .xor .i16 a.toInt b.toInt) := rfl
theorem ap2_78 (a b : U G) : ap2 78 a b = .int (bitsV .xor .i32 a.toInt b.toInt) := rfl
theorem ap2_79 (a b : U G) : ap2 79 a b = .int (bitsV .xor .i64 a.toInt b.toInt) := rfl
theorem ap2_80 (a b : U G) : ap2 80 a b = .int (bitsV .xor .u8 a.toInt b.toInt) := rfl
theorem ap2_81 (a b : U G) : ap2 81 a b = .int (bitsV .xor .u16 a.toInt b.toInt) := rfl
theorem ap2_82 (a b : U G) : ap2 82 a b = .int (bitsV .xor .u32 a.toInt b.toInt) := rfl
theorem ap2_83 (a b : U G) : ap2 83 a b = .int (bitsV .xor .u64 a.toInt b.toInt) := rfl
theorem ap2_84 (a b : U G) : ap2 84 a b = .int (bitsV .andNot .i8 a.toInt b.toInt) := rfl
theorem ap2_85 (a b : U G) : ap2 85 a b = .int (bitsV .andNot .i16 a.toInt b.toInt) := rfl
theorem ap2_86 (a b : U G) : ap2 86 a b = .int (bitsV .andNot .i32 a.toInt b.toInt) := rfl
theorem ap2_87 (a b : U G) : ap2 87 a b = .int (bitsV .andNot .i64 a.toInt b.toInt) := rfl
theorem ap2_88 (a b : U G) : ap2 88 a b = .int (bitsV .andNot .u8 a.toInt b.toInt) := rfl
theorem ap2_89 (a b : U G) : ap2 89 a b = .int (bitsV .andNot .u16 a.toInt b.toInt) := rfl
theorem ap2_90 (a b : U G) : ap2 90 a b = .int (bitsV .andNot .u32 a.toInt b.toInt) := rfl
theorem ap2_91 (a b : U G) : ap2 91 a b = .int (bitsV .andNot .u64 a.toInt b.toInt) := rfl
theorem ap2_92 (a b : U G) : ap2 92 a b = .int (IntKind.wrap .i8 (a.toInt * 2 ^ (min b.toInt.toNat (IntKind.bits .i8)))) := rfl
theorem ap2_93 (a b : U G) : ap2 93 a b = .int (IntKind.wrap .i16 (a.toInt * 2 ^ (min b.toInt.toNat (IntKind.bits .i16)))) := rfl
theorem ap2_94 (a b : U G) : ap2 94 a b = .int (IntKind.wrap .i32 (a.toInt * 2 ^ (min b.toInt.toNat (IntKind.bits .i32)))) := rfl
theorem ap2_95 (a b : U G) : ap2 95 a b = .int (IntKind.wrap .i64 (a.toInt * 2 ^ (min b.toInt.toNat (IntKind.bits .i64)))) := rfl
theorem ap2_96 (a b : U G) : ap2 96 a b = .int (IntKind.wrap .u8 (a.toInt * 2 ^ (min b.toInt.toNat (IntKind.bits .u8)))) := rfl
theorem ap2_97 (a b : U G) : ap2 97 a b = .int (IntKind.wrap .u16 (a.toInt * 2 ^ (min b.toInt.toNat (IntKind.bits .u16)))) := rfl
theorem ap2_98 (a b : U G) : ap2 98 a b = .int (IntKind.wrap .u32 (a.toInt * 2 ^ (min b.toInt.toNat (IntKind.bits .u32)))) := rfl
theorem ap2_99 (a b : U G) : ap2 99 a b = .int (IntKind.wrap .u64 (a.toInt * 2 ^ (min b.toInt.toNat (IntKind.bits .u64)))) := rfl
theorem ap2_100 (a b : U G) : ap2 100 a b = .int (a.toInt.fdiv (2 ^ (min b.toInt.toNat (IntKind.bits .i8)))) := rfl
theorem ap2_101 (a b : U G) : ap2 101 a b = .int (a.toInt.fdiv (2 ^ (min b.toInt.toNat (IntKind.bits .i16)))) := rfl
theorem ap2_102 (a b : U G) : ap2 102 a b = .int (a.toInt.fdiv (2 ^ (min b.toInt.toNat (IntKind.bits .i32)))) := rfl
theorem ap2_103 (a b : U G) : ap2 103 a b = .int (a.toInt.fdiv (2 ^ (min b.toInt.toNat (IntKind.bits .i64)))) := rfl
theorem ap2_104 (a b : U G) : ap2 104 a b = .int (a.toInt.fdiv (2 ^ (min b.toInt.toNat (IntKind.bits .u8)))) := rfl
theorem ap2_105 (a b : U G) : ap2 105 a b = .int (a.toInt.fdiv (2 ^ (min b.toInt.toNat (IntKind.bits .u16)))) := rfl
theorem ap2_106 (a b : U G) : ap2 106 a b = .int (a.toInt.fdiv (2 ^ (min b.toInt.toNat (IntKind.bits .u32)))) := rfl
theorem ap2_107 (a b : U G) : ap2 107 a b = .int (a.toInt.fdiv (2 ^ (min b.toInt.toNat (IntKind.bits .u64)))) := rfl
theorem ap2_110 (a b : U G) : ap2 110 a b = .int (a.toInts.getD b.toInt.toNat 0) := rfl
theorem ap2_111 (a b : U G) : ap2 111 a b = .int ((a.toBytes.getD b.toInt.toNat 0).toNat : Nat) := rfl
theorem ap2_113 (a b : U G) : ap2 113 a b = .ints (a.toInts.take b.toInt.toNat) := rfl
theorem ap2_114 (a b : U G) : ap2 114 a b = .bytes (a.toBytes.take b.toInt.toNat) := rfl
theorem ap2_115 (a b : U G) : ap2 115 a b = .rows (a.toRows.take b.toInt.toNat) := rfl
theorem ap2_116 (a b : U G) : ap2 116 a b = .ints (a.toInts.drop b.toInt.toNat) := rfl
theorem ap2_117 (a b : U G) : ap2 117 a b = .bytes (a.toBytes.drop b.toInt.toNat) := rfl
theorem ap2_118 (a b : U G) : ap2 118 a b = .rows (a.toRows.drop b.toInt.toNat) := rfl
theorem ap2_119 (a b : U G) : ap2 119 a b = .ints (a.toInts ++ b.toInts) := rfl
theorem ap2_120 (a b : U G) : ap2 120 a b = .bytes (a.toBytes ++ b.toBytes) := rfl
theorem ap2_121 (a b : U G) : ap2 121 a b = .rows (a.toRows ++ b.toRows) := rfl
theorem ap2_122 (a b : U G) : ap2 122 a b = .ints (a.toInt :: b.toInts) := rfl
theorem ap2_123 (a b : U G) : ap2 123 a b = .bytes (UInt8.ofNat a.toInt.toNat :: b.toBytes) := rfl
theorem ap2_124 (a b : U G) : ap2 124 a b = .rows (a.toInts :: b.toRows) := rfl
theorem ap2_125 (a b : U G) : ap2 125 a b = .ints (List.replicate a.toInt.toNat b.toInt) := rfl
theorem ap2_126 (a b : U G) : ap2 126 a b = .bytes (List.replicate a.toInt.toNat (UInt8.ofNat b.toInt.toNat)) := rfl
theorem ap2_127 (a b : U G) : ap2 127 a b = .rows (List.replicate a.toInt.toNat b.toInts) := rfl
theorem ap2_141 (a b : U G) : ap2 141 a b = .bool (mhas a.toMap b.toInt) := rfl
theorem ap2_143 (a b : U G) : ap2 143 a b = .amap (mdel a.toMap b.toInt) := rfl
theorem ap2_150 (a b : U G) : ap2 150 a b = .bool (a.toBytes == b.toBytes) := rfl
theorem ap2_151 (a b : U G) : ap2 151 a b = .bool (Op.bytesLess a.toBytes b.toBytes) := rfl
theorem ap2_153 (a b : U G) : ap2 153 a b = .bool (a.toInts == b.toInts) := rfl
theorem ap3_112 (a b c : U G) : ap3 112 a b c = .int ((a.toRows.getD b.toInt.toNat []).getD c.toInt.toNat 0) := rfl
theorem ap3_130 (a b c : U G) : ap3 130 a b c = .ints (a.toInts.set b.toInt.toNat c.toInt) := rfl
theorem ap3_131 (a b c : U G) : ap3 131 a b c = .bytes (a.toBytes.set b.toInt.toNat (UInt8.ofNat c.toInt.toNat)) := rfl
theorem ap3_132 (a b c : U G) : ap3 132 a b c = .rows (a.toRows.set b.toInt.toNat c.toInts) := rfl
theorem ap3_133 (a b c : U G) : ap3 133 a b c = .int (if a.toBool then b.toInt else c.toInt) := rfl
theorem ap3_134 (a b c : U G) : ap3 134 a b c = .bool (if a.toBool then b.toBool else c.toBool) := rfl
theorem ap3_140 (a b c : U G) : ap3 140 a b c = .int (mget a.toInt b.toMap c.toInt) := rfl
theorem ap3_142 (a b c : U G) : ap3 142 a b c = .amap (mset a.toMap b.toInt c.toInt) := rfl

def imin (x y : Int) : Int := if y < x then y else x
def imax (x y : Int) : Int := if y > x then y else x
theorem ap2_51i {G : Type} (a b : U G) : ap2 51 a b = .int (imin a.toInt b.toInt) := rfl
theorem ap2_52i {G : Type} (a b : U G) : ap2 52 a b = .int (imax a.toInt b.toInt) := rfl
theorem imin_left {x y : Int} (h : x ≤ y) : imin x y = x := by unfold imin; rw [if_neg (by omega)]
theorem imin_right {x y : Int} (h : y ≤ x) : imin x y = y := by unfold imin; split <;> omega
def leB (x y : Int) : Bool := decide (x ≤ y)
def ltB (x y : Int) : Bool := decide (x < y)
theorem t47 {G : Type} (a b : U G) : (ap2 47 a b).toBool = leB a.toInt b.toInt := rfl
theorem t46 {G : Type} (a b : U G) : (ap2 46 a b).toBool = ltB a.toInt b.toInt := rfl
theorem leB_iff {x y : Int} : leB x y = true ↔ x ≤ y := by unfold leB; simp
theorem ltB_iff {x y : Int} : ltB x y = true ↔ x < y := by unfold ltB; simp
theorem dec_true {p : Prop} {i : Decidable p} : (@decide p i = true) = p := propext ⟨fun h => of_decide_eq_true h, fun h => decide_eq_true h⟩
theorem p45 {G : Type} (a b : U G) : (ap2 45 a b).toProp = (a.toInt = b.toInt) := by simp [ap2_45]
theorem p153 {G : Type} (a b : U G) : (ap2 153 a b).toProp = (a.toInts = b.toInts) := by simp [ap2_153]
theorem p46 {G : Type} (a b : U G) : (ap2 46 a b).toProp = (a.toInt < b.toInt) := dec_true
theorem p47 {G : Type} (a b : U G) : (ap2 47 a b).toProp = (a.toInt ≤ b.toInt) := dec_true
theorem p2_45 {G : Type} (a b : U G) : (ap1 2 (ap2 45 a b)).toProp = ¬ (a.toInt = b.toInt) := by simp [ap1_2, ap2_45]
theorem p2_46 {G : Type} (a b : U G) : (ap1 2 (ap2 46 a b)).toProp = ¬ (a.toInt < b.toInt) := by
  rw [ap1_2, ap2_46]; simp only [U.toProp_bool, U.toBool_bool]; by_cases h : a.toInt < b.toInt <;> simp [h]
theorem p2_47 {G : Type} (a b : U G) : (ap1 2 (ap2 47 a b)).toProp = ¬ (a.toInt ≤ b.toInt) := by
  rw [ap1_2, ap2_47]; simp only [U.toProp_bool, U.toBool_bool]; by_cases h : a.toInt ≤ b.toInt <;> simp [h]
theorem p49 {G : Type} (a b : U G) : (ap2 49 a b).toProp = (a.toBool = true ∧ b.toBool = true) := by simp [ap2_49]
theorem p50 {G : Type} (a b : U G) : (ap2 50 a b).toProp = (a.toBool = true ∨ b.toBool = true) := by simp [ap2_50]
theorem b45 {G : Type} (a b : U G) : ((ap2 45 a b).toBool = true) = (a.toInt = b.toInt) := p45 a b
theorem b46 {G : Type} (a b : U G) : ((ap2 46 a b).toBool = true) = (a.toInt < b.toInt) := p46 a b
theorem b47 {G : Type} (a b : U G) : ((ap2 47 a b).toBool = true) = (a.toInt ≤ b.toInt) := p47 a b
theorem p20 {G : Type} (a : U G) : (ap1 20 a).toProp = (IntKind.min .i8 ≤ a.toInt ∧ a.toInt ≤ IntKind.max .i8) := by
  rw [ap1_20, U.toProp_bool, Bool.and_eq_true, dec_true, dec_true]
theorem p21 {G : Type} (a : U G) : (ap1 21 a).toProp = (IntKind.min .i16 ≤ a.toInt ∧ a.toInt ≤ IntKind.max .i16) := by
  rw [ap1_21, U.toProp_bool, Bool.and_eq_true, dec_true, dec_true]
theorem p22 {G : Type} (a : U G) : (ap1 22 a).toProp = (IntKind.min .i32 ≤ a.toInt ∧ a.toInt ≤ IntKind.max .i32) := by
  rw [ap1_22, U.toProp_bool, Bool.and_eq_true, dec_true, dec_true]
theorem p23 {G : Type} (a : U G) : (ap1 23 a).toProp = (IntKind.min .i64 ≤ a.toInt ∧ a.toInt ≤ IntKind.max .i64) := by
  rw [ap1_23, U.toProp_bool, Bool.and_eq_true, dec_true, dec_true]
theorem p24 {G : Type} (a : U G) : (ap1 24 a).toProp = (IntKind.min .u8 ≤ a.toInt ∧ a.toInt ≤ IntKind.max .u8) := by
  rw [ap1_24, U.toProp_bool, Bool.and_eq_true, dec_true, dec_true]
theorem p25 {G : Type} (a : U G) : (ap1 25 a).toProp = (IntKind.min .u16 ≤ a.toInt ∧ a.toInt ≤ IntKind.max .u16) := by
  rw [ap1_25, U.toProp_bool, Bool.and_eq_true, dec_true, dec_true]
theorem p26 {G : Type} (a : U G) : (ap1 26 a).toProp = (IntKind.min .u32 ≤ a.toInt ∧ a.toInt ≤ IntKind.max .u32) := by
  rw [ap1_26, U.toProp_bool, Bool.and_eq_true, dec_true, dec_true]
theorem p27 {G : Type} (a : U G) : (ap1 27 a).toProp = (IntKind.min .u64 ≤ a.toInt ∧ a.toInt ≤ IntKind.max .u64) := by
  rw [ap1_27, U.toProp_bool, Bool.and_eq_true, dec_true, dec_true]
theorem upd_self (ρ : Env G) (n : Nat) (u : U G) : ρ.upd n u n = u := by simp [Env.upd]
theorem upd_ne (ρ : Env G) {n m : Nat} (u : U G) (h : m ≠ n) : ρ.upd n u m = ρ m := by simp [Env.upd, h]
end

/-! ### Bits of words without sign, and the check sum -/
theorem ofInt_nat (n m : Nat) : BitVec.ofInt n (m : Int) = BitVec.ofNat n m := by
  rw [BitVec.ofInt_natCast]
theorem bitsV_u32_xor (a b : Nat) (ha : a < 4294967296) (hb : b < 4294967296) : bitsV .xor .u32 a b = ((a ^^^ b : Nat) : Int) := by
  have e0 : bitsV .xor .u32 a b = IntKind.u32.wrap ((BitVec.ofInt 32 (a : Int) ^^^ BitVec.ofInt 32 (b : Int)).toNat : Nat) := rfl
  rw [e0, ofInt_nat, ofInt_nat]
  have h1 : (BitVec.ofNat 32 a ^^^ BitVec.ofNat 32 b).toNat = a ^^^ b := by
    rw [BitVec.toNat_xor, BitVec.toNat_ofNat, BitVec.toNat_ofNat, Nat.mod_eq_of_lt ha, Nat.mod_eq_of_lt hb]
  rw [h1]
  have h2 : a ^^^ b < 2 ^ 32 := Nat.xor_lt_two_pow ha hb
  unfold IntKind.wrap
  simp only [IntKind.signed, IntKind.bits]
  simp
  omega
theorem bitsV_u32_and15 (a : Nat) (ha : a < 4294967296) : bitsV .and .u32 a 15 = ((a &&& 15 : Nat) : Int) := by
  have e0 : bitsV .and .u32 a 15 = IntKind.u32.wrap ((BitVec.ofInt 32 (a : Int) &&& BitVec.ofInt 32 ((15 : Nat) : Int)).toNat : Nat) := rfl
  rw [e0, ofInt_nat, ofInt_nat]
  have h1 : (BitVec.ofNat 32 a &&& BitVec.ofNat 32 15).toNat = a &&& 15 := by
    rw [BitVec.toNat_and, BitVec.toNat_ofNat, BitVec.toNat_ofNat, Nat.mod_eq_of_lt ha, Nat.mod_eq_of_lt (by omega)]
  rw [h1]
  have h2 : a &&& 15 ≤ 15 := Nat.and_le_right
  unfold IntKind.wrap
  simp only [IntKind.signed, IntKind.bits]
  simp
  omega
theorem crcTab_lt (n : Nat) : crcTab.getD n 0 < 4294967296 := by
  match n with
  | 0 | 1 | 2 | 3 | 4 | 5 | 6 | 7 | 8 | 9 | 10 | 11 | 12 | 13 | 14 | 15 => decide
  | n + 16 => simp [crcTab]
theorem crcHalf_lt {r : Nat} (h : r < 4294967296) : crcHalf r < 4294967296 := Nat.xor_lt_two_pow (n := 32) (crcTab_lt _) (by omega)
theorem crcByte_lt {r x : Nat} (h : r < 4294967296) (hx : x < 256) : crcByte r x < 4294967296 :=
  crcHalf_lt (crcHalf_lt (Nat.xor_lt_two_pow (n := 32) h (by omega)))
theorem crcRun_lt : ∀ (l : List UInt8) {r : Nat}, r < 4294967296 → crcRun r l < 4294967296
  | [], _, h => h
  | x :: l, _, h => crcRun_lt l (crcByte_lt h (by have := x.toNat_lt; omega))
theorem crcRun_append : ∀ (l m : List UInt8) (r : Nat), crcRun r (l ++ m) = crcRun (crcRun r l) m
  | [], _, _ => rfl
  | x :: l, m, r => by simp only [List.cons_append, crcRun]; exact crcRun_append l m _
theorem crcRun_take (l : List UInt8) (i : Nat) (h : i < l.length) (r : Nat) : crcRun r (l.take (i + 1)) = crcByte (crcRun r (l.take i)) (l.getD i 0).toNat := by
  rw [List.take_add_one, crcRun_append, List.getD_eq_getElem?_getD, List.getElem?_eq_getElem h]
  rfl
def tabI : List Int := [0, 274646895, 549293790, 820201905, 1098587580, 1361435347, 1640403810, 1905808397, 2197175160, 2460548119, 2722870694, 2987750089, 3280807620, 3553878443, 3811616794, 4084100981]
theorem tabI_get (n : Nat) : tabI.getD n 0 = ((crcTab.getD n 0 : Nat) : Int) := by
  match n with
  | 0 | 1 | 2 | 3 | 4 | 5 | 6 | 7 | 8 | 9 | 10 | 11 | 12 | 13 | 14 | 15 => rfl
  | n + 16 => simp [tabI, crcTab]
/-- The half step as the code takes it. -/
theorem half_step (r : Nat) (h : r < 4294967296) : bitsV .xor .u32 (tabI.getD (bitsV .and .u32 r 15).toNat 0) ((r : Int).fdiv (2 ^ (min (Int.toNat 4) (IntKind.bits .u32)))) = (crcHalf r : Nat) := by
  rw [bitsV_u32_and15 r h, tabI_get]
  have e : ((r : Int).fdiv (2 ^ (min (Int.toNat 4) (IntKind.bits .u32)))) = ((r / 16 : Nat) : Int) := by
    have : (2 : Int) ^ (min (Int.toNat 4) (IntKind.bits .u32)) = 16 := by decide
    rw [this, Int.fdiv_eq_ediv_of_nonneg _ (by omega)]
    omega
  rw [e, bitsV_u32_xor _ _ (crcTab_lt _) (by omega)]
  rfl
end
end Go.Eng

/- From a contract of a law to its statement. -/
set_option linter.unusedVariables false
namespace Go.Eng
noncomputable section
open Go.RowKit (Below)
open Go.ChangeShapes Go.WideShapes
theorem post_below {H : Type} {enc : TypeId × Value → H} {P : Program} {f : Func} {s : ChangeSpec} {apart fresh handsOn again : Bool} {W W' : World} {args : Array Value} {v : Value} {ds gs : List (DataW H)} {before pa pv : List MemPlace}
    (hW : DataW.Whole enc P f.params.toList s.vars apart W args.toList ds gs before)
    (hres : ∀ (b : Nat) (sp : Nat → Bool) (hd : Bool), DataW.TrodAll enc P W' b sp hd f.resultTypes.toList (v.resultList f.resultTypes.size) (s.fn H (ds ++ gs)).results [])
    (hargs : ∀ sp : Nat → Bool, (∀ p ∈ before, sp p.block = true) → DataW.TrodAll enc P W' 0 sp true f.params.toList args.toList (s.fn H (ds ++ gs)).args pa)
    (hvars : ∀ sp : Nat → Bool, (∀ p ∈ before, sp p.block = true) → DataW.TrodVars enc P W' sp s.vars (s.fn H (ds ++ gs)).vars pv)
    (hps : before = pa ++ pv) (hb : Below W.heap.size W W')
    (hok : ∀ (j : Nat) (t : TypeId) (r : Value), f.resultTypes[j]? = some t → (v.resultList f.resultTypes.size)[j]? = some r → Value.okWide P W' .any 0 t r) :
    s.post enc P f apart fresh handsOn again W args v W' := by
  have hlt := fun p (hp : p ∈ before) => hW.lt p hp
  have hold : ∀ p ∈ before, (fun b => decide (b < W.heap.size)) p.block = true := fun p hp => by simpa using hlt p hp
  refine ⟨ds, gs, before, [], pa, pv, hW, hres _ _ _, hargs _ hold, hvars _ hold, World.keptBut_mono (fun p hp => ⟨hp, ?_⟩) (hb.frame (· ∈ before)), fun _ => ?_⟩
  · rw [hps, List.mem_append] at hp; exact Or.inr hp
  · obtain ⟨_, _, _, _, _, hz, hn⟩ := hW
    refine ⟨hok, _, _, ([] ++ pa) ++ pv, ⟨[] ++ pa, pv, trodAll_append (hargs _ (fun _ _ => rfl)) (hres _ _ _), hvars _ (fun _ _ => rfl), rfl, fun b off hp => ?_, fun ha => ?_⟩, fun p hp _ => ?_⟩
    · have hp' : MemPlace.cell b off ∈ before := by rw [hps]; simpa using hp
      have h1 := hlt _ hp'
      rw [hb.frozen (p := ⟨b, off, none⟩) h1]
      exact hz b off hp'
    · have := hn ha
      rw [hps] at this
      simpa using this
    · rw [hps]; simpa using hp
/-- A contract with nothing ahead: true, and what was stays as it was. -/
def yes : Ctr := { ss := [], args := [], pre := [], reqs := [], ps := [], res := .one (.bool (.bool true)), post := [], facts := [] }
theorem sat_none (w : World) : Sat w (star emp emp) w := by
  rw [emp_star]
  exact ⟨Hl.none, rfl, ⟨fun _ _ _ _ h => (by cases h), fun _ _ _ h => (by cases h), Below.refl _ _⟩⟩
theorem yes_law {G : Type} (S : Sig G) {P : Program} {f : FuncId} (h : CtrOk S P f yes) (w : World) :
    Calls P f #[] w fun e w' => e = .returned (.bool true) ∧ Below w.heap.size w w' := by
  refine (h (fun _ => true) w emp (fun _ => .int 0) w [] trivial (fun e he => nomatch he) (sat_none w)).mono ?_
  rintro e w' ⟨ρ', v, _, rfl, hv, hs, _⟩
  have := R_one S ρ' hv
  subst this
  obtain ⟨x, _, hi⟩ := hs
  exact ⟨rfl, hi.below⟩
end
end Go.Eng

/- Short names, and what is said of each run: in common. -/
set_option linter.unusedSimpArgs false
set_option linter.unusedVariables false
namespace Go.Proofs.Ytlcfjjjdhdfbdaa
noncomputable section
open Go.Eng
def ai (n : Nat) : SX := .at .int n
def di (n : Nat) : SX := .at .int (1000000 + n)
def rA (n : Nat) : SX := .at .rows n
def iA (n : Nat) : SX := .at .ints n
def gA (n : Nat) : SX := .at .g n
def bA (n : Nat) : SX := .at .bytes n
def mA (n : Nat) : SX := .at .amap n
def qA (n : Nat) : SX := .at .bool n
def z0 : SX := .int 0
def nilI : SX := .f1 152 (.int 0)
def nilB : SX := .f1 153 (.int 0)
def nilR : SX := .f1 154 (.int 0)
def tk (x n : SX) : SX := .f2 115 x n
def tkI (x n : SX) : SX := .f2 113 x n
def tkB (x n : SX) : SX := .f2 114 x n
def lenR (x : SX) : SX := .f1 32 x
def lenI (x : SX) : SX := .f1 30 x
def lenB (x : SX) : SX := .f1 31 x
def eqS (a b : SX) : SX := .f2 155 a b
def usI (k : Nat) (a b c : SX) : SX := .us .int k a b c (.int 0)
def usB (k : Nat) (a b c : SX) : SX := .us .bool k a b c (.int 0)
def usR (k : Nat) (a b c : SX) : SX := .us .rows k a b c (.int 0)
def usN (k : Nat) (a b c : SX) : SX := .us .ints k a b c (.int 0)
def usG (k : Nat) (a b c : SX) : SX := .us .g k a b c (.int 0)
def usY (k : Nat) (a b c : SX) : SX := .us .bytes k a b c (.int 0)
def add1 (a : SX) : SX := SX.mk2 40 a (.int 1)
def cons1 (a b : SX) : SX := .f2 124 a b
def one1 (n : SX) : SX := .f2 122 n nilI
def ints2 (a b : SX) : SX := .f2 122 a (.f2 122 b nilI)
def ints3 (a b c : SX) : SX := .f2 122 a (ints2 b c)
def ints4 (a b c d : SX) : SX := .f2 122 a (ints3 b c d)
def ints5 (a b c d e : SX) : SX := .f2 122 a (ints4 b c d e)
def ints6 (a b c d e f : SX) : SX := .f2 122 a (ints5 b c d e f)
def row3 (b l c : SX) : SX := ints3 b l c
def nt (x i : SX) (k : Nat) : SX := .f3 112 x i (.int (k : Nat))
def slC (b n c : SX) (s : Nat) : SC := .slice b z0 z0 z0 n c s
def sl1 (b n c : SX) : SC := slC b n c 1
def slR (b : Nat) : SC := .slice (ai b) (ai (b + 1)) z0 z0 (ai (b + 2)) (ai (b + 3)) 1
def slT : En := .rows [.slice 1]
def iE : En := .ints .i64
def iAr (b x c : SX) : Ch := .arr iE b x c
def bAr (b x c : SX) : Ch := .arr .bytes b x c
def slA (b y c : SX) : Ch := .arr slT b y c
def rdI (j : Nat) (b : Nat) : Ch := .rd j iE (ai b) (ai (b + 1)) (iA (b + 4)) (ai (b + 5))
def rdBy (j b : Nat) : Ch := .rd j .bytes (ai b) (ai (b + 1)) (bA (b + 4)) (ai (b + 5))
def g0 (r : List Int) : Int := r.getD 0 0
def g1 (r : List Int) : Int := r.getD 1 0
def g2 (r : List Int) : Int := r.getD 2 0
def slV (b n c : Int) : Value := .slice (if b < 0 then none else some ⟨b.toNat, 0, none⟩) n.toNat c.toNat
/-- A proposition as a truth value. -/
def propB (p : Prop) : Bool := @decide p (Classical.propDecidable p)
theorem propB_iff {p : Prop} : (propB p = true) = p := propext ⟨fun h => @of_decide_eq_true p (Classical.propDecidable p) h, fun h => @decide_eq_true p (Classical.propDecidable p) h⟩
/-- A signature without words, for memory's sake. -/
def sig0 : Sig Unit := { dg := (), ch := fun _ => true, usr := fun _ _ _ _ _ => .int 0, prd := fun _ _ _ _ => emp }
/-- Arrays in memory, by what they hold. -/
def bAD (b : Int) (x : List UInt8) (c : Int) : HProp := arrDen sig0 .bytes (.int b) (.bytes x) (.int c)
def iAD (b : Int) (x : List Int) (c : Int) : HProp := arrDen sig0 iE (.int b) (.ints x) (.int c)
def rAD (e : En) (b : Int) (x : List (List Int)) (c : Int) : HProp := arrDen sig0 e (.int b) (.rows x) (.int c)
section
variable {G : Type}
theorem bAD_eq (S : Sig G) (b : Int) (x : List UInt8) (c : Int) : arrDen S .bytes (.int b) (.bytes x) (.int c) = bAD b x c := rfl
theorem iAD_eq (S : Sig G) (b : Int) (x : List Int) (c : Int) : arrDen S iE (.int b) (.ints x) (.int c) = iAD b x c := rfl
theorem rAD_eq (S : Sig G) (fs : List Go.Eng.Fd) (b : Int) (x : List (List Int)) (c : Int) : arrDen S (.rows fs) (.int b) (.rows x) (.int c) = rAD (.rows fs) b x c := rfl
theorem wc_prd (S : Sig G) (ch : Nat → Bool) : (S.wc ch).prd = S.prd := rfl
theorem wc_usr (S : Sig G) (ch : Nat → Bool) : (S.wc ch).usr = S.usr := rfl
theorem slC_den (S : Sig G) (ρ : Go.Eng.Env G) (b n c : SX) (s : Nat) : (slC b n c s).den S ρ = slV (b.den S ρ).toInt (n.den S ρ).toInt (c.den S ρ).toInt := by
  simp [slC, SC.den, slV, z0, SX.den]
theorem co_int (S : Sig G) (u : U G) : U.co S .int u = .int u.toInt := rfl
theorem co_bool (S : Sig G) (u : U G) : U.co S .bool u = .bool u.toBool := rfl
theorem co_ints (S : Sig G) (u : U G) : U.co S .ints u = .ints u.toInts := rfl
theorem co_rows (S : Sig G) (u : U G) : U.co S .rows u = .rows u.toRows := rfl
theorem co_bytes (S : Sig G) (u : U G) : U.co S .bytes u = .bytes u.toBytes := rfl
theorem co_map (S : Sig G) (u : U G) : U.co S .amap u = .amap u.toMap := rfl
theorem co_g (S : Sig G) (x : G) : U.co S .g (.g x) = .g x := rfl
theorem i64lo : IntKind.min .i64 = -9223372036854775808 := rfl
theorem i64hi : IntKind.max .i64 = 9223372036854775807 := rfl
theorem toNat1 : Int.toNat 1 = 1 := rfl
theorem w_u8 (n : Int) : IntKind.u8.wrap n = n % 256 := by simp [IntKind.wrap, IntKind.bits, IntKind.signed]
theorem w_u64 (n : Int) : IntKind.u64.wrap n = n % 18446744073709551616 := by simp [IntKind.wrap, IntKind.bits, IntKind.signed]
theorem w_u32 (n : Int) : IntKind.u32.wrap n = n % 4294967296 := by simp [IntKind.wrap, IntKind.bits, IntKind.signed]
def lt01 (a b : Int) : Int := if a < b then 1 else 0
theorem ap1_3lt (a b : U G) : ap1 3 (ap2 46 a b) = .int (lt01 a.toInt b.toInt) := by
  rw [ap1_3, t46]; unfold lt01 ltB
  by_cases h : a.toInt < b.toInt <;> simp [h]
theorem p48_153 (c : Bool) (a b : U G) : (ap2 48 (.bool c) (ap2 153 a b)).toProp = (c = true ↔ a.toInts = b.toInts) := by
  rw [ap2_48, ap2_153]
  simp only [U.toProp_bool, U.toBool_bool, beq_iff_eq]
  by_cases h : a.toInts = b.toInts <;> cases c <;> simp [h]
theorem p48_155 (c : Bool) (a b : U G) : (ap2 48 (.bool c) (ap2 155 a b)).toProp = (c = true ↔ a = b) := by
  apply propext
  simp only [ap2, U.toProp, U.toBool, beq_iff_eq]
  cases c <;> simp
theorem p48_b (c d : Bool) : ((ap2 48 (.bool c) (.bool d)) : U G).toProp = (c = d) := by
  apply propext
  simp only [ap2, U.toProp, U.toBool, beq_iff_eq]
end
theorem nth_take {α : Type} {R : List α} {d : α} {n j : Nat} (h : j < n) : (R.take n).getD j d = R.getD j d := by
  rw [List.getD_eq_getElem?_getD, List.getD_eq_getElem?_getD, List.getElem?_take_of_lt h]
theorem gh_mk {G : Type} (S : Sig G) {sp : Ctr} (H : ∀ (T : Sig G) (w0 : World) (ρ : Go.Eng.Env G) (h : Hl), T.usr = S.usr → T.prd = S.prd → T.dg = S.dg → (∀ e ∈ sp.reqs, (e.den T ρ).toProp) → hpDen T ρ w0 sp.pre h →
    ∃ ρ', Ext sp.ss.length ρ ρ' ∧ hpDen T ρ' w0 sp.post h ∧ ∀ x ∈ sp.facts, (x.den T ρ').toProp) : GhOk S sp := by
  intro ch w0 F ρ w hr hs
  obtain ⟨x, ⟨a, b, d, rfl, ha, hb⟩, hi⟩ := hs
  have e : ∀ (e : SX) ρ, e.den (S.wc ch) ρ = e.den S ρ := fun e ρ => SX.den_wc S ρ ch e
  obtain ⟨ρ', h1, h2, h3⟩ := H (S.wc ch) w0 ρ a rfl rfl rfl (fun q hq => by rw [e]; exact hr q hq) ha
  exact ⟨ρ', h1, ⟨_, ⟨a, b, d, rfl, h2, hb⟩, hi⟩, fun q hq => by rw [← e]; exact h3 q hq⟩
theorem gh_mk2 {G : Type} (S : Sig G) {sp : Ctr} (H : ∀ (T : Sig G) (w0 : World) (ρ : Go.Eng.Env G) (h : Hl), T.usr = S.usr → T.prd = S.prd → T.dg = S.dg → (∀ e ∈ sp.reqs, (e.den T ρ).toProp) → hpDen T ρ w0 sp.pre h →
    ∃ ρ' J, Ext sp.ss.length ρ ρ' ∧ star J (hpDen T ρ' w0 sp.post) h ∧ ∀ x ∈ sp.facts, (x.den T ρ').toProp) : GhOk S sp := by
  intro ch w0 F ρ w hr hs
  obtain ⟨x, ⟨a, b, d, rfl, ha, hb⟩, hi⟩ := hs
  have e : ∀ (e : SX) ρ, e.den (S.wc ch) ρ = e.den S ρ := fun e ρ => SX.den_wc S ρ ch e
  obtain ⟨ρ', J, h1, h2, h3⟩ := H (S.wc ch) w0 ρ a rfl rfl rfl (fun q hq => by rw [e]; exact hr q hq) ha
  have hs2 : Sat w0 (star (star J (hpDen (S.wc ch) ρ' w0 sp.post)) F) w := ⟨_, ⟨a, b, d, rfl, h2, hb⟩, hi⟩
  rw [star_assoc] at hs2
  exact ⟨ρ', h1, hs2.drop, fun q hq => by rw [← e]; exact h3 q hq⟩
theorem arrDen_cap {G : Type} {S : Sig G} {e : En} {b x c : U G} {h : Hl} (hd : arrDen S e b x c h) : (e.vals x).length ≤ c.toInt.toNat * e.stride ∧ 0 ≤ c.toInt := by
  obtain ⟨sp, h1, h2, _⟩ := hd; exact ⟨by omega, h2⟩
theorem row1_len {G : Type} (f : Go.Eng.Fd) (x : List (List Int)) : ((En.rows [f]).vals (.rows x : U G)).length = x.length := by
  simp only [En.vals, U.toRows_rows]
  induction x with
  | nil => rfl
  | cons r x ih => rw [List.flatMap_cons, List.length_append, ih, rowVals_length]; simp; omega
theorem rows_len {G : Type} (fs : List Go.Eng.Fd) (x : List (List Int)) : ((En.rows fs).vals (.rows x : U G)).length = x.length * fs.length := by
  simp only [En.vals, U.toRows_rows]
  induction x with
  | nil => simp
  | cons r x ih => rw [List.flatMap_cons, List.length_append, ih, rowVals_length, List.length_cons, Nat.add_mul]; omega
theorem rAD_le {fs : List Go.Eng.Fd} (hf : 0 < fs.length) {b c : Int} {x : List (List Int)} {h : Hl} (hd : rAD (.rows fs) b x c h) : (x.length : Int) ≤ c := by
  obtain ⟨h1, h2⟩ := arrDen_cap hd
  rw [rows_len] at h1
  have : x.length ≤ c.toNat := Nat.le_of_mul_le_mul_right h1 hf
  have h2 : 0 ≤ c := h2
  omega
theorem bAD_le {b c : Int} {x : List UInt8} {h : Hl} (hd : bAD b x c h) : (x.length : Int) ≤ c := by
  obtain ⟨h1, h2⟩ := arrDen_cap hd
  have e1 : (En.bytes.vals (.bytes x : U Unit)).length = x.length := by simp [En.vals]
  have e2 : En.bytes.stride = 1 := rfl
  rw [e1, e2] at h1
  have h2 : 0 ≤ c := h2
  have h1 : x.length ≤ c.toNat * 1 := h1
  omega
theorem iAD_le {b c : Int} {x : List Int} {h : Hl} (hd : iAD b x c h) : (x.length : Int) ≤ c := by
  obtain ⟨h1, h2⟩ := arrDen_cap hd
  have e1 : (iE.vals (.ints x : U Unit)).length = x.length := by simp [iE, En.vals]
  have e2 : iE.stride = 1 := rfl
  rw [e1, e2] at h1
  have h2 : 0 ≤ c := h2
  have h1 : x.length ≤ c.toNat * 1 := h1
  omega
theorem bAD_take {b c : Int} {x : List UInt8} {h : Hl} (n : Nat) (hd : bAD b x c h) : bAD b (x.take n) c h := by
  obtain ⟨sp, h1, h2, h3, h4⟩ := hd
  have e : ∀ y : List UInt8, En.bytes.vals (.bytes y : U Unit) = y.map fun b => Value.int .u8 (b.toNat : Nat) := fun _ => rfl
  refine ⟨(x.drop n).map (fun b => Value.int .u8 (b.toNat : Nat)) ++ sp, ?_, h2, h3, ?_⟩
  · rw [e] at h1 ⊢
    rw [List.length_map] at h1 ⊢
    rw [List.length_append, List.length_map, List.length_take, List.length_drop]; omega
  · rw [e] at h4 ⊢
    rw [← List.append_assoc, ← List.map_append, List.take_append_drop]
    exact h4
theorem rAD_take {fs : List Go.Eng.Fd} {b c : Int} {x : List (List Int)} {h : Hl} (n : Nat) (hd : rAD (.rows fs) b x c h) : rAD (.rows fs) b (x.take n) c h := by
  obtain ⟨sp, h1, h2, h3, h4⟩ := hd
  have e : ∀ y : List (List Int), (En.rows fs).vals (.rows y : U Unit) = y.flatMap (rowVals fs) := fun _ => rfl
  have e2 : x.flatMap (rowVals fs) = (x.take n).flatMap (rowVals fs) ++ (x.drop n).flatMap (rowVals fs) := by rw [← List.flatMap_append, List.take_append_drop]
  refine ⟨(x.drop n).flatMap (rowVals fs) ++ sp, ?_, h2, h3, ?_⟩
  · rw [e] at h1 ⊢
    rw [e2, List.length_append] at h1
    rw [List.length_append]; omega
  · rw [e] at h4 ⊢
    rw [← List.append_assoc, ← e2]
    exact h4
/-- No room, no memory. -/
theorem rAD_emp (fs : List Go.Eng.Fd) : rAD (.rows fs) (-1) [] 0 = emp := by
  funext h
  have e0 : (En.rows fs).vals (.rows [] : U Unit) = [] := rfl
  refine propext ⟨fun hx => ?_, fun hx => ⟨[], by rw [e0]; simp, Int.le_refl 0, .inr rfl, by rw [e0]; show row _ 0 [] true h; rw [row_nil]; exact hx⟩⟩
  obtain ⟨sp, l1, _, _, l4⟩ := hx
  have : sp = [] := List.eq_nil_of_length_eq_zero (by rw [e0] at l1; simpa using l1)
  subst this
  rw [e0] at l4
  have l4 : row _ 0 [] true h := l4
  rw [row_nil] at l4
  exact l4
theorem bAD_emp : bAD (-1) [] 0 = emp := by
  funext h
  refine propext ⟨fun hx => ?_, fun hx => ⟨[], rfl, Int.le_refl 0, .inr rfl, by show row _ 0 [] true h; rw [row_nil]; exact hx⟩⟩
  obtain ⟨sp, l1, _, _, l4⟩ := hx
  have : sp = [] := List.eq_nil_of_length_eq_zero (by have : (En.bytes.vals (.bytes [] : U Unit)).length = 0 := rfl; rw [this] at l1; simpa using l1)
  subst this
  have l4 : row _ 0 [] true h := l4
  rw [row_nil] at l4
  exact l4
theorem iAD_emp : iAD (-1) [] 0 = emp := by
  funext h
  refine propext ⟨fun hx => ?_, fun hx => ⟨[], rfl, Int.le_refl 0, .inr rfl, by show row _ 0 [] true h; rw [row_nil]; exact hx⟩⟩
  obtain ⟨sp, l1, _, _, l4⟩ := hx
  have : sp = [] := List.eq_nil_of_length_eq_zero (by have : (iE.vals (.ints [] : U Unit)).length = 0 := rfl; rw [this] at l1; simpa using l1)
  subst this
  have l4 : row _ 0 [] true h := l4
  rw [row_nil] at l4
  exact l4
theorem star_right {A B B' : HProp} {h : Hl} (hs : star A B h) (f : ∀ h, B h → B' h) : star A B' h := star_mono (fun _ x => x) f h hs
theorem star_take {A B : HProp} {h : Hl} (hs : star A B h) : ∃ a b, A a ∧ B b := let ⟨a, b, _, _, x, y⟩ := hs; ⟨a, b, x, y⟩
theorem split_at {α : Type} {k : List α} {d : α} {i : Nat} (hi : i < k.length) : k = k.take i ++ ([k.getD i d] ++ k.drop (i + 1)) := by
  rw [List.singleton_append, List.getD_eq_getElem?_getD, List.getElem?_eq_getElem hi, Option.getD_some, ← List.drop_eq_getElem_cons hi, List.take_append_drop]
theorem gh_said {G : Type} (S : Sig G) {sp : Ctr} (h1 : sp.pre = []) (h2 : sp.post = []) (h3 : sp.facts = sp.reqs) : GhOk S sp := by
  intro ch w0 F ρ w hr hs
  refine ⟨ρ, Ext.refl _ _, by rw [h2]; rw [h1] at hs; exact hs, by rw [h3]; exact hr⟩

/-- Empty arrays that are not held yet. -/
def emIC : Ctr := ⟨[], [], [], [], [], .tup [], [iAr (.int (-1)) nilI z0], []⟩
def emBC : Ctr := ⟨[], [], [], [], [], .tup [], [bAr (.int (-1)) nilB z0], []⟩
def emSC : Ctr := ⟨[], [], [], [], [], .tup [], [slA (.int (-1)) nilR z0], []⟩
theorem emI_gh {G : Type} (S : Sig G) : GhOk S emIC := by
  refine gh_mk S fun T w0 ρ h hu hp hd hr hpre => ⟨ρ, Ext.refl _ _, ?_, by intro x hx; exact nomatch hx⟩
  have e1 : hpDen T ρ w0 emIC.pre = emp := rfl
  have e2 : hpDen T ρ w0 emIC.post = star (iAD (-1) [] 0) emp := rfl
  rw [e1] at hpre
  rw [e2, star_emp, iAD_emp]; exact hpre
theorem emB_gh {G : Type} (S : Sig G) : GhOk S emBC := by
  refine gh_mk S fun T w0 ρ h hu hp hd hr hpre => ⟨ρ, Ext.refl _ _, ?_, by intro x hx; exact nomatch hx⟩
  have e1 : hpDen T ρ w0 emBC.pre = emp := rfl
  have e2 : hpDen T ρ w0 emBC.post = star (bAD (-1) [] 0) emp := rfl
  rw [e1] at hpre
  rw [e2, star_emp, bAD_emp]; exact hpre
theorem emS_gh {G : Type} (S : Sig G) : GhOk S emSC := by
  refine gh_mk S fun T w0 ρ h hu hp hd hr hpre => ⟨ρ, Ext.refl _ _, ?_, by intro x hx; exact nomatch hx⟩
  have e1 : hpDen T ρ w0 emSC.pre = emp := rfl
  have e2 : hpDen T ρ w0 emSC.post = star (rAD slT (-1) [] 0) emp := rfl
  rw [e1] at hpre
  rw [e2, star_emp, slT, rAD_emp]; exact hpre
/-! ### What the run is told, piece by piece -/
section
variable {G : Type} (S : Sig G) (P : Program)
def SpecsOk : List (Nat × List Ctr) → Prop
  | [] => True
  | p :: l => (∀ sp ∈ p.2, sp.wf = true ∧ CtrOk S P p.1 sp) ∧ SpecsOk l
def ExtsOk : List (Nat × List Ctr) → Prop
  | [] => True
  | p :: l => (∀ sp ∈ p.2, sp.wf = true ∧ ExtOk S P p.1 sp) ∧ ExtsOk l
def AnnOk : Ann → Prop
  | .ghost sp _ => sp.wf = true ∧ GhOk S sp
  | .inv _ => True
  | .split _ => True
  | .iff _ => True
  | .cut _ _ _ _ => True
def AnsOk : List (Nat × Ann) → Prop
  | [] => True
  | p :: l => AnnOk S p.2 ∧ AnsOk l
def AnnsOk : List (Nat × List (Nat × Ann)) → Prop
  | [] => True
  | p :: l => AnsOk S p.2 ∧ AnnsOk l
variable {S} {P}
theorem SpecsOk.get {f : Nat} {sps : List Ctr} : ∀ {l : List (Nat × List Ctr)}, SpecsOk S P l → assoc l f = some sps → ∀ sp ∈ sps, sp.wf = true ∧ CtrOk S P f sp
  | [], _, h => by cases h
  | (i, a) :: l, h1, h => by
    unfold assoc at h
    cases hb : Nat.beq i f
    · rw [hb] at h; exact h1.2.get h
    · rw [hb] at h; cases h; rw [← Nat.eq_of_beq_eq_true hb]; exact h1.1
theorem ExtsOk.get {f : Nat} {sps : List Ctr} : ∀ {l : List (Nat × List Ctr)}, ExtsOk S P l → assoc l f = some sps → ∀ sp ∈ sps, sp.wf = true ∧ ExtOk S P f sp
  | [], _, h => by cases h
  | (i, a) :: l, h1, h => by
    unfold assoc at h
    cases hb : Nat.beq i f
    · rw [hb] at h; exact h1.2.get h
    · rw [hb] at h; cases h; rw [← Nat.eq_of_beq_eq_true hb]; exact h1.1
theorem AnsOk.get {i : Nat} {sp : Ctr} {args : List Operand} : ∀ {l : List (Nat × Ann)}, AnsOk S l → (i, Ann.ghost sp args) ∈ l → sp.wf = true ∧ GhOk S sp
  | [], _, h => by cases h
  | p :: l, h1, h => by
    rcases List.mem_cons.1 h with rfl | h
    · exact h1.1
    · exact h1.2.get h
theorem AnnsOk.get {f : Nat} {al : List (Nat × Ann)} : ∀ {l : List (Nat × List (Nat × Ann))}, AnnsOk S l → assoc l f = some al → AnsOk S al
  | [], _, h => by cases h
  | (i, a) :: l, h1, h => by
    unfold assoc at h
    cases hb : Nat.beq i f
    · rw [hb] at h; exact h1.2.get h
    · rw [hb] at h; cases h; exact h1.1
theorem cx_of {C : Cx} (h1 : SpecsOk S P C.specs) (h2 : AnnsOk S C.anns) (h3 : ExtsOk S P C.exts) : CxOk S P C :=
  ⟨fun f sps h => h1.get h, fun f l h i sp args hm => (h2.get h).get hm, fun f sps h => h3.get h⟩
theorem one_spec {f : Nat} {sp : Ctr} (hw : sp.wf = true) (h : CtrOk S P f sp) : ∀ q ∈ [sp], q.wf = true ∧ CtrOk S P f q := by
  intro q hq; rw [List.mem_singleton] at hq; subst hq; exact ⟨hw, h⟩
theorem one_ext {f : Nat} {sp : Ctr} (hw : sp.wf = true) (h : ExtOk S P f sp) : ∀ q ∈ [sp], q.wf = true ∧ ExtOk S P f q := by
  intro q hq; rw [List.mem_singleton] at hq; subst hq; exact ⟨hw, h⟩
end
end
end Go.Proofs.Ytlcfjjjdhdfbdaa

/- A device of pages, in plain words: how it stands, and what each call makes of it. -/
set_option linter.unusedSimpArgs false
set_option linter.unusedVariables false
namespace Go.Proofs.Ytlcfjjjdhdfbdaa
open Go.Eng
structure Dv where
  page : Int
  safe : List UInt8
  w : List (Int × List UInt8)
  down : Bool
  acts : Int
  keep : List Int
  torn : Int
  at' : Int
  rd : Int
  wr : Int
  sy : Int
def dv0 : Dv := ⟨0, [], [], false, 0, [], 0, 0, 0, 0, 0⟩
def sizeB (p : Int) : Bool := p == 512 || p == 1024 || p == 2048 || p == 4096 || p == 8192 || p == 16384 || p == 32768 || p == 65536
def Dv.pages (d : Dv) : Int := (d.safe.length : Int).tdiv d.page
/-- The last loose write to a page: its place. -/
def lastG (n : Int) : Int → List (Int × List UInt8) → Int → Int
  | _, [], a => a
  | i, p :: l, a => lastG n (i + 1) l (if p.1 = n then i else a)
def Dv.last (d : Dv) (n : Int) : Int := lastG n 0 d.w (-1)
def Dv.dat (d : Dv) (i : Int) : List UInt8 := (d.w.getD i.toNat (0, [])).2
def Dv.pg (d : Dv) (i : Int) : Int := (d.w.getD i.toNat (0, [])).1
def Dv.place (d : Dv) (n : Int) : List UInt8 := (d.safe.drop (n * d.page).toNat).take d.page.toNat
def Dv.read (d : Dv) (n : Int) : List UInt8 := if 0 ≤ d.last n then d.dat (d.last n) else d.place n
def Dv.ref (d : Dv) (n : Int) : Int := bif d.down then 3 else (if n < 0 ∨ d.pages ≤ n then 30 else 0)
/-- Bytes over others, from a place on. -/
def laid (s : List UInt8) (p : Nat) (x : List UInt8) : List UInt8 := s.take p ++ (x ++ s.drop (p + x.length))
/-- One loose write as the power fails: so much of it stays. -/
def cutN (d : Dv) (i : Int) : Int := if i = d.torn then imin (imax d.at' 0) d.page else if d.keep.contains i = true then d.page else 0
def fallS (d : Dv) : Int → List (Int × List UInt8) → List UInt8 → List UInt8
  | _, [], s => s
  | i, p :: l, s => fallS d (i + 1) l (laid s (p.1 * d.page).toNat (p.2.take (cutN d i).toNat))
def Dv.fall (d : Dv) : Dv := { d with safe := fallS d 0 d.w d.safe, w := [], down := true, acts := -1 }
def actN (a : Int) : Int := imax (a + -1) (-1)
def Dv.writ (d : Dv) (n : Int) (x : List UInt8) : Dv :=
  let e := { d with wr := d.wr + 1, w := d.w ++ [(n, x)] }
  if d.acts = 0 then e.fall else { e with acts := actN d.acts }
def Dv.wrE (d : Dv) (n : Int) (x : List UInt8) : Int := if d.ref n ≠ 0 then d.ref n else if (x.length : Int) ≠ d.page then 31 else if d.acts = 0 then 3 else 0
def Dv.wrD (d : Dv) (n : Int) (x : List UInt8) : Dv := if d.ref n ≠ 0 then d else if (x.length : Int) ≠ d.page then d else d.writ n x
def Dv.rdD (d : Dv) (n : Int) : Dv := if d.ref n ≠ 0 then d else { d with rd := d.rd + 1 }
def Dv.rdB (d : Dv) (n : Int) : List UInt8 := if d.ref n ≠ 0 then [] else d.read n
/-- All loose writes over what is safe, in their order. -/
def layS (pg : Int) : List (Int × List UInt8) → List UInt8 → List UInt8
  | [], s => s
  | p :: l, s => layS pg l (laid s (p.1 * pg).toNat p.2)
def Dv.image (d : Dv) : List UInt8 := layS d.page d.w d.safe
def Dv.sync (d : Dv) : Dv :=
  if d.down then d else
    let e := { d with sy := d.sy + 1 }
    if d.acts = 0 then e.fall else { e with acts := actN d.acts, safe := d.image, w := [] }
def Dv.syE (d : Dv) : Int := if d.down then 3 else if d.acts = 0 then 3 else 0
structure GoodD (d : Dv) : Prop where
  size : sizeB d.page = true
  pgs : ∃ k : Nat, 4 ≤ k ∧ k ≤ 65536 ∧ d.safe.length = k * d.page.toNat ∧ d.safe.length ≤ 67108864
  w : ∀ p ∈ d.w, 0 ≤ p.1 ∧ p.1 < d.pages ∧ (p.2.length : Int) = d.page
  acts : -1 ≤ d.acts ∧ d.acts ≤ 9223372036854775807
  cnt : 0 ≤ d.rd ∧ 0 ≤ d.wr ∧ 0 ≤ d.sy
theorem size_le {p : Int} (h : sizeB p = true) : 512 ≤ p ∧ p ≤ 65536 := by simp only [sizeB, Bool.or_eq_true, beq_iff_eq] at h; omega
theorem GoodD.pages {d : Dv} (h : GoodD d) : 4 ≤ d.pages ∧ d.pages ≤ 65536 ∧ (d.safe.length : Int) = d.pages * d.page ∧ d.safe.length ≤ 67108864 := by
  obtain ⟨k, k1, k2, k3, k4⟩ := h.pgs
  have hp := size_le h.size
  have e : (d.safe.length : Int) = (k : Int) * d.page := by rw [k3, Int.natCast_mul, Int.toNat_of_nonneg (by omega)]
  have e2 : d.pages = k := by
    unfold Dv.pages
    rw [e, Int.mul_tdiv_cancel _ (by omega)]
  rw [e2]
  exact ⟨by omega, by omega, e, k4⟩
theorem laid_len {s x : List UInt8} {p : Nat} (h : p + x.length ≤ s.length) : (laid s p x).length = s.length := by
  unfold laid
  rw [List.length_append, List.length_append, List.length_take, List.length_drop]; omega
theorem in_page {n k p : Int} (h0 : 0 ≤ n) (h1 : n < k) (hp : 0 ≤ p) : 0 ≤ n * p ∧ n * p + p ≤ k * p := by
  refine ⟨Int.mul_nonneg h0 hp, ?_⟩
  have : (n + 1) * p ≤ k * p := Int.mul_le_mul_of_nonneg_right (by omega) hp
  rw [Int.add_mul, Int.one_mul] at this; exact this
theorem lastG_or (n : Int) : ∀ (l : List (Int × List UInt8)) (i a : Int), lastG n i l a = a ∨ (i ≤ lastG n i l a ∧ lastG n i l a < i + l.length)
  | [], _, _ => .inl rfl
  | p :: l, i, a => by
    have hl : ((p :: l).length : Int) = l.length + 1 := by simp
    show lastG n (i + 1) l (if p.1 = n then i else a) = a ∨ (i ≤ lastG n (i + 1) l (if p.1 = n then i else a) ∧ lastG n (i + 1) l (if p.1 = n then i else a) < i + ((p :: l).length : Nat))
    by_cases h : p.1 = n
    · rw [if_pos h]
      rcases lastG_or n l (i + 1) i with e | ⟨e1, e2⟩
      · right; rw [e]; omega
      · right; omega
    · rw [if_neg h]
      rcases lastG_or n l (i + 1) a with e | ⟨e1, e2⟩
      · exact .inl e
      · right; omega
theorem last_lt (d : Dv) (n : Int) : -1 ≤ d.last n ∧ d.last n < d.w.length := by
  rcases lastG_or n d.w 0 (-1) with e | ⟨e1, e2⟩
  · unfold Dv.last; rw [e]; omega
  · unfold Dv.last; omega
theorem lastG_app (n : Int) (m : List (Int × List UInt8)) : ∀ (l : List (Int × List UInt8)) (i a : Int), lastG n i (l ++ m) a = lastG n (i + l.length) m (lastG n i l a)
  | [], i, a => by simp [lastG]
  | p :: l, i, a => by
    show lastG n (i + 1) (l ++ m) _ = lastG n (i + ((p :: l).length : Nat)) m (lastG n (i + 1) l _)
    rw [lastG_app n m l, show i + 1 + (l.length : Int) = i + ((p :: l).length : Nat) by simp only [List.length_cons]; omega]
theorem last_snoc (d : Dv) (n m : Int) (x : List UInt8) : lastG m 0 (d.w ++ [(n, x)]) (-1) = if n = m then (d.w.length : Int) else d.last m := by
  rw [lastG_app]
  show (if n = m then (0 + (d.w.length : Int)) else _) = _
  rw [Int.zero_add]; rfl
/-- The map of last writes. -/
def lastOk (m : List (Int × Int)) (w : List (Int × List UInt8)) : Prop := ∀ n, mget (-1) m n = lastG n 0 w (-1)
theorem mget_not {m : List (Int × Int)} {n d : Int} (h : mhas m n = false) : mget d m n = d := by
  induction m with
  | nil => rfl
  | cons p m ih =>
    obtain ⟨a, b⟩ := p
    simp only [mhas] at h
    by_cases e : a = n
    · rw [if_pos e] at h; cases h
    · rw [if_neg e] at h; simp only [mget]; rw [if_neg e]; exact ih h
theorem mget_any {m : List (Int × Int)} {n d e : Int} (h : mhas m n = true) : mget d m n = mget e m n := by
  induction m with
  | nil => cases h
  | cons p m ih =>
    obtain ⟨a, b⟩ := p
    simp only [mhas] at h
    simp only [mget]
    by_cases e : a = n
    · rw [if_pos e, if_pos e]
    · rw [if_neg e] at h; rw [if_neg e, if_neg e]; exact ih h
/-- No value of a map of last writes lies below 0. -/
def posM (m : List (Int × Int)) : Prop := ∀ p ∈ m, 0 ≤ p.2
theorem posM_get {m : List (Int × Int)} (hm : posM m) {n d : Int} (h : mhas m n = true) : 0 ≤ mget d m n := by
  induction m with
  | nil => cases h
  | cons p m ih =>
    obtain ⟨a, b⟩ := p
    simp only [mhas] at h
    simp only [mget]
    by_cases e : a = n
    · rw [if_pos e]; exact hm (a, b) List.mem_cons_self
    · rw [if_neg e] at h ⊢; exact ih (fun q hq => hm q (List.mem_cons_of_mem _ hq)) h
theorem posM_set {m : List (Int × Int)} (hm : posM m) {n v : Int} (h : 0 ≤ v) : posM (mset m n v) := by
  induction m with
  | nil => intro p hp; simp [mset] at hp; subst hp; exact h
  | cons p m ih =>
    obtain ⟨a, b⟩ := p
    intro q hq
    simp only [mset] at hq
    by_cases e : a = n
    · rw [if_pos e] at hq
      rcases List.mem_cons.1 hq with rfl | hq
      · exact h
      · exact hm q (List.mem_cons_of_mem _ hq)
    · rw [if_neg e] at hq
      rcases List.mem_cons.1 hq with rfl | hq
      · exact hm _ List.mem_cons_self
      · exact ih (fun q hq => hm q (List.mem_cons_of_mem _ hq)) q hq
theorem last_has {d : Dv} {m : List (Int × Int)} (hl : lastOk m d.w) (hm : posM m) (n : Int) : (mhas m n = true ↔ 0 ≤ d.last n) ∧ (mhas m n = true → mget 0 m n = d.last n) := by
  have e := hl n
  have e : mget (-1) m n = d.last n := e
  cases h : mhas m n
  · rw [mget_not h] at e
    exact ⟨⟨(fun h => by cases h), fun h => absurd h (by omega)⟩, (fun h => by cases h)⟩
  · have hp := posM_get hm (d := -1) h
    exact ⟨⟨fun _ => by omega, fun _ => rfl⟩, fun _ => by rw [mget_any h (d := 0) (e := -1)]; exact e⟩
/-- Bytes of a page out of many. -/
def pgOf (p : Int) (X : List UInt8) (n : Int) : List UInt8 := (X.drop (n * p).toNat).take p.toNat
/-- The image while pages are laid: what is left to lay stands as it is safe. -/
def imgOk (d : Dv) (X : List UInt8) (left : List (Int × Int)) : Prop := X.length = d.safe.length ∧ ∀ n, 0 ≤ n → n < d.pages → pgOf d.page X n = if mhas left n = true then d.place n else d.read n
def subM (a m : List (Int × Int)) : Prop := (a.map (·.1)).Nodup ∧ ∀ n, mhas a n = true → mhas m n = true ∧ mget 0 a n = mget 0 m n
theorem mhas_mem {m : List (Int × Int)} {n : Int} : mhas m n = true ↔ n ∈ m.map (·.1) := by
  induction m with
  | nil => simp [mhas]
  | cons p m ih =>
    obtain ⟨a, b⟩ := p
    simp only [mhas, List.map_cons, List.mem_cons]
    by_cases e : a = n
    · rw [if_pos e]; simp [e]
    · rw [if_neg e, ih]; simp [Ne.symm e]
theorem mdel_keys {m : List (Int × Int)} {k : Int} : ∀ {q}, q ∈ mdel m k → q ∈ m := by
  induction m with
  | nil => intro q hq; exact hq
  | cons p m ih =>
    obtain ⟨a, b⟩ := p
    intro q hq
    simp only [mdel] at hq
    by_cases e : a = k
    · rw [if_pos e] at hq; exact List.mem_cons_of_mem _ hq
    · rw [if_neg e] at hq
      rcases List.mem_cons.1 hq with rfl | hq
      · exact List.mem_cons_self
      · exact List.mem_cons_of_mem _ (ih hq)
theorem mdel_nodup {m : List (Int × Int)} {k : Int} (h : (m.map (·.1)).Nodup) : ((mdel m k).map (·.1)).Nodup := by
  induction m with
  | nil => exact h
  | cons p m ih =>
    obtain ⟨a, b⟩ := p
    rw [List.map_cons, List.nodup_cons] at h
    simp only [mdel]
    by_cases e : a = k
    · rw [if_pos e]; exact h.2
    · rw [if_neg e, List.map_cons, List.nodup_cons]
      refine ⟨fun hm => h.1 ?_, ih h.2⟩
      obtain ⟨q, hq, he⟩ := List.mem_map.1 hm
      exact List.mem_map.2 ⟨q, mdel_keys hq, he⟩
theorem mdel_has {m : List (Int × Int)} {k n : Int} (h : (m.map (·.1)).Nodup) : mhas (mdel m k) n = true ↔ (mhas m n = true ∧ n ≠ k) := by
  induction m with
  | nil => simp [mdel, mhas]
  | cons p m ih =>
    obtain ⟨a, b⟩ := p
    rw [List.map_cons, List.nodup_cons] at h
    simp only [mdel]
    by_cases e : a = k
    · rw [if_pos e]
      subst e
      simp only [mhas]
      by_cases e2 : a = n
      · rw [if_pos e2]
        refine ⟨fun hm => absurd (mhas_mem.1 hm) (by rw [← e2]; exact h.1), fun hm => absurd e2.symm hm.2⟩
      · rw [if_neg e2]; exact ⟨fun hm => ⟨hm, fun h => e2 h.symm⟩, fun hm => hm.1⟩
    · rw [if_neg e]
      simp only [mhas]
      by_cases e2 : a = n
      · rw [if_pos e2, if_pos e2]; exact ⟨fun _ => ⟨rfl, by rw [← e2]; exact e⟩, fun _ => rfl⟩
      · rw [if_neg e2, if_neg e2]; exact ih h.2
theorem mdel_get {m : List (Int × Int)} {k n d : Int} (h : n ≠ k) : mget d (mdel m k) n = mget d m n := by
  induction m with
  | nil => rfl
  | cons p m ih =>
    obtain ⟨a, b⟩ := p
    simp only [mdel]
    by_cases e : a = k
    · rw [if_pos e]; simp only [mget]; rw [if_neg (by rw [e]; exact h.symm)]
    · rw [if_neg e]; simp only [mget]; by_cases e2 : a = n
      · rw [if_pos e2, if_pos e2]
      · rw [if_neg e2, if_neg e2]; exact ih
theorem mdel_len {m : List (Int × Int)} {k : Int} (h : mhas m k = true) : (mdel m k).length + 1 = m.length := by
  induction m with
  | nil => cases h
  | cons p m ih =>
    obtain ⟨a, b⟩ := p
    simp only [mhas] at h
    simp only [mdel]
    by_cases e : a = k
    · rw [if_pos e]; rfl
    · rw [if_neg e] at h ⊢; rw [List.length_cons, List.length_cons, ih h]
theorem pgOf_laid {X x : List UInt8} {p n k K : Int} (hp : 0 < p) (hX : (X.length : Int) = K * p) (hx : (x.length : Int) = p) (k0 : 0 ≤ k) (k1 : k < K) (n0 : 0 ≤ n) (n1 : n < K) :
    pgOf p (laid X (k * p).toNat x) n = if n = k then x else pgOf p X n := by
  have hk := in_page k0 k1 (Int.le_of_lt hp)
  have hn := in_page n0 n1 (Int.le_of_lt hp)
  unfold pgOf laid
  have hl : (X.take (k * p).toNat).length = (k * p).toNat := by rw [List.length_take]; omega
  by_cases e : n = k
  · subst e
    rw [if_pos rfl, List.drop_append_of_le_length (by omega), List.drop_of_length_le (by omega), List.nil_append, List.take_append_of_le_length (by omega), List.take_of_length_le (by omega)]
  · rw [if_neg e]
    by_cases hlt : n < k
    · have h1 := in_page n0 (show n < k from hlt) (Int.le_of_lt hp)
      rw [List.drop_append_of_le_length (by omega), List.take_append_of_le_length (by rw [List.length_drop, hl]; omega), List.drop_take, List.take_take, Nat.min_eq_left (by omega)]
    · have h1 := in_page k0 (show k < n by omega) (Int.le_of_lt hp)
      rw [List.drop_append, List.drop_of_length_le (by omega), List.nil_append, hl, List.drop_append, List.drop_of_length_le (by omega), List.nil_append, List.drop_drop]
      congr 2
      omega
theorem pages_ext {X Y : List UInt8} {p K : Int} (hp : 0 < p) (hX : (X.length : Int) = K * p) (hY : (Y.length : Int) = K * p) (h : ∀ n, 0 ≤ n → n < K → pgOf p X n = pgOf p Y n) : X = Y := by
  refine List.ext_getElem? fun i => ?_
  by_cases hi : i < X.length
  · have hq0 : 0 ≤ (i : Int) / p := Int.ediv_nonneg (by omega) (by omega)
    have hm := Int.emod_add_mul_ediv (i : Int) p
    have hm0 := Int.emod_nonneg (i : Int) (show p ≠ 0 by omega)
    have hm1 := Int.emod_lt_of_pos (i : Int) hp
    have hq1 : (i : Int) / p < K := Int.ediv_lt_of_lt_mul hp (by omega)
    have he := congrArg (fun l : List UInt8 => l[((i : Int) % p).toNat]?) (h _ hq0 hq1)
    have hc : p * ((i : Int) / p) = (i : Int) / p * p := Int.mul_comm _ _
    have hip := in_page hq0 hq1 (Int.le_of_lt hp)
    simp only [pgOf] at he
    rw [List.getElem?_take_of_lt (by omega), List.getElem?_take_of_lt (by omega), List.getElem?_drop, List.getElem?_drop, show ((i : Int) / p * p).toNat + ((i : Int) % p).toNat = i by omega] at he
    exact he
  · rw [List.getElem?_eq_none (by omega), List.getElem?_eq_none (by omega)]
theorem layS_len {p K : Int} (hp : 0 < p) : ∀ (l : List (Int × List UInt8)) (s : List UInt8), (s.length : Int) = K * p → (∀ q ∈ l, 0 ≤ q.1 ∧ q.1 < K ∧ (q.2.length : Int) = p) → ((layS p l s).length : Int) = K * p
  | [], _, h, _ => h
  | q :: l, s, h, hq => by
    have h1 := hq q List.mem_cons_self
    have hi := in_page h1.1 h1.2.1 (Int.le_of_lt hp)
    exact layS_len hp l _ (by rw [laid_len (by omega)]; exact h) fun r hr => hq r (List.mem_cons_of_mem _ hr)
/-- A page of the image is what is read. -/
theorem layS_pg {p K n : Int} (hp : 0 < p) (n0 : 0 ≤ n) (n1 : n < K) : ∀ (l : List (Int × List UInt8)) (s : List UInt8) (i a : Int) (W : List (Int × List UInt8)), (s.length : Int) = K * p → (∀ q ∈ l, 0 ≤ q.1 ∧ q.1 < K ∧ (q.2.length : Int) = p) → 0 ≤ i → W.drop i.toNat = l →
    (pgOf p s n = if 0 ≤ a then (W.getD a.toNat (0, [])).2 else pgOf p s n) → a < i →
    pgOf p (layS p l s) n = if 0 ≤ lastG n i l a then (W.getD (lastG n i l a).toNat (0, [])).2 else pgOf p s n
  | [], s, i, a, W, _, _, _, _, h, _ => h
  | q :: l, s, i, a, W, hs, hq, i0, hW, h, ha => by
    have h1 := hq q List.mem_cons_self
    have hi := in_page h1.1 h1.2.1 (Int.le_of_lt hp)
    have hq' : ∀ r ∈ l, 0 ≤ r.1 ∧ r.1 < K ∧ (r.2.length : Int) = p := fun r hr => hq r (List.mem_cons_of_mem _ hr)
    have hls : ((laid s (q.1 * p).toNat q.2).length : Int) = K * p := by rw [laid_len (by omega)]; exact hs
    have hpg := pgOf_laid hp hs h1.2.2 h1.1 h1.2.1 n0 n1
    have hWi : W.getD i.toNat (0, []) = q := by
      have := congrArg (fun l : List (Int × List UInt8) => l[0]?) hW
      simp only [List.getElem?_drop, Nat.add_zero, List.getElem?_cons_zero] at this
      rw [List.getD_eq_getElem?_getD, this]; rfl
    have hW' : W.drop (i + 1).toNat = l := by
      rw [show (i + 1).toNat = i.toNat + 1 by omega, ← List.drop_drop, hW]; rfl
    show pgOf p (layS p l (laid s (q.1 * p).toNat q.2)) n = if 0 ≤ lastG n (i + 1) l (if q.1 = n then i else a) then (W.getD (lastG n (i + 1) l (if q.1 = n then i else a)).toNat (0, [])).2 else pgOf p s n
    by_cases e : q.1 = n
    · rw [if_pos e]
      have hrec := layS_pg hp n0 n1 l (laid s (q.1 * p).toNat q.2) (i + 1) i W hls hq' (by omega) hW' (by rw [if_pos i0, hWi, hpg, if_pos e.symm]) (by omega)
      rw [hrec]
      rcases lastG_or n l (i + 1) i with e2 | ⟨e2, _⟩
      · rw [e2, if_pos i0, if_pos i0]
      · rw [if_pos (by omega), if_pos (by omega)]
    · rw [if_neg e]
      rw [if_neg (fun h => e h.symm)] at hpg
      have hrec := layS_pg hp n0 n1 l (laid s (q.1 * p).toNat q.2) (i + 1) a W hls hq' (by omega) hW' (by rw [hpg]; exact h) (by omega)
      rw [hrec, hpg]
theorem image_pg {d : Dv} (hg : GoodD d) {n : Int} (n0 : 0 ≤ n) (n1 : n < d.pages) : pgOf d.page d.image n = d.read n := by
  have h := hg.pages
  have h2 := size_le hg.size
  have := layS_pg (K := d.pages) (p := d.page) (by omega) n0 n1 d.w d.safe 0 (-1) d.w h.2.2.1 hg.w (Int.le_refl 0) rfl (by rw [if_neg (by decide)]) (by decide)
  unfold Dv.image
  rw [this]; rfl
theorem image_len {d : Dv} (hg : GoodD d) : d.image.length = d.safe.length := by
  have h := hg.pages
  have h2 := size_le hg.size
  have := layS_len (K := d.pages) (p := d.page) (by omega) d.w d.safe h.2.2.1 hg.w
  unfold Dv.image
  omega
theorem image_of {d : Dv} (hg : GoodD d) {X : List UInt8} (h : imgOk d X []) : X = d.image := by
  have hp := hg.pages
  have h2 := size_le hg.size
  refine pages_ext (p := d.page) (K := d.pages) (by omega) (by rw [h.1]; exact hp.2.2.1) (by rw [image_len hg]; exact hp.2.2.1) fun n n0 n1 => ?_
  rw [image_pg hg n0 n1, h.2 n n0 n1]
  rfl
theorem lastG_pg (n : Int) : ∀ (l : List (Int × List UInt8)) (i a : Int) (W : List (Int × List UInt8)), 0 ≤ i → W.drop i.toNat = l → (0 ≤ a → (W.getD a.toNat (0, [])).1 = n) → 0 ≤ lastG n i l a → (W.getD (lastG n i l a).toNat (0, [])).1 = n
  | [], i, a, W, _, _, h, h0 => h h0
  | q :: l, i, a, W, i0, hW, h, h0 => by
    have hWi : W.getD i.toNat (0, []) = q := by
      have := congrArg (fun l : List (Int × List UInt8) => l[0]?) hW
      simp only [List.getElem?_drop, Nat.add_zero, List.getElem?_cons_zero] at this
      rw [List.getD_eq_getElem?_getD, this]; rfl
    have hW' : W.drop (i + 1).toNat = l := by
      rw [show (i + 1).toNat = i.toNat + 1 by omega, ← List.drop_drop, hW]; rfl
    refine lastG_pg n l (i + 1) (if q.1 = n then i else a) W (by omega) hW' ?_ h0
    by_cases e : q.1 = n
    · rw [if_pos e]; intro _; rw [hWi]; exact e
    · rw [if_neg e]; exact h
theorem last_pg {d : Dv} {n : Int} (h : 0 ≤ d.last n) : d.pg (d.last n) = n := lastG_pg n d.w 0 (-1) d.w (Int.le_refl 0) rfl (fun h => absurd h (by decide)) h
end Go.Proofs.Ytlcfjjjdhdfbdaa

/- What the words speak of: a device, a cache. -/
set_option linter.unusedSimpArgs false
set_option linter.unusedVariables false
namespace Go.Proofs.Ytlcfjjjdhdfbdaa
open Go.Eng
structure Fr where
  n : Int
  b : List UInt8
  dirty : Bool
  pins : Int
structure Cs where
  fr : List Fr
  frames : Int
  hits : Int
  misses : Int
  evic : Int
def cs0 : Cs := ⟨[], 0, 0, 0, 0⟩
inductive GG where
  | dv (d : Dv)
  | cs (c : Cs)
def dvOf : U GG → Dv
  | .g (.dv d) => d
  | _ => dv0
def csOf : U GG → Cs
  | .g (.cs c) => c
  | _ => cs0
def gg0 : GG := .dv dv0
theorem dvOf_g (d : Dv) : dvOf (.g (.dv d)) = d := rfl
theorem csOf_g (c : Cs) : csOf (.g (.cs c)) = c := rfl
theorem dvOf_co {S : Sig GG} (hd : S.dg = gg0) (u : U GG) : dvOf (U.co S .g u) = dvOf u := by
  cases u <;> first | rfl | (show dvOf (.g S.dg) = _; rw [hd]; rfl)
theorem csOf_co {S : Sig GG} (hd : S.dg = gg0) (u : U GG) : csOf (U.co S .g u) = csOf u := by
  cases u <;> first | rfl | (show csOf (.g S.dg) = _; rw [hd]; rfl)
end Go.Proofs.Ytlcfjjjdhdfbdaa

/- A device in memory: opened and shut. -/
set_option linter.unusedSimpArgs false
set_option linter.unusedVariables false
namespace Go.Proofs.Ytlcfjjjdhdfbdaa
noncomputable section
open Go.Eng
def lsT : En := .rows [.int .i64, .slice 1]
def lsA (b y c : SX) : Ch := .arr lsT b y c
def g3 (r : List Int) : Int := r.getD 3 0
def mapH (b : Int) (m : List (Int × Int)) : HProp := fun h => 0 ≤ b ∧ ∃ es clock, mapOk .i64 (.int .i64) es clock m ∧ objAt b.toNat (.map es clock) h
def mapV (b : Int) : Value := .map (if b < 0 then none else some b.toNat)
def itemL (r : List Int) (p : Int × List UInt8) : HProp := fun h => ∃ x : List UInt8, (g0 r = p.1 ∧ 0 ≤ g2 r ∧ g2 r ≤ x.length ∧ x.take (g2 r).toNat = p.2) ∧ bAD (g1 r) x (g3 r) h
def lsH : List (List Int) → List (Int × List UInt8) → HProp
  | [], [] => emp
  | r :: rs, p :: ps => star (itemL r p) (lsH rs ps)
  | _, _ => fun _ => False
def celD (K : Int) (d : Dv) (sb sc lb ln lc mb fb fl fc : Int) : HProp := fun h => (0 ≤ K ∨ False) ∧ row K.toNat 0 [.int .i64 d.page, slV sb d.safe.length sc, slV lb ln lc, mapV mb, .bool d.down, .int .i64 d.acts, slV fb fl fc, .int .i64 d.torn, .int .i64 d.at', .int .i64 d.rd, .int .i64 d.wr, .int .i64 d.sy] true h
def plP (K : Int) (d : Dv) : HProp := fun h => GoodD d ∧ ∃ (sb sc lb ln lc mb fb fl fc : Int) (y : List (List Int)) (m : List (Int × Int)) (z : List Int), (0 ≤ ln ∧ ln ≤ y.length ∧ 0 ≤ fl ∧ fl ≤ z.length ∧ z.take fl.toNat = d.keep ∧ lastOk m d.w ∧ posM m) ∧
  star (celD K d sb sc lb ln lc mb fb fl fc) (star (bAD sb d.safe sc) (star (rAD lsT lb y lc) (star (mapH mb m) (star (iAD fb z fc) (lsH (y.take ln.toNat) d.w))))) h
def kp51 (k : List (List Int)) (d : Dv) : HProp := lsH ((k.drop 1).take (g0 (k.getD 0 [])).toNat) d.w
def kp52 (k : List (List Int)) (d : Dv) : HProp := star (lsH (((k.drop 1).take (g1 (k.getD 0 [])).toNat).take (g0 (k.getD 0 [])).toNat) (d.w.take (g0 (k.getD 0 [])).toNat)) (lsH (((k.drop 1).take (g1 (k.getD 0 [])).toNat).drop ((g0 (k.getD 0 [])).toNat + 1)) (d.w.drop ((g0 (k.getD 0 [])).toNat + 1)))
theorem kp51_mk (n : Int) (P : List (List Int)) (d : Dv) : kp51 ([n] :: P) d = lsH (P.take n.toNat) d.w := rfl
theorem kp52_mk (i n : Int) (P : List (List Int)) (d : Dv) : kp52 ([i, n] :: P) d = star (lsH ((P.take n.toNat).take i.toNat) (d.w.take i.toNat)) (lsH ((P.take n.toNat).drop (i.toNat + 1)) (d.w.drop (i.toNat + 1))) := rfl
/-- What the words mean. -/
structure DvSig (S : Sig GG) : Prop where
  dg : S.dg = gg0
  p50 : ∀ w0 k x, S.prd 50 w0 k x = plP k.toInt (dvOf x)
  p51 : ∀ w0 k x, S.prd 51 w0 k x = kp51 k.toRows (dvOf x)
  p52 : ∀ w0 k x, S.prd 52 w0 k x = kp52 k.toRows (dvOf x)
  u200 : ∀ a b c d, S.usr 200 a b c d = .int (dvOf a).page
  u201 : ∀ a b c d, S.usr 201 a b c d = .bool (dvOf a).down
  u202 : ∀ a b c d, S.usr 202 a b c d = .int (dvOf a).acts
  u203 : ∀ a b c d, S.usr 203 a b c d = .int (dvOf a).torn
  u204 : ∀ a b c d, S.usr 204 a b c d = .int (dvOf a).at'
  u205 : ∀ a b c d, S.usr 205 a b c d = .int (dvOf a).rd
  u206 : ∀ a b c d, S.usr 206 a b c d = .int (dvOf a).wr
  u207 : ∀ a b c d, S.usr 207 a b c d = .int (dvOf a).sy
  u208 : ∀ a b c d, S.usr 208 a b c d = .bytes (dvOf a).safe
  u209 : ∀ a b c d, S.usr 209 a b c d = .ints (dvOf a).keep
  u210 : ∀ a b c d, S.usr 210 a b c d = .int (dvOf a).pages
  u211 : ∀ a b c d, S.usr 211 a b c d = .int ((dvOf a).w.length : Nat)
  u212 : ∀ a b c d, S.usr 212 a b c d = .bytes ((dvOf a).dat b.toInt)
  u213 : ∀ a b c d, S.usr 213 a b c d = .int ((dvOf a).ref b.toInt)
  u214 : ∀ a b c d, S.usr 214 a b c d = .bool (propB (lastOk a.toMap (dvOf b).w ∧ posM a.toMap))
  u215 : ∀ a b c d, S.usr 215 a b c d = .bool (propB (GoodD (dvOf a)))
  u216 : ∀ a b c d, S.usr 216 a b c d = .bool (propB ((dvOf a).w = (dvOf b).w))
  u217 : ∀ a b c d, S.usr 217 a b c d = .int ((dvOf a).pg b.toInt)
  u220 : ∀ a b c d, S.usr 220 a b c d = .g (.dv ((dvOf a).rdD b.toInt))
  u221 : ∀ a b c d, S.usr 221 a b c d = .g (.dv ((dvOf a).wrD b.toInt c.toBytes))
  u222 : ∀ a b c d, S.usr 222 a b c d = .int ((dvOf a).wrE b.toInt c.toBytes)
  u223 : ∀ a b c d, S.usr 223 a b c d = .bytes ((dvOf a).rdB b.toInt)
  u224 : ∀ a b c d, S.usr 224 a b c d = .g (.dv { dvOf a with wr := (dvOf a).wr + 1, w := (dvOf a).w ++ [(b.toInt, c.toBytes)] })
  u225 : ∀ a b c d, S.usr 225 a b c d = .g (.dv (dvOf a).fall)
  u226 : ∀ a b c d, S.usr 226 a b c d = .bytes (fallS (dvOf a) 0 ((dvOf a).w.take b.toInt.toNat) (dvOf a).safe)
  u227 : ∀ a b c d, S.usr 227 a b c d = .g (.dv (dvOf a).sync)
  u228 : ∀ a b c d, S.usr 228 a b c d = .int (dvOf a).syE
  u229 : ∀ a b c d, S.usr 229 a b c d = .bytes (dvOf a).image
  u230 : ∀ a b c d, S.usr 230 a b c d = .g (.dv { dvOf a with sy := (dvOf a).sy + 1 })
  u231 : ∀ a b c d, S.usr 231 a b c d = .bool ((a.toInts.take b.toInt.toNat).contains c.toInt)
  u232 : ∀ a b c d, S.usr 232 a b c d = .bytes ((dvOf a).place b.toInt)
  u233 : ∀ a b c d, S.usr 233 a b c d = .g (.dv { dvOf a with acts := actN (dvOf a).acts })
  u234 : ∀ a b c d, S.usr 234 a b c d = .g (.dv (dvOf a))
  u235 : ∀ a b c d, S.usr 235 a b c d = .bool (propB (imgOk (dvOf c) a.toBytes b.toMap))
  u236 : ∀ a b c d, S.usr 236 a b c d = .bool (propB (subM a.toMap b.toMap))
  u237 : ∀ a b c d, S.usr 237 a b c d = .bool (propB (a.toMap.map (·.1)).Nodup)
def plC (K g : SX) : Ch := .prd 50 K g
def lsC (n P g : SX) : Ch := .prd 51 (cons1 (one1 n) P) g
def lsO (i n P g : SX) : Ch := .prd 52 (cons1 (ints2 i n) P) g
def pgX (g : SX) : SX := usI 200 g z0 z0
def sfX (g : SX) : SX := usY 208 g z0 z0
def celP (g : SX) : List SC := [.int .i64 (pgX g), sl1 (ai 2) (lenB (sfX g)) (ai 3), slC (ai 4) (ai 5) (ai 6) 2, .map (ai 7), .bool (usB 201 g z0 z0), .int .i64 (usI 202 g z0 z0), sl1 (ai 8) (ai 9) (ai 10), .int .i64 (usI 203 g z0 z0), .int .i64 (usI 204 g z0 z0), .int .i64 (usI 205 g z0 z0), .int .i64 (usI 206 g z0 z0), .int .i64 (usI 207 g z0 z0)]
def arrP (g : SX) : List Ch := [bAr (ai 2) (sfX g) (ai 3), lsA (ai 4) (rA 11) (ai 6), .map .i64 (.int .i64) (ai 7) (mA 12), iAr (ai 8) (iA 13) (ai 10)]
/-- A device, opened: 2, 3 what is safe; 4, 5, 6, 11 what is loose; 7, 12 the last ones; 8, 9, 10, 13 what is kept in a fall. -/
def unPC : Ctr := ⟨[.int, .g], [.one (.ptr (ai 0) 0)], [plC (ai 0) (gA 1)], [], [.int, .int, .int, .int, .int, .int, .int, .int, .int, .rows, .amap, .ints], .tup [],
  .cel (ai 0) 0 (celP (gA 1)) :: arrP (gA 1) ++ [lsC (ai 5) (rA 11) (gA 1)],
  [eLe (.int 0) (ai 5), eLe (ai 5) (lenR (rA 11)), .f2 45 (ai 5) (usI 211 (gA 1) z0 z0), eLe (ai 5) (ai 6), eLe (.int 0) (ai 9), eLe (ai 9) (lenI (iA 13)), .f2 153 (tkI (iA 13) (ai 9)) (usN 209 (gA 1) z0 z0), usB 214 (mA 12) (gA 1) z0, usB 215 (gA 1) z0 z0, eLe (lenB (sfX (gA 1))) (ai 3), eLe (.int 0) (ai 2), usB 237 (mA 12) z0 z0]⟩
/-- .. shut, as g stands. 14: rows; more atoms from 15 on. -/
def foPC (more : List Srt) (args : List SV) (g : SX) : Ctr := ⟨[.int, .g, .int, .int, .int, .int, .int, .int, .int, .int, .int, .rows, .amap, .ints, .rows] ++ more, .one (.ptr (ai 0) 0) :: args,
  .cel (ai 0) 0 (celP g) :: arrP g ++ [lsC (ai 5) (rA 14) (gA 1)],
  [eLe (.int 0) (ai 5), eLe (ai 5) (lenR (rA 11)), eqS (tk (rA 11) (ai 5)) (tk (rA 14) (ai 5)), eLe (.int 0) (ai 9), eLe (ai 9) (lenI (iA 13)), .f2 153 (tkI (iA 13) (ai 9)) (usN 209 g z0 z0), usB 214 (mA 12) g z0, usB 215 g z0 z0, usB 216 g (gA 1) z0], [], .tup [], [plC (ai 0) g], []⟩
/-- One loose write out: 3 place; 4 its content. -/
def toLC : Ctr := ⟨[.int, .rows, .g, .int], [.one (.int .i64 (ai 3))], [lsC (ai 0) (rA 1) (gA 2)], [eLe (.int 0) (ai 3), eLt (ai 3) (ai 0), eLe (ai 0) (lenR (rA 1))], [.bytes], .tup [],
  [lsO (ai 3) (ai 0) (rA 1) (gA 2), bAr (nt (rA 1) (ai 3) 1) (bA 4) (nt (rA 1) (ai 3) 3)],
  [eLe (.int 0) (nt (rA 1) (ai 3) 2), eLe (nt (rA 1) (ai 3) 2) (lenB (bA 4)), eqS (tkB (bA 4) (nt (rA 1) (ai 3) 2)) (usY 212 (gA 2) (ai 3) z0), .f2 45 (nt (rA 1) (ai 3) 0) (usI 217 (gA 2) (ai 3) z0), eLe (nt (rA 1) (ai 3) 2) (nt (rA 1) (ai 3) 3)]⟩
def pbLC : Ctr := ⟨[.int, .int, .rows, .g, .bytes], [], [lsO (ai 0) (ai 1) (rA 2) (gA 3), bAr (nt (rA 2) (ai 0) 1) (bA 4) (nt (rA 2) (ai 0) 3)],
  [eLe (.int 0) (ai 0), eLt (ai 0) (ai 1), eLe (ai 1) (lenR (rA 2)), .f2 45 (ai 1) (usI 211 (gA 3) z0 z0), eLe (.int 0) (nt (rA 2) (ai 0) 2), eLe (nt (rA 2) (ai 0) 2) (lenB (bA 4)), eqS (tkB (bA 4) (nt (rA 2) (ai 0) 2)) (usY 212 (gA 3) (ai 0) z0), .f2 45 (nt (rA 2) (ai 0) 0) (usI 217 (gA 3) (ai 0) z0)], [], .tup [], [lsC (ai 1) (rA 2) (gA 3)], []⟩
def row4 (a b c d : SX) : SX := ints4 a b c d
/-- A loose write more: 3 its page; 4, 5, 6, 7 its bytes. -/
def puLC : Ctr := ⟨[.int, .rows, .g, .int, .int, .int, .int, .bytes], [.one (.int .i64 (ai 3)), .one (sl1 (ai 4) (ai 5) (ai 6))], [lsC (ai 0) (rA 1) (gA 2), bAr (ai 4) (bA 7) (ai 6)],
  [eLe (.int 0) (ai 0), eLe (ai 0) (lenR (rA 1)), eLe (.int 0) (ai 5), eLe (ai 5) (lenB (bA 7)), .f2 45 (ai 0) (usI 211 (gA 2) z0 z0)], [], .tup [],
  [lsC (add1 (ai 0)) (.f2 121 (tk (rA 1) (ai 0)) (.f2 124 (row4 (ai 3) (ai 4) (ai 5) (ai 6)) nilR)) (usG 224 (gA 2) (ai 3) (tkB (bA 7) (ai 5)))], []⟩
/-- No loose write any more, as g stands. -/
def noLC (k : Nat) : Ctr := ⟨[.int, .rows, .g], [], [lsC (ai 0) (rA 1) (gA 2)], [.f2 45 (usI 211 (usG k (gA 2) z0 z0) z0 z0) z0], [], .tup [], [lsC z0 nilR (usG k (gA 2) z0 z0), lsA (.int (-1)) nilR z0], []⟩
theorem celP_den {T : Sig GG} (hu : T.usr = T.usr) (hS : DvSig T) (ρ : Go.Eng.Env GG) (w0 : World) (g : SX) : (Ch.cel (ai 0) 0 (celP g)).den T ρ w0 =
    celD (ρ 0).toInt (dvOf (g.den T ρ)) (ρ 2).toInt (ρ 3).toInt (ρ 4).toInt (ρ 5).toInt (ρ 6).toInt (ρ 7).toInt (ρ 8).toInt (ρ 9).toInt (ρ 10).toInt := by
  simp only [celP, celD, Ch.den, List.map_cons, List.map_nil, sl1, slC_den, SC.den, pgX, sfX, usI, usB, usY, lenB, mapV, SX.den, hS.u200, hS.u201, hS.u202, hS.u203, hS.u204, hS.u205, hS.u206, hS.u207, hS.u208, co_int, co_bool, co_bytes, ai, ap1_31, U.toInt_int, U.toBool_bool, U.toBytes_bytes, reduceCtorEq]
  rfl
theorem DvSig.of {S T : Sig GG} (h : DvSig S) (hu : T.usr = S.usr) (hp : T.prd = S.prd) (hd : T.dg = S.dg) : DvSig T := by
  constructor
  · rw [hd]; exact h.dg
  all_goals first | (rw [hu]; first | exact h.u200 | exact h.u201 | exact h.u202 | exact h.u203 | exact h.u204 | exact h.u205 | exact h.u206 | exact h.u207 | exact h.u208 | exact h.u209 | exact h.u210 | exact h.u211 | exact h.u212 | exact h.u213 | exact h.u214 | exact h.u215 | exact h.u216 | exact h.u217 | exact h.u220 | exact h.u221 | exact h.u222 | exact h.u223 | exact h.u224 | exact h.u225 | exact h.u226 | exact h.u227 | exact h.u228 | exact h.u229 | exact h.u230 | exact h.u231 | exact h.u232 | exact h.u233 | exact h.u234 | exact h.u235 | exact h.u236 | exact h.u237) | (rw [hp]; first | exact h.p50 | exact h.p51 | exact h.p52)
end
end Go.Proofs.Ytlcfjjjdhdfbdaa

/- A row of links, in memory: opened and shut. -/
set_option linter.unusedSimpArgs false
set_option linter.unusedVariables false
namespace Go.Proofs.Ytlcfjjjdhdfbdaa
noncomputable section
open Go.Eng
def pV (b : Int) : Value := if b < 0 then .pointer none else .pointer (some ⟨b.toNat, 0, none⟩)
def nodeH (x a b : Int) : HProp := fun h => (0 ≤ x ∨ False) ∧ row x.toNat 0 [pV a, pV b] true h
/-- Links from p on, up to n: each one's ahead is the one before, its behind the one after. -/
def dlS : Int → List Int → Int → HProp
  | _, [], _ => emp
  | p, x :: xs, n => star (nodeH x p (xs.headD n)) (dlS x xs n)
theorem dlS_app : ∀ (p : Int) (a b : List Int) (n : Int), dlS p (a ++ b) n = star (dlS p a (b.headD n)) (dlS (a.getLastD p) b n)
  | p, [], b, n => by rw [List.nil_append]; show _ = star emp _; rw [emp_star]; rfl
  | p, x :: a, b, n => by
    rw [List.cons_append]
    show star (nodeH x p ((a ++ b).headD n)) (dlS x (a ++ b) n) = star (star (nodeH x p (a.headD (b.headD n))) (dlS x a (b.headD n))) (dlS ((x :: a).getLastD p) b n)
    rw [dlS_app x a b n, star_assoc, List.getLastD_cons]
    congr 2
    cases a <;> rfl
def ringC (L : List Int) : HProp := dlS (L.getLastD 0) L (L.headD 0)
def ringH (H : Int) (xs : List Int) : HProp := ringC (H :: xs)
theorem getLastD_app (a b : List Int) (d : Int) : (a ++ b).getLastD d = b.getLastD (a.getLastD d) := by
  induction a generalizing d with
  | nil => rfl
  | cons x a ih => rw [List.cons_append, List.getLastD_cons, List.getLastD_cons, ih]
theorem getLastD_any {b : List Int} (hb : b ≠ []) (d e : Int) : b.getLastD d = b.getLastD e := by
  cases b with
  | nil => exact absurd rfl hb
  | cons x b => rw [List.getLastD_cons, List.getLastD_cons]
theorem headD_any {b : List Int} (hb : b ≠ []) (d e : Int) : b.headD d = b.headD e := by
  cases b with
  | nil => exact absurd rfl hb
  | cons x b => rfl
theorem headD_app {a : List Int} (ha : a ≠ []) (b : List Int) (d : Int) : (a ++ b).headD d = a.headD d := by
  cases a with
  | nil => exact absurd rfl ha
  | cons x a => rfl
theorem ringC_rot (a b : List Int) : ringC (a ++ b) = ringC (b ++ a) := by
  by_cases ha : a = []
  · subst ha; rw [List.nil_append, List.append_nil]
  by_cases hb : b = []
  · subst hb; rw [List.nil_append, List.append_nil]
  unfold ringC
  rw [dlS_app, dlS_app, star_comm, getLastD_app, getLastD_app, headD_app ha, headD_app hb, getLastD_any ha (b.getLastD 0) 0, getLastD_any hb (a.getLastD 0) 0, headD_any hb (a.headD 0) 0, headD_any ha (b.headD 0) 0, getLastD_any ha (b.getLastD 0) 0]
/-- One link apart. -/
theorem ring_one (u : List Int) (x : Int) (v : List Int) : ringC (u ++ x :: v) = star (nodeH x ((v ++ u).getLastD x) ((v ++ u).headD x)) (dlS x (v ++ u) x) := by
  rw [ringC_rot, List.cons_append]
  unfold ringC
  rw [List.getLastD_cons]; rfl
/-- .. and its two neighbours. -/
theorem seg_two (x q : Int) (mid : List Int) (p : Int) : dlS x (q :: (mid ++ [p])) x = star (nodeH q x (mid.headD p)) (star (dlS q mid p) (nodeH p (mid.getLastD q) x)) := by
  show star (nodeH q x ((mid ++ [p]).headD x)) (dlS q (mid ++ [p]) x) = _
  rw [dlS_app]
  have e1 : (mid ++ [p]).headD x = mid.headD p := by cases mid <;> rfl
  have e2 : dlS (mid.getLastD q) [p] x = nodeH p (mid.getLastD q) x := by show star _ emp = _; rw [star_emp]; rfl
  rw [e1, e2]; rfl
theorem ring_two (q : Int) (mid : List Int) (p : Int) : ringC (q :: (mid ++ [p])) = star (nodeH q p (mid.headD p)) (star (dlS q mid p) (nodeH p (mid.getLastD q) q)) := by
  unfold ringC
  show star (nodeH q _ ((mid ++ [p]).headD q)) (dlS q (mid ++ [p]) q) = _
  rw [dlS_app]
  have e1 : (mid ++ [p]).headD q = mid.headD p := by cases mid <;> rfl
  have e2 : dlS (mid.getLastD q) [p] q = nodeH p (mid.getLastD q) q := by show star _ emp = _; rw [star_emp]; rfl
  have e3 : (q :: (mid ++ [p])).getLastD 0 = p := by rw [List.getLastD_cons, getLastD_app]; rfl
  rw [e1, e2, e3]; rfl
theorem two_ends {M : List Int} (h : 2 ≤ M.length) : ∃ q mid p, M = q :: (mid ++ [p]) := by
  match M, h with
  | q :: m, h =>
    have : m ≠ [] := by intro e; subst e; simp at h
    exact ⟨q, m.dropLast, m.getLast this, by rw [List.dropLast_concat_getLast]⟩
theorem erase_split {xs : List Int} {l : Int} (h : l ∈ xs) : ∃ u v, xs = u ++ l :: v ∧ xs.erase l = u ++ v := by
  obtain ⟨u, v, h1, h2, h3⟩ := List.exists_erase_eq h
  exact ⟨u, v, h2, h3⟩
/-- A row without one of it, and without its neighbours: q behind it, p ahead of it. -/
def rsO (H l p q pa qb : Int) (xs : List Int) : HProp := fun h => ∃ u v mid, xs = u ++ l :: v ∧ xs.erase l = u ++ v ∧ v ++ H :: u = q :: (mid ++ [p]) ∧ qb = mid.headD p ∧ pa = mid.getLastD q ∧ dlS q mid p h
/-- A row without its end, and without the last of it. -/
def rsL (H z hb za : Int) (xs : List Int) : HProp := fun h => ∃ u, xs = u ++ [z] ∧ hb = u.headD z ∧ za = u.getLastD H ∧ dlS H u z h
/-- A row without its i-th link (0: the end). -/
def rsN (H i x a b : Int) (xs : List Int) : HProp := fun h => ∃ u v, H :: xs = u ++ x :: v ∧ i = (u.length : Nat) ∧ a = (v ++ u).getLastD x ∧ b = (v ++ u).headD x ∧ dlS x (v ++ u) x h
theorem out_one {H l : Int} : ringH H [l] = star (nodeH l H H) (nodeH H l l) := by
  show ringC ([H] ++ l :: []) = _
  rw [ring_one]
  show star (nodeH l H H) (star (nodeH H l l) emp) = _
  rw [star_emp]
theorem ring_nil (H : Int) : ringH H [] = nodeH H H H := by
  show star (nodeH H H H) emp = _
  rw [star_emp]
theorem out_open {H l : Int} {xs : List Int} {h : Hl} (hm : l ∈ xs) (h2 : 2 ≤ xs.length) (hr : ringH H xs h) : ∃ p q pa qb, star (nodeH l p q) (star (nodeH p pa l) (star (nodeH q l qb) (rsO H l p q pa qb xs))) h := by
  obtain ⟨u, v, e1, e2⟩ := erase_split hm
  have hl : 2 ≤ (v ++ H :: u).length := by
    have := congrArg List.length e1
    simp only [List.length_append, List.length_cons] at this ⊢; omega
  obtain ⟨q, mid, p, e3⟩ := two_ends hl
  have e0 : H :: xs = (H :: u) ++ l :: v := by rw [e1]; rfl
  unfold ringH at hr
  rw [e0, ring_one, e3, seg_two] at hr
  have f1 : (q :: (mid ++ [p])).getLastD l = p := by rw [List.getLastD_cons, getLastD_app]; rfl
  rw [f1] at hr
  refine ⟨p, q, mid.getLastD q, mid.headD p, ?_⟩
  refine star_right hr fun h hr => ?_
  rw [← star_assoc, star_comm, ← star_assoc] at hr
  rw [star_assoc] at hr
  exact star_right hr fun h hr => star_right hr fun h hr => ⟨u, v, mid, e1, e2, e3, rfl, rfl, hr⟩
theorem out_shut {H l p q pa qb : Int} {xs : List Int} {h : Hl} (hr : star (nodeH p pa q) (star (nodeH q p qb) (rsO H l p q pa qb xs)) h) : ringH H (xs.erase l) h := by
  obtain ⟨a, b, d, e, h1, b1, b2, d2, rfl, h2, u, v, mid, e1, e2, e3, rfl, rfl, h3⟩ := hr
  have hh : star (nodeH p (mid.getLastD q) q) (star (nodeH q p (mid.headD p)) (dlS q mid p)) h := ⟨a, _, d, e, h1, b1, b2, d2, rfl, h2, h3⟩
  have e4 : ringH H (xs.erase l) = ringC (v ++ H :: u) := by rw [e2, ringC_rot]; rfl
  rw [e4, e3, ring_two, ← star_assoc, star_comm]
  exact hh
theorem last_one {H l : Int} : star (nodeH l H H) (nodeH H l l) = ringH H ([] ++ [l]) := out_one.symm
theorem last_open {H : Int} {xs : List Int} {h : Hl} (h2 : xs ≠ []) (hr : ringH H xs h) : ∃ z hb za, star (nodeH H z hb) (star (nodeH z za H) (rsL H z hb za xs)) h := by
  obtain ⟨u, z, rfl⟩ : ∃ u z, xs = u ++ [z] := ⟨xs.dropLast, xs.getLast h2, by rw [List.dropLast_concat_getLast]⟩
  refine ⟨z, u.headD z, u.getLastD H, ?_⟩
  unfold ringH at hr
  rw [show H :: (u ++ [z]) = [] ++ H :: (u ++ [z]) from rfl, ring_one, List.append_nil] at hr
  have f1 : (u ++ [z]).getLastD H = z := by rw [getLastD_app]; rfl
  have f2 : (u ++ [z]).headD H = u.headD z := by cases u <;> rfl
  rw [f1, f2, dlS_app] at hr
  have e2 : dlS (u.getLastD H) [z] H = nodeH z (u.getLastD H) H := by show star _ emp = _; rw [star_emp]; rfl
  rw [e2] at hr
  refine star_right hr fun h hr => ?_
  rw [star_comm] at hr
  exact star_right hr fun h hr => ⟨u, rfl, rfl, rfl, hr⟩
theorem last_shut {H l z hb za : Int} {xs : List Int} {h : Hl} (hr : star (nodeH l z H) (star (nodeH z za l) (star (nodeH H l hb) (rsL H z hb za xs))) h) : ringH H (xs ++ [l]) h := by
  obtain ⟨a, r1, d1, k1, ha, b, r2, d2, k2, hb', c, r3, d3, k3, hc, u, rfl, rfl, rfl, hd⟩ := hr
  have hh : star (nodeH l z H) (star (nodeH z (u.getLastD H) l) (star (nodeH H l (u.headD z)) (dlS H u z))) h := ⟨a, r1, d1, k1, ha, b, r2, d2, k2, hb', c, r3, d3, k3, hc, hd⟩
  unfold ringH
  rw [show H :: (u ++ [z] ++ [l]) = [] ++ H :: (u ++ [z] ++ [l]) from rfl, ring_one, List.append_nil]
  have f1 : (u ++ [z] ++ [l]).getLastD H = l := by rw [getLastD_app]; rfl
  have f2 : (u ++ [z] ++ [l]).headD H = u.headD z := by cases u <;> rfl
  have e1 : dlS ((u ++ [z]).getLastD H) [l] H = nodeH l z H := by rw [getLastD_app]; show star _ emp = _; rw [star_emp]; rfl
  have e2 : dlS (u.getLastD H) [z] l = nodeH z (u.getLastD H) l := by show star _ emp = _; rw [star_emp]; rfl
  rw [f1, f2, dlS_app, e1, dlS_app, show [l].headD H = l from rfl, e2, show [z].headD l = z from rfl]
  rw [star_comm (nodeH l z H), star_comm (nodeH z _ l), star_assoc, star_assoc] at hh
  rw [star_assoc (dlS H u z)]
  exact hh
theorem node_b {H : Int} {xs u v : List Int} {x : Int} (e : H :: xs = u ++ x :: v) : (v ++ u).headD x = (xs ++ [H]).getD u.length 0 := by
  cases u with
  | nil =>
    rw [List.nil_append] at e
    injection e with e1 e2
    subst e1 e2
    cases xs <;> rfl
  | cons y u =>
    rw [List.cons_append] at e
    injection e with e1 e2
    subst e1 e2
    cases v with
    | nil => simp [List.getD_eq_getElem?_getD]
    | cons z v => simp [List.getD_eq_getElem?_getD]
theorem node_open {H i : Int} {xs : List Int} {h : Hl} (h0 : 0 ≤ i) (h1 : i ≤ xs.length) (hr : ringH H xs h) : ∃ a, star (nodeH ((H :: xs).getD i.toNat 0) a ((xs ++ [H]).getD i.toNat 0)) (rsN H i ((H :: xs).getD i.toNat 0) a ((xs ++ [H]).getD i.toNat 0) xs) h := by
  have hi : i.toNat < (H :: xs).length := by rw [List.length_cons]; omega
  have hsp := split_at (d := 0) hi
  rw [List.singleton_append] at hsp
  generalize hu : (H :: xs).take i.toNat = u at hsp
  generalize (H :: xs).drop (i.toNat + 1) = v at hsp
  generalize (H :: xs).getD i.toNat 0 = x at hsp ⊢
  have hul : u.length = i.toNat := by rw [← hu, List.length_take]; omega
  have hb := node_b hsp
  rw [hul] at hb
  unfold ringH at hr
  rw [hsp, ring_one, hb] at hr
  exact ⟨_, star_right hr fun h hr => ⟨u, v, hsp, by omega, rfl, hb.symm, hr⟩⟩
theorem node_shut {H i x a b : Int} {xs : List Int} {h : Hl} (hr : star (nodeH x a b) (rsN H i x a b xs) h) : ringH H xs h := by
  obtain ⟨r1, r2, d1, k1, ha, u, v, e1, e2, rfl, rfl, hd⟩ := hr
  unfold ringH
  rw [e1, ring_one]
  exact ⟨r1, r2, d1, k1, ha, hd⟩
end
end Go.Proofs.Ytlcfjjjdhdfbdaa

/- A cache, in plain words. -/
set_option linter.unusedSimpArgs false
set_option linter.unusedVariables false
namespace Go.Proofs.Ytlcfjjjdhdfbdaa
noncomputable section
open Go.Eng
def fr0 : Fr := ⟨0, [], false, 0⟩
def Cs.at' (c : Cs) (i : Int) : Fr := c.fr.getD i.toNat fr0
def idxL (P : Fr → Bool) : List Fr → Nat
  | [] => 0
  | f :: l => bif P f then 0 else idxL P l + 1
def Cs.idx (c : Cs) (n : Int) : Nat := idxL (fun f => f.n == n) c.fr
def Cs.old (c : Cs) : Nat := idxL (fun f => f.pins == 0) c.fr
def Cs.gone (c : Cs) (i : Int) : Cs := { c with fr := c.fr.take i.toNat ++ c.fr.drop (i.toNat + 1) }
def Cs.add (c : Cs) (f : Fr) : Cs := { c with fr := c.fr ++ [f] }
def Cs.touch (c : Cs) (i : Int) : Cs := (c.gone i).add (c.at' i)
def Cs.put (c : Cs) (i : Int) (f : Fr) : Cs := { c with fr := c.fr.take i.toNat ++ f :: c.fr.drop (i.toNat + 1) }
def Cs.full (c : Cs) : Prop := c.frames ≤ c.fr.length
structure GoodC (c : Cs) : Prop where
  frames : 1 ≤ c.frames ∧ c.frames ≤ 4096
  len : (c.fr.length : Int) ≤ c.frames
  nod : (c.fr.map (·.n)).Nodup
  pins : ∀ f ∈ c.fr, 0 ≤ f.pins
  cnt : 0 ≤ c.hits ∧ 0 ≤ c.misses ∧ 0 ≤ c.evic
  b : ∀ f ∈ c.fr, f.b.length ≤ 65536
/-- Room for one more: what the cache is then, the device, the number of the error. -/
def Cs.evict (c : Cs) : Cs := { c.gone (c.old : Nat) with evic := c.evic + 1 }
def Cs.oldF (c : Cs) : Fr := c.at' (c.old : Nat)
def Cs.roomC (c : Cs) (d : Dv) : Cs := if (c.fr.length : Int) < c.frames ∨ c.fr.length ≤ c.old then c else if c.oldF.dirty = true ∧ d.wrE c.oldF.n c.oldF.b ≠ 0 then c else c.evict
def Cs.roomD (c : Cs) (d : Dv) : Dv := if (c.fr.length : Int) < c.frames ∨ c.fr.length ≤ c.old then d else if c.oldF.dirty = true then d.wrD c.oldF.n c.oldF.b else d
def Cs.roomE (c : Cs) (d : Dv) : Int := if (c.fr.length : Int) < c.frames then 0 else if c.fr.length ≤ c.old then 40 else if c.oldF.dirty = true then d.wrE c.oldF.n c.oldF.b else 0
/-- A page looked for: is it held, or none may come; else it comes. -/
def Cs.hit (c : Cs) (n : Int) : Prop := c.idx n < c.fr.length
def Cs.stuck (c : Cs) : Prop := c.frames ≤ (c.fr.length : Int) ∧ c.fr.length ≤ c.old
def Cs.hitC (c : Cs) (n : Int) : Cs := { c.touch (c.idx n : Nat) with hits := c.hits + 1 }
def Cs.came (c : Cs) (n : Int) (b : List UInt8) : Cs := { c.add ⟨n, b, false, 0⟩ with misses := c.misses + 1 }
open Classical in
def Cs.holdC (c : Cs) (d : Dv) (n : Int) : Cs := if c.hit n then c.hitC n else if c.stuck ∨ d.ref n ≠ 0 then c else if c.roomE (d.rdD n) ≠ 0 then c.roomC (d.rdD n) else (c.roomC (d.rdD n)).came n (d.rdB n)
open Classical in
def Cs.holdD (c : Cs) (d : Dv) (n : Int) : Dv := if c.hit n ∨ c.stuck ∨ d.ref n ≠ 0 then d else c.roomD (d.rdD n)
open Classical in
def Cs.holdE (c : Cs) (d : Dv) (n : Int) : Int := if c.hit n then 0 else if c.stuck then 40 else if d.ref n ≠ 0 then d.ref n else c.roomE (d.rdD n)
/-- Pins. -/
def Cs.pinAt (c : Cs) (i : Int) (k : Int) : Cs := c.put i { c.at' i with pins := (c.at' i).pins + k }
open Classical in
def Cs.unpC (c : Cs) (n : Int) : Cs := if c.hit n ∧ (c.at' (c.idx n : Nat)).pins ≠ 0 then c.pinAt (c.idx n : Nat) (-1) else c
open Classical in
def Cs.unpE (c : Cs) (n : Int) : Int := if c.hit n ∧ (c.at' (c.idx n : Nat)).pins ≠ 0 then 0 else 41
open Classical in
def Cs.pinC (c : Cs) (d : Dv) (n : Int) : Cs := if c.holdE d n = 0 then (c.holdC d n).pinAt (((c.holdC d n).fr.length : Nat) + -1) 1 else c.holdC d n
/-- Put. -/
def Cs.bad (d : Dv) (n : Int) (b : List UInt8) : Prop := n < 0 ∨ d.pages ≤ n ∨ (b.length : Int) ≠ d.page
def Cs.hitP (c : Cs) (n : Int) (b : List UInt8) : Cs := (c.gone (c.idx n : Nat)).add { c.at' (c.idx n : Nat) with b := b, dirty := true }
open Classical in
def Cs.putC (c : Cs) (d : Dv) (n : Int) (b : List UInt8) : Cs := if Cs.bad d n b then c else if c.hit n then c.hitP n b else if c.roomE d ≠ 0 then c.roomC d else (c.roomC d).add ⟨n, b, true, 0⟩
open Classical in
def Cs.putD (c : Cs) (d : Dv) (n : Int) (b : List UInt8) : Dv := if Cs.bad d n b ∨ c.hit n then d else c.roomD d
open Classical in
def Cs.putE (c : Cs) (d : Dv) (n : Int) (b : List UInt8) : Int := if n < 0 ∨ d.pages ≤ n then 30 else if (b.length : Int) ≠ d.page then 31 else if c.hit n then 0 else c.roomE d
-- Drop.
open Classical in
def Cs.dropC (c : Cs) (n : Int) : Cs := if c.hit n ∧ ¬ 0 < (c.at' (c.idx n : Nat)).pins then c.gone (c.idx n : Nat) else c
open Classical in
def Cs.dropE (c : Cs) (n : Int) : Int := if c.hit n ∧ 0 < (c.at' (c.idx n : Nat)).pins then 40 else 0
/-- State: how many of those that were seen are dirty, or pinned. -/
def Cs.dirN (c : Cs) (left : List (Int × Int)) : Nat := (c.fr.filter fun f => f.dirty && !mhas left f.n).length
def Cs.pinN (c : Cs) (left : List (Int × Int)) : Nat := (c.fr.filter fun f => decide (0 < f.pins) && !mhas left f.n).length
/-- Flush: page by page. -/
def Cs.clean (c : Cs) (i : Int) : Cs := c.put i { c.at' i with dirty := false }
def flS : List Int → Cs → Dv → Cs × Dv × Int
  | [], c, d => (c, d, 0)
  | n :: l, c, d => bif (c.at' (c.idx n : Nat)).dirty then (if d.wrE n (c.at' (c.idx n : Nat)).b = 0 then flS l (c.clean (c.idx n : Nat)) (d.wrD n (c.at' (c.idx n : Nat)).b) else (c, d.wrD n (c.at' (c.idx n : Nat)).b, d.wrE n (c.at' (c.idx n : Nat)).b)) else flS l c d
def sortK (l : List Int) : List Int := l.mergeSort fun x y => decide (x ≤ y)
def Cs.keys (c : Cs) : List Int := sortK (c.fr.map (·.n))
/-- A page of one byte; below 0: three bytes. -/
def filledB (x : Int) : List UInt8 := if x < 0 then [1, 2, 3] else List.replicate 512 (UInt8.ofNat (x % 256).toNat)
/-- .. as it is filled: so many bytes are. -/
def fillS (y : List UInt8) (x i : Int) : Prop := y.length = 512 ∧ y.take i.toNat = List.replicate i.toNat (UInt8.ofNat (x % 256).toNat)
def dvOn (page : Int) (safe : List UInt8) : Dv := ⟨page, safe, [], false, -1, [], 0, 0, 0, 0, 0⟩
def dvNew (pages : Int) : Dv := dvOn 512 (List.replicate (512 * pages.toNat) 0)
/-- A fresh one. -/
def csNew (frames : Int) : Cs := ⟨[], frames, 0, 0, 0⟩
/-- Where the pages lie, as the map tells. -/
def prs (fr : List Fr) (R : List (List Int)) : List (Int × Int) := List.zipWith (fun f r => (f.n, g0 r)) fr R
def heldOk (m : List (Int × Int)) (R : List (List Int)) (fr : List Fr) : Prop := R.length = fr.length ∧ (fr.map (·.n)).Nodup ∧ m.Perm (prs fr R)
theorem idxL_le {P : Fr → Bool} : ∀ (l : List Fr), idxL P l ≤ l.length
  | [] => Nat.le_refl _
  | f :: l => by
    have := idxL_le (P := P) l
    unfold idxL
    cases P f
    · show idxL P l + 1 ≤ l.length + 1; omega
    · exact Nat.zero_le _
theorem idxL_at {P : Fr → Bool} : ∀ {l : List Fr}, idxL P l < l.length → P (l.getD (idxL P l) fr0) = true
  | [], h => absurd h (Nat.lt_irrefl _)
  | f :: l, h => by
    unfold idxL at h ⊢
    cases hp : P f
    · rw [hp] at h
      have h : idxL P l + 1 < l.length + 1 := h
      show P (l.getD (idxL P l) fr0) = true
      exact idxL_at (by omega)
    · exact hp
theorem idxL_lt {P : Fr → Bool} : ∀ {l : List Fr} {i : Nat}, i < idxL P l → i < l.length ∧ P (l.getD i fr0) = false
  | [], i, h => absurd h (Nat.not_lt_zero _)
  | f :: l, i, h => by
    unfold idxL at h
    cases hp : P f
    · rw [hp] at h
      have h : i < idxL P l + 1 := h
      cases i with
      | zero => exact ⟨Nat.succ_pos _, hp⟩
      | succ i => have := idxL_lt (P := P) (l := l) (i := i) (by omega); exact ⟨Nat.succ_lt_succ this.1, this.2⟩
    · rw [hp] at h; exact absurd h (Nat.not_lt_zero _)
theorem idxL_none {P : Fr → Bool} {l : List Fr} (h : ∀ f ∈ l, P f = false) : idxL P l = l.length := by
  induction l with
  | nil => rfl
  | cons f l ih =>
    unfold idxL
    rw [h f List.mem_cons_self, ih fun g hg => h g (List.mem_cons_of_mem _ hg)]; rfl
theorem prs_map {fr : List Fr} {R : List (List Int)} (h : R.length = fr.length) : (prs fr R).map (·.1) = fr.map (·.n) := by
  induction fr generalizing R with
  | nil => rfl
  | cons f fr ih =>
    cases R with
    | nil => simp at h
    | cons r R => show f.n :: (prs fr R).map _ = f.n :: _; rw [ih (by simpa using h)]
theorem prs_get {fr : List Fr} {R : List (List Int)} (h : R.length = fr.length) {i : Nat} (hi : i < fr.length) : ((fr.getD i fr0).n, g0 (R.getD i [])) ∈ prs fr R := by
  induction fr generalizing R i with
  | nil => exact absurd hi (Nat.not_lt_zero _)
  | cons f fr ih =>
    cases R with
    | nil => simp at h
    | cons r R =>
      cases i with
      | zero => exact List.mem_cons_self
      | succ i => exact List.mem_cons_of_mem _ (ih (by simpa using h) (by simpa using hi))
theorem mget_mem {m : List (Int × Int)} {d n b : Int} (hn : (m.map (·.1)).Nodup) (h : (n, b) ∈ m) : mget d m n = b := by
  induction m with
  | nil => cases h
  | cons p m ih =>
    obtain ⟨k, v⟩ := p
    rw [List.map_cons, List.nodup_cons] at hn
    show (if k = n then v else mget d m n) = b
    rcases List.mem_cons.1 h with e | h'
    · injection e with e1 e2; rw [if_pos e1.symm, e2]
    · have : n ∈ m.map (·.1) := List.mem_map.2 ⟨_, h', rfl⟩
      rw [if_neg (fun e => hn.1 (by rw [show (k, v).1 = n from e]; exact this))]
      exact ih hn.2 h'
theorem heldOk.nod {m : List (Int × Int)} {R : List (List Int)} {fr : List Fr} (h : heldOk m R fr) : (m.map (·.1)).Nodup := by
  have := h.2.2.map (·.1)
  rw [prs_map h.1] at this
  exact this.nodup_iff.2 h.2.1
theorem heldOk.len {m : List (Int × Int)} {R : List (List Int)} {fr : List Fr} (h : heldOk m R fr) : m.length = fr.length := by
  have h2 := h.2.2.length_eq
  have h1 := h.1
  rw [h2]; unfold prs; rw [List.length_zipWith, h1, Nat.min_self]
/-- Is it held? -/
theorem heldOk.has {m : List (Int × Int)} {R : List (List Int)} {c : Cs} (h : heldOk m R c.fr) (n : Int) : mhas m n = true ↔ c.idx n < c.fr.length := by
  rw [mhas_mem, (h.2.2.map (·.1)).mem_iff, prs_map h.1]
  constructor
  · intro hm
    rcases Nat.lt_or_ge (c.idx n) c.fr.length with hl | hl
    · exact hl
    · obtain ⟨f, hf, e⟩ := List.mem_map.1 hm
      obtain ⟨i, hi, e2⟩ := List.getElem_of_mem hf
      have := (idxL_lt (P := fun f => f.n == n) (l := c.fr) (i := i) (Nat.lt_of_lt_of_le hi hl)).2
      rw [List.getD_eq_getElem?_getD, List.getElem?_eq_getElem hi, Option.getD_some, e2] at this
      rw [e] at this; simp at this
  · intro hl
    have := idxL_at hl
    have hf : c.fr.getD (c.idx n) fr0 ∈ c.fr := by rw [List.getD_eq_getElem?_getD, List.getElem?_eq_getElem hl]; exact List.getElem_mem _
    exact List.mem_map.2 ⟨_, hf, beq_iff_eq.1 this⟩
theorem heldOk.get {m : List (Int × Int)} {R : List (List Int)} {fr : List Fr} (h : heldOk m R fr) {d : Int} {i : Nat} (hi : i < fr.length) : mget d m (fr.getD i fr0).n = g0 (R.getD i []) :=
  mget_mem h.nod (h.2.2.mem_iff.2 (prs_get h.1 hi))
theorem Cs.idx_n {c : Cs} {n : Int} (h : c.idx n < c.fr.length) : (c.fr.getD (c.idx n) fr0).n = n := beq_iff_eq.1 (idxL_at h)
theorem zw_app {fr gr : List Fr} {R Q : List (List Int)} (h : R.length = fr.length) : prs (fr ++ gr) (R ++ Q) = prs fr R ++ prs gr Q := by
  unfold prs; rw [List.zipWith_append h.symm]
/-- Another order. -/
theorem heldOk.rot {m : List (Int × Int)} {R : List (List Int)} {fr : List Fr} (h : heldOk m R fr) {i : Nat} (hi : i < fr.length) :
    heldOk m (R.take i ++ R.drop (i + 1) ++ [R.getD i []]) (fr.take i ++ fr.drop (i + 1) ++ [fr.getD i fr0]) := by
  obtain ⟨h1, h2, h3⟩ := h
  have hR := split_at (d := []) (show i < R.length by omega)
  have hF := split_at (d := fr0) hi
  have pF : fr.Perm (fr.take i ++ fr.drop (i + 1) ++ [fr.getD i fr0]) := by
    conv => lhs; rw [hF]
    rw [List.append_assoc]
    exact (List.perm_append_comm).append_left _
  refine ⟨by simp only [List.length_append, List.length_take, List.length_drop, List.length_singleton]; omega, (pF.map (·.n)).nodup_iff.1 h2, h3.trans ?_⟩
  have e1 : prs fr R = prs (fr.take i) (R.take i) ++ (prs [fr.getD i fr0] [R.getD i []] ++ prs (fr.drop (i + 1)) (R.drop (i + 1))) := by
    conv => lhs; rw [hR, hF]
    rw [zw_app (by rw [List.length_take, List.length_take]; omega), zw_app rfl]
  rw [e1, zw_app (by simp only [List.length_append, List.length_take, List.length_drop]; omega), zw_app (by rw [List.length_take, List.length_take]; omega), List.append_assoc]
  exact (List.perm_append_comm).append_left _
/-- One less. -/
theorem mdel_perm {m : List (Int × Int)} {n b : Int} {l : List (Int × Int)} (hn : (m.map (·.1)).Nodup) (h : m.Perm ((n, b) :: l)) : (mdel m n).Perm l := by
  have key : ∀ {m : List (Int × Int)}, (m.map (·.1)).Nodup → (n, b) ∈ m → m.Perm ((n, b) :: mdel m n) := by
    intro m hn hm
    induction m with
    | nil => cases hm
    | cons p m ih =>
      obtain ⟨k, v⟩ := p
      rw [List.map_cons, List.nodup_cons] at hn
      show ((k, v) :: m).Perm ((n, b) :: (if k = n then m else (k, v) :: mdel m n))
      rcases List.mem_cons.1 hm with e | h'
      · injection e with e1 e2; subst e1 e2; rw [if_pos rfl]
      · have : n ∈ m.map (·.1) := List.mem_map.2 ⟨_, h', rfl⟩
        rw [if_neg (fun e => hn.1 (by rw [show (k, v).1 = n from e]; exact this))]
        exact ((ih hn.2 h').cons _).trans (List.Perm.swap _ _ _)
  exact List.Perm.cons_inv ((key hn (h.mem_iff.2 List.mem_cons_self)).symm.trans h)
theorem heldOk.gone {m : List (Int × Int)} {R : List (List Int)} {fr : List Fr} (h : heldOk m R fr) {i : Nat} (hi : i < fr.length) :
    heldOk (mdel m (fr.getD i fr0).n) (R.take i ++ R.drop (i + 1)) (fr.take i ++ fr.drop (i + 1)) := by
  obtain ⟨h1, h2, h3⟩ := h.rot hi
  have hl : (R.take i ++ R.drop (i + 1)).length = (fr.take i ++ fr.drop (i + 1)).length := by simp only [List.length_append, List.length_take, List.length_drop]; have := h.1; omega
  rw [zw_app hl] at h3
  refine ⟨hl, ?_, mdel_perm h.nod (b := g0 (R.getD i [])) (h3.trans List.perm_append_comm)⟩
  rw [List.map_append] at h2
  exact (List.nodup_append.1 h2).1
theorem mset_new {m : List (Int × Int)} {n b : Int} (h : mhas m n = false) : mset m n b = m ++ [(n, b)] := by
  induction m with
  | nil => rfl
  | cons p m ih =>
    obtain ⟨k, v⟩ := p
    have h' : (if k = n then true else mhas m n) = false := h
    by_cases e : k = n
    · rw [if_pos e] at h'; cases h'
    · rw [if_neg e] at h'
      show (if k = n then (n, b) :: m else (k, v) :: mset m n b) = _
      rw [if_neg e, ih h']; rfl
theorem heldOk.add {m : List (Int × Int)} {R : List (List Int)} {c : Cs} (h : heldOk m R c.fr) {f : Fr} (hf : ¬ c.idx f.n < c.fr.length) (r : List Int) : heldOk (mset m f.n (g0 r)) (R ++ [r]) (c.fr ++ [f]) := by
  have hh : mhas m f.n = false := by
    cases e : mhas m f.n
    · rfl
    · exact absurd ((h.has _).1 e) hf
  obtain ⟨h1, h2, h3⟩ := h
  refine ⟨by rw [List.length_append, List.length_append, h1]; rfl, ?_, ?_⟩
  · rw [List.map_append, List.nodup_append]
    refine ⟨h2, by simp, ?_⟩
    intro a ha b hb
    have hb : b = f.n := by simpa using hb
    subst hb
    intro e
    subst e
    have : f.n ∈ m.map (·.1) := by rw [(h3.map (·.1)).mem_iff, prs_map h1]; exact ha
    rw [← mhas_mem, hh] at this; cases this
  · rw [mset_new hh, zw_app h1]
    exact h3.append_right _
/-- One written over. -/
theorem heldOk.put {m : List (Int × Int)} {R : List (List Int)} {fr : List Fr} (h : heldOk m R fr) {i : Nat} (hi : i < fr.length) {f : Fr} {r : List Int} (hf : f.n = (fr.getD i fr0).n) (hr : g0 r = g0 (R.getD i [])) :
    heldOk m (R.take i ++ r :: R.drop (i + 1)) (fr.take i ++ f :: fr.drop (i + 1)) := by
  obtain ⟨h1, h2, h3⟩ := h
  have hR := split_at (d := []) (show i < R.length by omega)
  have hF := split_at (d := fr0) hi
  have e1 : prs fr R = prs (fr.take i) (R.take i) ++ (prs [fr.getD i fr0] [R.getD i []] ++ prs (fr.drop (i + 1)) (R.drop (i + 1))) := by
    conv => lhs; rw [hR, hF]
    rw [zw_app (by rw [List.length_take, List.length_take]; omega), zw_app rfl]
  have e2 : prs (fr.take i ++ f :: fr.drop (i + 1)) (R.take i ++ r :: R.drop (i + 1)) = prs fr R := by
    rw [e1, zw_app (by rw [List.length_take, List.length_take]; omega)]
    show _ ++ ((f.n, g0 r) :: _) = _ ++ (((fr.getD i fr0).n, g0 (R.getD i [])) :: _)
    rw [hf, hr]; rfl
  have e3 : (fr.take i ++ f :: fr.drop (i + 1)).map (·.n) = fr.map (·.n) := by
    conv => rhs; rw [hF]
    simp [hf]
  refine ⟨by simp only [List.length_append, List.length_take, List.length_cons, List.length_drop]; omega, by rw [e3]; exact h2, by rw [e2]; exact h3⟩
end
end Go.Proofs.Ytlcfjjjdhdfbdaa

/- A row of links: what the run may open and shut; out, last. -/
set_option linter.unusedSimpArgs false
set_option linter.unusedVariables false
namespace Go.Proofs.Ytlcfjjjdhdfbdaa
noncomputable section
open Go.Eng
def kRow (k : List (List Int)) (i : Nat) : Int := (k.getD 0 []).getD i 0
/-- A row without two of its links: one, and its end. -/
def rs2 (H l a b c d : Int) (xs : List Int) : HProp := fun h => ∃ A : HProp, ringH H xs = star (nodeH l a b) (star (nodeH H c d) A) ∧ A h
/-- What the words mean. -/
structure RgSig (S : Sig GG) : Prop where
  p60 : ∀ w0 k x, S.prd 60 w0 k x = ringH k.toInt x.toInts
  p61 : ∀ w0 k x, S.prd 61 w0 k x = rsO (kRow k.toRows 0) (kRow k.toRows 1) (kRow k.toRows 2) (kRow k.toRows 3) (kRow k.toRows 4) (kRow k.toRows 5) x.toInts
  p62 : ∀ w0 k x, S.prd 62 w0 k x = rsL (kRow k.toRows 0) (kRow k.toRows 1) (kRow k.toRows 2) (kRow k.toRows 3) x.toInts
  p63 : ∀ w0 k x, S.prd 63 w0 k x = rsN (kRow k.toRows 0) (kRow k.toRows 1) (kRow k.toRows 2) (kRow k.toRows 3) (kRow k.toRows 4) x.toInts
  u240 : ∀ a b c d, S.usr 240 a b c d = .ints (a.toInts.erase b.toInt)
  u241 : ∀ a b c d, S.usr 241 a b c d = .bool (propB (b.toInt ∈ a.toInts))
  u242 : ∀ a b c d, S.usr 242 a b c d = .ints (a.toRows.map g0)
  u243 : ∀ a b c d, S.usr 243 a b c d = .ints (a.toInts ++ [b.toInt])
  u244 : ∀ a b c d, S.usr 244 a b c d = .int (((a.toInt :: b.toInts).idxOf c.toInt : Nat))
  u245 : ∀ a b c d, S.usr 245 a b c d = .int ((b.toInts ++ [a.toInt]).idxOf c.toInt : Nat)
  u246 : ∀ a b c d, S.usr 246 a b c d = .bool (propB ((a.toInt :: b.toInts).Nodup))
  u247 : ∀ a b c d, S.usr 247 a b c d = .int ((b.toInts ++ [a.toInt]).getD ((a.toInt :: b.toInts).idxOf c.toInt) 0)
  u248 : ∀ a b c d, S.usr 248 a b c d = .bool (propB (c.toInt ∈ a.toInt :: b.toInts))
  u249 : ∀ a b c d, S.usr 249 a b c d = .bool (propB (∀ y ∈ a.toInt :: b.toInts, 0 ≤ y))
  p64 : ∀ w0 k x, S.prd 64 w0 k x = rs2 (kRow k.toRows 0) (kRow k.toRows 1) (kRow k.toRows 2) (kRow k.toRows 3) (kRow k.toRows 4) (kRow k.toRows 5) x.toInts
theorem RgSig.of {S T : Sig GG} (h : RgSig S) (hu : T.usr = S.usr) (hp : T.prd = S.prd) : RgSig T := by
  constructor
  all_goals first | (rw [hu]; first | exact h.u240 | exact h.u241 | exact h.u242 | exact h.u243 | exact h.u244 | exact h.u245 | exact h.u246 | exact h.u247 | exact h.u248 | exact h.u249) | (rw [hp]; first | exact h.p60 | exact h.p61 | exact h.p62 | exact h.p63 | exact h.p64)
def pC (b : SX) : SC := .ptr b 0
def ndC (x a b : SX) : Ch := .cel x 0 [pC a, pC b]
def rgC (H x : SX) : Ch := .prd 60 H x
def rsOC (H l p q pa qb x : SX) : Ch := .prd 61 (cons1 (ints6 H l p q pa qb) nilR) x
def rsLC (H z hb za x : SX) : Ch := .prd 62 (cons1 (ints4 H z hb za) nilR) x
def rsNC (H i x a b xs : SX) : Ch := .prd 63 (cons1 (ints5 H i x a b) nilR) xs
def erX (x l : SX) : SX := usN 240 x l z0
def hasX (x l : SX) : SX := usB 241 x l z0
def snX (x l : SX) : SX := usN 243 x l z0
/-- One link alone: 0 it; 1 the row's end; 2 the row. -/
def op1C : Ctr := ⟨[.int, .int, .ints], [.one (.ptr (ai 0) 0)], [rgC (ai 1) (iA 2)], [hasX (iA 2) (ai 0), .f2 45 (lenI (iA 2)) (.int 1)], [], .tup [], [ndC (ai 0) (ai 1) (ai 1), ndC (ai 1) (ai 0) (ai 0)], [eqS (iA 2) (snX nilI (ai 0))]⟩
/-- .. with others: 3, 4 ahead and behind; 5, 6 what is beyond. -/
def op2C : Ctr := ⟨[.int, .int, .ints], [.one (.ptr (ai 0) 0)], [rgC (ai 1) (iA 2)], [hasX (iA 2) (ai 0), .f1 2 (.f2 45 (lenI (iA 2)) (.int 1))], [.int, .int, .int, .int], .tup [],
  [ndC (ai 0) (ai 3) (ai 4), ndC (ai 3) (ai 5) (ai 0), ndC (ai 4) (ai 0) (ai 6), rsOC (ai 1) (ai 0) (ai 3) (ai 4) (ai 5) (ai 6) (iA 2)], []⟩
def sh1C : Ctr := ⟨[.int], [.one (.ptr (ai 0) 0)], [ndC (ai 0) (ai 0) (ai 0)], [], [], .tup [], [rgC (ai 0) nilI], []⟩
def sh2C : Ctr := ⟨[.int, .int, .int, .int, .int, .int, .ints], [.one (.ptr (ai 0) 0), .one (.ptr (ai 1) 0)], [ndC (ai 0) (ai 2) (ai 1), ndC (ai 1) (ai 0) (ai 3), rsOC (ai 4) (ai 5) (ai 0) (ai 1) (ai 2) (ai 3) (iA 6)], [], [], .tup [], [rgC (ai 4) (erX (iA 6) (ai 5))], []⟩
/-- The row's end: 0; 1 the row. -/
def oe1C : Ctr := ⟨[.int, .ints], [.one (.ptr (ai 0) 0)], [rgC (ai 0) (iA 1)], [.f2 45 (lenI (iA 1)) z0], [], .tup [], [ndC (ai 0) (ai 0) (ai 0)], [eqS (iA 1) nilI]⟩
def oe2C : Ctr := ⟨[.int, .ints], [.one (.ptr (ai 0) 0)], [rgC (ai 0) (iA 1)], [.f1 2 (.f2 45 (lenI (iA 1)) z0)], [.int, .int, .int], .tup [], [ndC (ai 0) (ai 2) (ai 3), ndC (ai 2) (ai 4) (ai 0), rsLC (ai 0) (ai 2) (ai 3) (ai 4) (iA 1)], []⟩
def se1C : Ctr := ⟨[.int, .int], [.one (.ptr (ai 0) 0), .one (.ptr (ai 1) 0)], [ndC (ai 0) (ai 1) (ai 1), ndC (ai 1) (ai 0) (ai 0)], [], [], .tup [], [rgC (ai 1) (snX nilI (ai 0))], []⟩
def se2C : Ctr := ⟨[.int, .int, .int, .int, .int, .ints], [.one (.ptr (ai 0) 0), .one (.ptr (ai 1) 0), .one (.ptr (ai 2) 0)], [ndC (ai 0) (ai 2) (ai 1), ndC (ai 2) (ai 3) (ai 0), ndC (ai 1) (ai 0) (ai 4), rsLC (ai 1) (ai 2) (ai 4) (ai 3) (iA 5)], [], [], .tup [], [rgC (ai 1) (snX (iA 5) (ai 0))], []⟩
/-- One link of the row, or its end: 0 it; 1 the end; 2 the row; 3 ahead. -/
def onPost (x : SX) : List Ch := [ndC x (ai 3) (usI 247 (ai 1) (iA 2) x), rsNC (ai 1) (usI 244 (ai 1) (iA 2) x) x (ai 3) (usI 247 (ai 1) (iA 2) x) (iA 2)]
def onC : Ctr := ⟨[.int, .int, .ints], [.one (.ptr (ai 0) 0)], [rgC (ai 1) (iA 2)], [usB 248 (ai 1) (iA 2) (ai 0)], [.int], .tup [], onPost (ai 0), []⟩
def onHC : Ctr := ⟨[.int, .int, .ints], [.one (.ptr (ai 0) 0)], [rgC (ai 1) (iA 2)], [], [.int], .tup [], onPost (ai 1), []⟩
def shNC : Ctr := ⟨[.int, .int, .int, .int, .int, .ints], [], [rsNC (ai 0) (ai 1) (ai 2) (ai 3) (ai 4) (iA 5), ndC (ai 2) (ai 3) (ai 4)], [], [], .tup [], [rgC (ai 0) (iA 5)], []⟩
/-- No link twice. -/
def ndRC : Ctr := ⟨[.int, .ints], [], [rgC (ai 0) (iA 1)], [], [], .tup [], [rgC (ai 0) (iA 1)], [usB 246 (ai 0) (iA 1) z0, usB 249 (ai 0) (iA 1) z0]⟩
def rs2C (H l a b c d x : SX) : Ch := .prd 64 (cons1 (ints6 H l a b c d) nilR) x
/-- A link and the row's end. -/
def on2C : Ctr := ⟨[.int, .int, .ints], [.one (.ptr (ai 0) 0)], [rgC (ai 1) (iA 2)], [usB 248 (ai 1) (iA 2) (ai 0), .f1 2 (.f2 45 (ai 0) (ai 1))], [.int, .int, .int, .int], .tup [],
  [ndC (ai 0) (ai 3) (ai 4), ndC (ai 1) (ai 5) (ai 6), rs2C (ai 1) (ai 0) (ai 3) (ai 4) (ai 5) (ai 6) (iA 2)], []⟩
def sn2C : Ctr := ⟨[.int, .int, .int, .int, .int, .int, .ints], [], [rs2C (ai 1) (ai 0) (ai 2) (ai 3) (ai 4) (ai 5) (iA 6), ndC (ai 0) (ai 2) (ai 3), ndC (ai 1) (ai 4) (ai 5)], [], [], .tup [], [rgC (ai 1) (iA 6)], []⟩
theorem ndC_den (T : Sig GG) (ρ : Go.Eng.Env GG) (w0 : World) (x a b : SX) : (ndC x a b).den T ρ w0 = nodeH (x.den T ρ).toInt (a.den T ρ).toInt (b.den T ρ).toInt := by
  simp only [ndC, pC, Ch.den, List.map_cons, List.map_nil, SC.den, reduceCtorEq]
  rfl
theorem op1_gh (S : Sig GG) (hS : RgSig S) : GhOk S op1C := by
  refine gh_mk S fun T w0 ρ h hu hp hd hr hpre => ?_
  have hT := hS.of hu hp
  have e1 : hpDen T ρ w0 op1C.pre = star (T.prd 60 w0 ((ai 1).den T ρ) ((iA 2).den T ρ)) emp := rfl
  have e2 : hpDen T ρ w0 op1C.post = star ((ndC (ai 0) (ai 1) (ai 1)).den T ρ w0) (star ((ndC (ai 1) (ai 0) (ai 0)).den T ρ w0) emp) := rfl
  have r0 := hr (hasX (iA 2) (ai 0)) (by simp [op1C])
  have r1 := hr (.f2 45 (lenI (iA 2)) (.int 1)) (by simp [op1C])
  simp only [hasX, usB, lenI, SX.den, iA, ai, hT.u241, co_int, co_ints, co_bool, U.toProp_bool, U.toBool_bool, U.toInt_int, U.toInts_ints, p45, ap1_30, propB_iff] at r0 r1
  obtain ⟨l, hl⟩ : ∃ l, (ρ 2).toInts = [l] := List.length_eq_one_iff.1 (by omega)
  have hl : (ρ 2).toInts = [(ρ 0).toInt] := by rw [hl] at r0 ⊢; rw [List.mem_singleton.1 r0]
  rw [e1, star_emp, hT.p60] at hpre
  have k1 : ((iA 2).den T ρ).toInts = (ρ 2).toInts := rfl
  rw [k1, hl, out_one] at hpre
  refine ⟨ρ, Ext.refl _ _, ?_, ?_⟩
  · rw [e2, star_emp, ndC_den, ndC_den]; exact hpre
  · intro q hq
    simp only [op1C, List.mem_singleton] at hq
    subst hq
    simp only [eqS, snX, usN, nilI, SX.den, iA, ai, hT.u243, co_int, co_ints, U.toInt_int, U.toInts_ints, p155, ap1_152, U.ints.injEq]
    rw [hl]; rfl
theorem op2_gh (S : Sig GG) (hS : RgSig S) : GhOk S op2C := by
  refine gh_mk S fun T w0 ρ h hu hp hd hr hpre => ?_
  have hT := hS.of hu hp
  have e1 : hpDen T ρ w0 op2C.pre = star (T.prd 60 w0 ((ai 1).den T ρ) ((iA 2).den T ρ)) emp := rfl
  have e2 : ∀ ρ', hpDen T ρ' w0 op2C.post = star ((ndC (ai 0) (ai 3) (ai 4)).den T ρ' w0) (star ((ndC (ai 3) (ai 5) (ai 0)).den T ρ' w0) (star ((ndC (ai 4) (ai 0) (ai 6)).den T ρ' w0) (star (T.prd 61 w0 ((cons1 (ints6 (ai 1) (ai 0) (ai 3) (ai 4) (ai 5) (ai 6)) nilR).den T ρ') ((iA 2).den T ρ')) emp))) := fun _ => rfl
  have r0 := hr (hasX (iA 2) (ai 0)) (by simp [op2C])
  have r1 := hr (.f1 2 (.f2 45 (lenI (iA 2)) (.int 1))) (by simp [op2C])
  simp only [hasX, usB, lenI, SX.den, iA, ai, hT.u241, co_int, co_ints, co_bool, U.toProp_bool, U.toBool_bool, U.toInt_int, U.toInts_ints, p2_45, ap1_30, propB_iff] at r0 r1
  have hl : 2 ≤ (ρ 2).toInts.length := by
    have := List.length_pos_of_mem r0
    omega
  rw [e1, star_emp, hT.p60] at hpre
  obtain ⟨p, q, pa, qb, hh⟩ := out_open (H := (ρ 1).toInt) r0 hl hpre
  refine ⟨(((ρ.upd 3 (.int p)).upd 4 (.int q)).upd 5 (.int pa)).upd 6 (.int qb), ?_, ?_, (fun x hx => nomatch hx)⟩
  · intro i hi
    have hi : i < 3 := hi
    simp only [Env.upd]
    repeat rw [if_neg (by omega)]
  · rw [e2, star_emp, ndC_den, ndC_den, ndC_den, hT.p61]; exact hh
theorem sh1_gh (S : Sig GG) (hS : RgSig S) : GhOk S sh1C := by
  refine gh_mk S fun T w0 ρ h hu hp hd hr hpre => ⟨ρ, Ext.refl _ _, ?_, (fun x hx => nomatch hx)⟩
  have hT := hS.of hu hp
  have e1 : hpDen T ρ w0 sh1C.pre = star ((ndC (ai 0) (ai 0) (ai 0)).den T ρ w0) emp := rfl
  have e2 : hpDen T ρ w0 sh1C.post = star (T.prd 60 w0 ((ai 0).den T ρ) (nilI.den T ρ)) emp := rfl
  rw [e1, star_emp, ndC_den] at hpre
  rw [e2, star_emp, hT.p60]
  show ringH _ [] h
  rw [ring_nil]; exact hpre
theorem sh2_gh (S : Sig GG) (hS : RgSig S) : GhOk S sh2C := by
  refine gh_mk S fun T w0 ρ h hu hp hd hr hpre => ⟨ρ, Ext.refl _ _, ?_, (fun x hx => nomatch hx)⟩
  have hT := hS.of hu hp
  have e1 : hpDen T ρ w0 sh2C.pre = star ((ndC (ai 0) (ai 2) (ai 1)).den T ρ w0) (star ((ndC (ai 1) (ai 0) (ai 3)).den T ρ w0) (star (T.prd 61 w0 ((cons1 (ints6 (ai 4) (ai 5) (ai 0) (ai 1) (ai 2) (ai 3)) nilR).den T ρ) ((iA 6).den T ρ)) emp)) := rfl
  have e2 : hpDen T ρ w0 sh2C.post = star (T.prd 60 w0 ((ai 4).den T ρ) ((erX (iA 6) (ai 5)).den T ρ)) emp := rfl
  rw [e1, star_emp, ndC_den, ndC_den, hT.p61] at hpre
  rw [e2, star_emp, hT.p60]
  have k : ((erX (iA 6) (ai 5)).den T ρ).toInts = (ρ 6).toInts.erase (ρ 5).toInt := by
    simp only [erX, usN, SX.den, hT.u240, co_ints, U.toInts_ints, iA, ai, co_int, U.toInt_int]
  rw [k]
  exact out_shut hpre
theorem oe1_gh (S : Sig GG) (hS : RgSig S) : GhOk S oe1C := by
  refine gh_mk S fun T w0 ρ h hu hp hd hr hpre => ?_
  have hT := hS.of hu hp
  have e1 : hpDen T ρ w0 oe1C.pre = star (T.prd 60 w0 ((ai 0).den T ρ) ((iA 1).den T ρ)) emp := rfl
  have e2 : hpDen T ρ w0 oe1C.post = star ((ndC (ai 0) (ai 0) (ai 0)).den T ρ w0) emp := rfl
  have r1 := hr (.f2 45 (lenI (iA 1)) z0) (by simp [oe1C])
  simp only [lenI, SX.den, iA, z0, co_ints, U.toInt_int, U.toInts_ints, p45, ap1_30] at r1
  have hl : (ρ 1).toInts = [] := List.eq_nil_of_length_eq_zero (by omega)
  rw [e1, star_emp, hT.p60] at hpre
  have k1 : ((iA 1).den T ρ).toInts = (ρ 1).toInts := rfl
  rw [k1, hl, ring_nil] at hpre
  refine ⟨ρ, Ext.refl _ _, ?_, ?_⟩
  · rw [e2, star_emp, ndC_den]; exact hpre
  · intro q hq
    simp only [oe1C, List.mem_singleton] at hq
    subst hq
    simp only [eqS, nilI, SX.den, iA, co_ints, U.toInts_ints, p155, ap1_152, U.ints.injEq]
    exact hl
theorem oe2_gh (S : Sig GG) (hS : RgSig S) : GhOk S oe2C := by
  refine gh_mk S fun T w0 ρ h hu hp hd hr hpre => ?_
  have hT := hS.of hu hp
  have e1 : hpDen T ρ w0 oe2C.pre = star (T.prd 60 w0 ((ai 0).den T ρ) ((iA 1).den T ρ)) emp := rfl
  have e2 : ∀ ρ', hpDen T ρ' w0 oe2C.post = star ((ndC (ai 0) (ai 2) (ai 3)).den T ρ' w0) (star ((ndC (ai 2) (ai 4) (ai 0)).den T ρ' w0) (star (T.prd 62 w0 ((cons1 (ints4 (ai 0) (ai 2) (ai 3) (ai 4)) nilR).den T ρ') ((iA 1).den T ρ')) emp)) := fun _ => rfl
  have r1 := hr (.f1 2 (.f2 45 (lenI (iA 1)) z0)) (by simp [oe2C])
  simp only [lenI, SX.den, iA, z0, co_ints, U.toInt_int, U.toInts_ints, p2_45, ap1_30] at r1
  have hl : (ρ 1).toInts ≠ [] := by intro e; rw [e] at r1; exact r1 rfl
  rw [e1, star_emp, hT.p60] at hpre
  obtain ⟨z, hb, za, hh⟩ := last_open (H := (ρ 0).toInt) hl hpre
  refine ⟨((ρ.upd 2 (.int z)).upd 3 (.int hb)).upd 4 (.int za), ?_, ?_, (fun x hx => nomatch hx)⟩
  · intro i hi
    have hi : i < 2 := hi
    simp only [Env.upd]
    repeat rw [if_neg (by omega)]
  · rw [e2, star_emp, ndC_den, ndC_den, hT.p62]; exact hh
theorem se1_gh (S : Sig GG) (hS : RgSig S) : GhOk S se1C := by
  refine gh_mk S fun T w0 ρ h hu hp hd hr hpre => ⟨ρ, Ext.refl _ _, ?_, (fun x hx => nomatch hx)⟩
  have hT := hS.of hu hp
  have e1 : hpDen T ρ w0 se1C.pre = star ((ndC (ai 0) (ai 1) (ai 1)).den T ρ w0) (star ((ndC (ai 1) (ai 0) (ai 0)).den T ρ w0) emp) := rfl
  have e2 : hpDen T ρ w0 se1C.post = star (T.prd 60 w0 ((ai 1).den T ρ) ((snX nilI (ai 0)).den T ρ)) emp := rfl
  rw [e1, star_emp, ndC_den, ndC_den] at hpre
  rw [e2, star_emp, hT.p60]
  have k : ((snX nilI (ai 0)).den T ρ).toInts = [] ++ [(ρ 0).toInt] := by
    simp only [snX, nilI, usN, SX.den, hT.u243, co_ints, U.toInts_ints, ai, co_int, U.toInt_int, ap1_152]
  rw [k, ← last_one]
  exact hpre
theorem se2_gh (S : Sig GG) (hS : RgSig S) : GhOk S se2C := by
  refine gh_mk S fun T w0 ρ h hu hp hd hr hpre => ⟨ρ, Ext.refl _ _, ?_, (fun x hx => nomatch hx)⟩
  have hT := hS.of hu hp
  have e1 : hpDen T ρ w0 se2C.pre = star ((ndC (ai 0) (ai 2) (ai 1)).den T ρ w0) (star ((ndC (ai 2) (ai 3) (ai 0)).den T ρ w0) (star ((ndC (ai 1) (ai 0) (ai 4)).den T ρ w0) (star (T.prd 62 w0 ((cons1 (ints4 (ai 1) (ai 2) (ai 4) (ai 3)) nilR).den T ρ) ((iA 5).den T ρ)) emp))) := rfl
  have e2 : hpDen T ρ w0 se2C.post = star (T.prd 60 w0 ((ai 1).den T ρ) ((snX (iA 5) (ai 0)).den T ρ)) emp := rfl
  rw [e1, star_emp, ndC_den, ndC_den, ndC_den, hT.p62] at hpre
  rw [e2, star_emp, hT.p60]
  have k : ((snX (iA 5) (ai 0)).den T ρ).toInts = (ρ 5).toInts ++ [(ρ 0).toInt] := by
    simp only [snX, usN, SX.den, hT.u243, co_ints, U.toInts_ints, ai, iA, co_int, U.toInt_int]
  rw [k]
  exact last_shut hpre
theorem node_lk {H x : Int} {xs : List Int} {h : Hl} (hm : x ∈ H :: xs) (hr : ringH H xs h) : ∃ a, star (nodeH x a ((xs ++ [H]).getD ((H :: xs).idxOf x) 0)) (rsN H ((H :: xs).idxOf x : Nat) x a ((xs ++ [H]).getD ((H :: xs).idxOf x) 0) xs) h := by
  have hi := List.idxOf_lt_length_of_mem hm
  have hx : (H :: xs).getD ((H :: xs).idxOf x) 0 = x := by rw [List.getD_eq_getElem?_getD, List.getElem?_eq_getElem hi, Option.getD_some, List.getElem_idxOf]
  obtain ⟨a, ha⟩ := node_open (i := ((H :: xs).idxOf x : Nat)) (by omega) (by rw [List.length_cons] at hi; omega) hr
  rw [Int.toNat_natCast, hx] at ha
  exact ⟨a, ha⟩
theorem onG (S : Sig GG) (hS : RgSig S) (sp : Ctr) (x : SX) (hx : x = ai 0 ∨ x = ai 1) (e1 : sp.ss = [.int, .int, .ints]) (e2 : sp.pre = [rgC (ai 1) (iA 2)]) (e3 : sp.post = onPost x) (e4 : sp.facts = [])
    (hm : ∀ (T : Sig GG) (ρ : Go.Eng.Env GG), RgSig T → (∀ e ∈ sp.reqs, (e.den T ρ).toProp) → (x.den T ρ).toInt ∈ (ρ 1).toInt :: (ρ 2).toInts) : GhOk S sp := by
  refine gh_mk S fun T w0 ρ h hu hp hd hr hpre => ?_
  have hT := hS.of hu hp
  have f1 : hpDen T ρ w0 sp.pre = star (T.prd 60 w0 ((ai 1).den T ρ) ((iA 2).den T ρ)) emp := by rw [e2]; rfl
  have f2 : ∀ ρ', hpDen T ρ' w0 sp.post = star ((ndC x (ai 3) (usI 247 (ai 1) (iA 2) x)).den T ρ' w0) (star (T.prd 63 w0 ((cons1 (ints5 (ai 1) (usI 244 (ai 1) (iA 2) x) x (ai 3) (usI 247 (ai 1) (iA 2) x)) nilR).den T ρ') ((iA 2).den T ρ')) emp) := by intro; rw [e3]; rfl
  rw [f1, star_emp, hT.p60] at hpre
  obtain ⟨a, ha⟩ := node_lk (H := (ρ 1).toInt) (hm T ρ hT hr) hpre
  refine ⟨ρ.upd 3 (.int a), by rw [e1]; exact Ext.upd _ _, ?_, by rw [e4]; exact fun q hq => nomatch hq⟩
  have hxd : (x.den T (ρ.upd 3 (.int a))).toInt = (x.den T ρ).toInt := by rcases hx with rfl | rfl <;> rfl
  have w7 : (usI 247 (ai 1) (iA 2) x).den T (ρ.upd 3 (.int a)) = .int (((ρ 2).toInts ++ [(ρ 1).toInt]).getD (((ρ 1).toInt :: (ρ 2).toInts).idxOf (x.den T ρ).toInt) 0) := by
    simp only [usI, SX.den, hT.u247, co_int, U.toInt_int, hxd]; rfl
  have w4 : (usI 244 (ai 1) (iA 2) x).den T (ρ.upd 3 (.int a)) = .int ((((ρ 1).toInt :: (ρ 2).toInts).idxOf (x.den T ρ).toInt : Nat)) := by
    simp only [usI, SX.den, hT.u244, co_int, U.toInt_int, hxd]; rfl
  have kk : ((cons1 (ints5 (ai 1) (usI 244 (ai 1) (iA 2) x) x (ai 3) (usI 247 (ai 1) (iA 2) x)) nilR).den T (ρ.upd 3 (.int a))).toRows = [[(ρ 1).toInt, ((usI 244 (ai 1) (iA 2) x).den T (ρ.upd 3 (.int a))).toInt, (x.den T (ρ.upd 3 (.int a))).toInt, a, ((usI 247 (ai 1) (iA 2) x).den T (ρ.upd 3 (.int a))).toInt]] := rfl
  rw [f2, star_emp, ndC_den, hT.p63, kk, w7, w4, hxd]
  exact ha
theorem on_gh (S : Sig GG) (hS : RgSig S) : GhOk S onC := by
  refine onG S hS onC (ai 0) (.inl rfl) rfl rfl rfl rfl fun T ρ hT hr => ?_
  have r0 := hr (usB 248 (ai 1) (iA 2) (ai 0)) (by simp [onC])
  simpa only [usB, SX.den, hT.u248, co_int, co_ints, co_bool, iA, ai, U.toProp_bool, U.toBool_bool, U.toInt_int, U.toInts_ints, propB_iff] using r0
theorem onH_gh (S : Sig GG) (hS : RgSig S) : GhOk S onHC :=
  onG S hS onHC (ai 1) (.inr rfl) rfl rfl rfl rfl fun T ρ hT hr => List.mem_cons_self
theorem shN_gh (S : Sig GG) (hS : RgSig S) : GhOk S shNC := by
  refine gh_mk S fun T w0 ρ h hu hp hd hr hpre => ⟨ρ, Ext.refl _ _, ?_, (fun x hx => nomatch hx)⟩
  have hT := hS.of hu hp
  have e1 : hpDen T ρ w0 shNC.pre = star (T.prd 63 w0 ((cons1 (ints5 (ai 0) (ai 1) (ai 2) (ai 3) (ai 4)) nilR).den T ρ) ((iA 5).den T ρ)) (star ((ndC (ai 2) (ai 3) (ai 4)).den T ρ w0) emp) := rfl
  have e2 : hpDen T ρ w0 shNC.post = star (T.prd 60 w0 ((ai 0).den T ρ) ((iA 5).den T ρ)) emp := rfl
  rw [e1, star_emp, ndC_den, hT.p63, star_comm] at hpre
  rw [e2, star_emp, hT.p60]
  exact node_shut hpre
theorem nodeH_sep {x a b c d : Int} {A : HProp} {h : Hl} (hr : star (nodeH x a b) (star (nodeH x c d) A) h) : False := by
  obtain ⟨p, q, hd, _, ⟨_, rfl⟩, r, s, hd2, rfl, ⟨_, rfl⟩, _⟩ := hr
  have h1 : rowH x.toNat 0 [pV a, pV b] true x.toNat 0 = some (.val (pV a) true) := rowH_get (i := 0) (by simp)
  have h2 : rowH x.toNat 0 [pV c, pV d] true x.toNat 0 = some (.val (pV c) true) := rowH_get (i := 0) (by simp)
  rcases hd x.toNat 0 with e | e
  · rw [h1] at e; cases e
  · unfold Hl.un at e; rw [h2] at e; cases e
theorem dlS_mem {x : Int} : ∀ {p : Int} {xs : List Int} {n : Int} {h : Hl}, x ∈ xs → dlS p xs n h → ∃ a b A, star (nodeH x a b) A h
  | p, y :: xs, n, h, hm, hr => by
    rcases List.mem_cons.1 hm with rfl | hm
    · exact ⟨_, _, _, hr⟩
    · obtain ⟨u, v, d, rfl, hu, hv⟩ := hr
      obtain ⟨a, b, A, hA⟩ := dlS_mem hm hv
      refine ⟨a, b, star (nodeH y p (xs.headD n)) A, ?_⟩
      rw [star_left_comm]
      exact ⟨u, v, d, rfl, hu, hA⟩
theorem dlS_nod : ∀ {p : Int} {xs : List Int} {n : Int} {h : Hl}, dlS p xs n h → xs.Nodup
  | _, [], _, _, _ => List.nodup_nil
  | _, x :: xs, _, h, hr => by
    rw [List.nodup_cons]
    obtain ⟨u, v, d, rfl, hu, hv⟩ := hr
    refine ⟨fun hm => ?_, dlS_nod hv⟩
    obtain ⟨a, b, A, hA⟩ := dlS_mem hm hv
    exact nodeH_sep ⟨u, v, d, rfl, hu, hA⟩
theorem dlS_pos : ∀ {p : Int} {xs : List Int} {n : Int} {h : Hl}, dlS p xs n h → ∀ y ∈ xs, 0 ≤ y
  | _, x :: xs, _, h, hr, y, hy => by
    obtain ⟨u, v, d, rfl, ⟨hu, _⟩, hv⟩ := hr
    rcases List.mem_cons.1 hy with rfl | hy
    · simpa using hu
    · exact dlS_pos hv y hy
theorem ndR_gh (S : Sig GG) (hS : RgSig S) : GhOk S ndRC := by
  refine gh_mk S fun T w0 ρ h hu hp hd hr hpre => ⟨ρ, Ext.refl _ _, hpre, ?_⟩
  have hT := hS.of hu hp
  have e1 : hpDen T ρ w0 ndRC.pre = star (T.prd 60 w0 ((ai 0).den T ρ) ((iA 1).den T ρ)) emp := rfl
  rw [e1, star_emp, hT.p60] at hpre
  have hn : ((ρ 0).toInt :: (ρ 1).toInts).Nodup := dlS_nod hpre
  have hq0 : ∀ y ∈ (ρ 0).toInt :: (ρ 1).toInts, 0 ≤ y := dlS_pos hpre
  intro q hq
  simp only [ndRC, List.mem_cons, List.not_mem_nil, or_false] at hq
  rcases hq with rfl | rfl
  · simp only [usB, SX.den, hT.u246, co_int, co_ints, co_bool, iA, ai, U.toProp_bool, U.toBool_bool, U.toInt_int, U.toInts_ints, propB_iff]
    exact hn
  · simp only [usB, SX.den, hT.u249, co_int, co_ints, co_bool, iA, ai, U.toProp_bool, U.toBool_bool, U.toInt_int, U.toInts_ints, propB_iff]
    exact hq0
theorem dlS_pick {x : Int} : ∀ {p : Int} {xs : List Int} {n : Int}, x ∈ xs → ∃ a b A, dlS p xs n = star (nodeH x a b) A
  | p, y :: xs, n, hm => by
    rcases List.mem_cons.1 hm with rfl | hm
    · exact ⟨_, _, _, rfl⟩
    · obtain ⟨a, b, A, hA⟩ := dlS_pick (p := y) (n := n) hm
      refine ⟨a, b, star (nodeH y p (xs.headD n)) A, ?_⟩
      rw [star_left_comm, ← hA]; rfl
theorem on2_gh (S : Sig GG) (hS : RgSig S) : GhOk S on2C := by
  refine gh_mk S fun T w0 ρ h hu hp hd hr hpre => ?_
  have hT := hS.of hu hp
  have e1 : hpDen T ρ w0 on2C.pre = star (T.prd 60 w0 ((ai 1).den T ρ) ((iA 2).den T ρ)) emp := rfl
  have e2 : ∀ ρ', hpDen T ρ' w0 on2C.post = star ((ndC (ai 0) (ai 3) (ai 4)).den T ρ' w0) (star ((ndC (ai 1) (ai 5) (ai 6)).den T ρ' w0) (star (T.prd 64 w0 ((cons1 (ints6 (ai 1) (ai 0) (ai 3) (ai 4) (ai 5) (ai 6)) nilR).den T ρ') ((iA 2).den T ρ')) emp)) := fun _ => rfl
  have r0 := hr (usB 248 (ai 1) (iA 2) (ai 0)) (by simp [on2C])
  have r1 := hr (.f1 2 (.f2 45 (ai 0) (ai 1))) (by simp [on2C])
  simp only [usB, SX.den, hT.u248, co_int, co_ints, co_bool, iA, ai, U.toProp_bool, U.toBool_bool, U.toInt_int, U.toInts_ints, propB_iff, p2_45] at r0 r1
  have hm : (ρ 0).toInt ∈ (ρ 2).toInts := by
    rcases List.mem_cons.1 r0 with e | e
    · exact absurd e r1
    · exact e
  rw [e1, star_emp, hT.p60] at hpre
  obtain ⟨a, b, A, hA⟩ := dlS_pick (p := (ρ 1).toInt) (n := (ρ 1).toInt) hm
  have hE : ringH (ρ 1).toInt (ρ 2).toInts = star (nodeH (ρ 0).toInt a b) (star (nodeH (ρ 1).toInt ((ρ 2).toInts.getLastD (ρ 1).toInt) ((ρ 2).toInts.headD (ρ 1).toInt)) A) := by
    show ringC ([] ++ (ρ 1).toInt :: (ρ 2).toInts) = _
    rw [ring_one, List.append_nil, hA, star_left_comm]
  refine ⟨(((ρ.upd 3 (.int a)).upd 4 (.int b)).upd 5 (.int ((ρ 2).toInts.getLastD (ρ 1).toInt))).upd 6 (.int ((ρ 2).toInts.headD (ρ 1).toInt)), ?_, ?_, (fun x hx => nomatch hx)⟩
  · intro i hi
    have hi : i < 3 := hi
    simp only [Env.upd]
    repeat rw [if_neg (by omega)]
  · rw [e2, star_emp, ndC_den, ndC_den, hT.p64]
    have hpre : ringH (ρ 1).toInt (ρ 2).toInts h := hpre
    rw [hE] at hpre
    exact star_right hpre fun h hh => star_right hh fun h hh => ⟨A, hE, hh⟩
theorem sn2_gh (S : Sig GG) (hS : RgSig S) : GhOk S sn2C := by
  refine gh_mk S fun T w0 ρ h hu hp hd hr hpre => ⟨ρ, Ext.refl _ _, ?_, (fun x hx => nomatch hx)⟩
  have hT := hS.of hu hp
  have e1 : hpDen T ρ w0 sn2C.pre = star (T.prd 64 w0 ((cons1 (ints6 (ai 1) (ai 0) (ai 2) (ai 3) (ai 4) (ai 5)) nilR).den T ρ) ((iA 6).den T ρ)) (star ((ndC (ai 0) (ai 2) (ai 3)).den T ρ w0) (star ((ndC (ai 1) (ai 4) (ai 5)).den T ρ w0) emp)) := rfl
  have e2 : hpDen T ρ w0 sn2C.post = star (T.prd 60 w0 ((ai 1).den T ρ) ((iA 6).den T ρ)) emp := rfl
  rw [e1, star_emp, ndC_den, ndC_den, hT.p64, star_comm, star_assoc] at hpre
  rw [e2, star_emp, hT.p60]
  obtain ⟨a, b, d, rfl, ha, c, e, d2, rfl, hc, A, hE, hA⟩ := hpre
  have hE : ringH ((ai 1).den T ρ).toInt ((iA 6).den T ρ).toInts = _ := hE
  rw [hE]
  exact ⟨a, _, d, rfl, ha, c, e, d2, rfl, hc, hA⟩
end
end Go.Proofs.Ytlcfjjjdhdfbdaa
