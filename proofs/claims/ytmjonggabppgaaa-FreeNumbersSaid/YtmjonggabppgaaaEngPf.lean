/- The operations that write: that the symbolic run is the model's. Part 7: calls of built-in functions. -/
import Derived.Test.YtmjonggabppgaaaEngPe
set_option linter.unusedSimpArgs false
set_option linter.unusedVariables false
namespace Go.Eng
open Go.RowKit (Below)
section
variable {G : Type} (S : Sig G) (ρ : Env G) (w0 : World) {P : Program}
theorem exec_builtin {o : Oper} {c : Call} {b : Builtin} {ev : Operand → Value} (ho : o.op = .call c) (hc : c.callee = .builtin b) (w : World) :
    ∃ consts, (execOp ev o).run P w = (builtin b c.argTypes o.type consts (c.args.map ev)).run P w := by
  refine ⟨c.args.map fun | .const _ => true | _ => false, ?_⟩
  unfold execOp
  rw [ho]
  simp only [resolve, hc, Sem.run_bind, Sem.run_pure, Result.andThen_ok, invoke]
  rfl

theorem posFact_den {b n : SX} (h : 0 ≤ (b.den S ρ).toInt ∨ (n.den S ρ).toInt = 0) : ((posFact b n).den S ρ).toProp := by
  unfold posFact
  split
  · rename_i k
    rw [eLe_den]
    rcases h with h | h
    · simpa [SX.den] using h
    · simp [SX.den] at h; omega
  · simp only [SX.den, ap2]
    rw [eLe_bool, eEq_bool]
    simp [SX.den, U.toProp]
    exact h.imp (fun h => decide_eq_true h) id

theorem store_in {w0 w : World} {H : HProp} {b p s : Nat} {A spare new : List Value} (hsat : Sat w0 (star (row b 0 (A ++ spare) true) H) w) (hp : p * s ≤ A.length) (hfit : p * s + new.length ≤ A.length + spare.length) (hone : ∀ v ∈ new, oneV v = true) :
    ∃ w' spare', (storeCells ⟨b, 0 + p * s, none⟩ new).run P w = .ok () w' ∧ (A.take (p * s) ++ (new ++ A.drop (p * s + new.length)) ++ spare').length = (A ++ spare).length ∧
      Sat w0 (star (row b 0 (A.take (p * s) ++ (new ++ A.drop (p * s + new.length)) ++ spare') true) H) w' := by
  obtain ⟨w', hrun, hs'⟩ := storeCells_run (P := P) w0 b 0 (p * s) true H new 0 (A ++ spare) w hsat (by rw [List.length_append]; omega) hone
  have e : (A ++ spare).take (p * s + 0) ++ new ++ (A ++ spare).drop (p * s + 0 + new.length) = A.take (p * s) ++ (new ++ A.drop (p * s + new.length)) ++ spare.drop (p * s + new.length - A.length) := by
    rw [Nat.add_zero, List.take_append_of_le_length hp, List.drop_append, List.append_assoc, List.append_assoc, List.append_assoc]
  rw [e] at hs'
  refine ⟨w', spare.drop (p * s + new.length - A.length), hrun, ?_, hs'⟩
  simp only [List.length_append, List.length_take, List.length_drop]
  omega
theorem lop_appendIn {F : HProp} {st : St} {w : World} {K : SV → St → VC} {ev : Operand → Value} {o : Oper} {c : Call} {d s : Operand} {t t2 : TypeId} (ho : o.op = .call c) (hc : c.callee = .builtin .append) (ha : c.args.toList = [d, s]) (ht : c.argTypes.toList = [t, t2])
    (hst : HSt S w0 F st ρ w) (hL : ∀ x, (lk st.fr x).R S ρ (ev x)) {ns : List SX} {hp' : List Ch} {sv : SV} (happ : appendIn P st.hp st.asm t (lk st.fr d) (lk st.fr s) = some (ns, hp', sv))
    (hty : (match P.underlying t2 with | some (.int _) => false | some _ => true | none => false) = true)
    (h : (VC.needs ns (K sv { st with hp := hp', asm := ns ++ st.asm })).den S ρ) : LOk S ρ w0 F st K ((execOp ev o).run P w) := by
  obtain ⟨d2, hd2, hnot⟩ : ∃ d2, P.underlying t2 = some d2 ∧ notInt d2 = true := by
    split at hty
    · cases hty
    · rename_i d' hne hd'
      exact ⟨d', hd', by cases d' <;> first | rfl | exact absurd rfl (hne _)⟩
    · cases hty
  have hargs : c.args.map ev = #[ev d, ev s] := by apply Array.ext'; simp [ha]
  have t0 : c.argTypes[0]? = some t := by rw [← Array.getElem?_toList, ht]; rfl
  have t1 : c.argTypes[1]? = some t2 := by rw [← Array.getElem?_toList, ht]; rfl
  unfold appendIn at happ
  split at happ
  · rename_i b off k z l c0 s0 et hd hu
    obtain ⟨en, hen, hA⟩ := ob_some happ
    clear happ
    obtain ⟨sz, hsz, happ⟩ := ob_some hA
    clear hA
    cases c1 : Nat.beq sz en.stride
    · rw [c1] at happ; cases happ
    cases c2 : Nat.beq s0 sz
    · rw [c1, c2] at happ; cases happ
    cases c3 : SX.bq off (.int 0)
    · rw [c1, c2, c3] at happ; cases happ
    rw [c1, c2, c3] at happ
    simp only [cond_true] at happ
    obtain ⟨⟨e2, n, y, ns0⟩, hsrc, hA⟩ := ob_some happ
    clear happ
    obtain ⟨⟨e1, x, cap, rest⟩, htk, happ⟩ := ob_some hA
    clear hA
    simp only at happ
    cases c4 : decide (e2 = en)
    · rw [c4] at happ; cases happ
    cases c5 : decide (e1 = en)
    · rw [c4, c5] at happ; cases happ
    rw [c4, c5] at happ
    simp only [cond_true] at happ
    cases hc6 : (bif sure st.asm (eLe (SX.mk2 40 l n) c0) then true else bif SX.bq c0 (SX.mk2 41 cap k) then sure st.asm (eLe (SX.mk2 40 (SX.mk2 40 k l) n) (en.lenX x)) else false)
    · rw [hc6] at happ; cases happ
    · rw [hc6] at happ
      clear hc6
      cases happ
      have h1 := of_decide_eq_true c4; subst h1
      have h2 := of_decide_eq_true c5; subst h2
      have hoff := SX.bq_eq c3
      subst hoff
      have hs1 := Nat.eq_of_beq_eq_true c1
      have hs2 := Nat.eq_of_beq_eq_true c2
      subst hs2
      obtain ⟨hn, hk⟩ := needs_den S ρ h
      obtain ⟨m1, hn1⟩ := need_sound S ρ hst.asm hn
      obtain ⟨m2, hn2⟩ := need_sound S ρ hst.asm hn1
      obtain ⟨m3, hn3⟩ := need_sound S ρ hst.asm hn2
      obtain ⟨m4, hn4⟩ := need_sound S ρ hst.asm hn3
      obtain ⟨m5, hn5⟩ := need_sound S ρ hst.asm hn4
      rw [eLe_den] at m1 m2 m3 m4 m5
      have ekl : ((SX.mk2 40 k l).den S ρ).toInt = (k.den S ρ).toInt + (l.den S ρ).toInt := by rw [SX.mk2_den]; rfl
      have eln : ((SX.mk2 40 l n).den S ρ).toInt = (l.den S ρ).toInt + (n.den S ρ).toInt := by rw [SX.mk2_den]; rfl
      have ekln : ((SX.mk2 40 (SX.mk2 40 k l) n).den S ρ).toInt = (k.den S ρ).toInt + (l.den S ρ).toInt + (n.den S ρ).toInt := by rw [SX.mk2_den]; show ((SX.mk2 40 k l).den S ρ).toInt + _ = _; rw [ekl]
      rw [eln] at m3
      rw [ekl, En.lenX_den] at m4
      rw [ekln] at m5
      simp only [SX.den, U.toInt_int] at m1 m2 m4
      obtain ⟨q1, hx⟩ := srcX_sound S ρ w0 (P := P) hst.asm hst.hp (hL s) hsrc hn5
      obtain ⟨l1, l2, hl, hr⟩ := takeArr_spec htk
      have hsat := hst.hp
      rw [hl, hpDen_pick, star_assoc] at hsat
      obtain ⟨spare, hsat⟩ := sat_ex hsat
      obtain ⟨g1, hsat⟩ := sat_and hsat
      obtain ⟨g2, hsat⟩ := sat_and hsat
      obtain ⟨g3, hsat⟩ := sat_and hsat
      have hdv := R_one S ρ (hd ▸ hL d)
      simp only [SC.den, SX.den, U.toInt_int] at hdv
      obtain ⟨consts, hex⟩ := exec_builtin (P := P) (ev := ev) ho hc w
      have hvl := En.vals_length e1 (x.den S ρ)
      have hroom := hx.room
      have hK : (k.den S ρ).toInt.toNat + (l.den S ρ).toInt.toNat = ((k.den S ρ).toInt + (l.den S ρ).toInt).toNat := by omega
      have hp1 : ((k.den S ρ).toInt.toNat + (l.den S ρ).toInt.toNat) * e1.stride ≤ (e1.vals (x.den S ρ)).length := by
        rw [hvl]; exact Nat.mul_le_mul_right _ (by omega)
      have hp2 : ((k.den S ρ).toInt.toNat + (l.den S ρ).toInt.toNat) * e1.stride + (e1.vals (y.den S ρ)).length ≤ (e1.vals (x.den S ρ)).length + spare.length := by
        rw [g1, hroom, ← Nat.add_mul]; exact Nat.mul_le_mul_right _ (by omega)
      have hvals : e1.vals ((e1.appX (e1.takeX x (SX.mk2 40 k l)) (e1.appX y (e1.dropX x (SX.mk2 40 (SX.mk2 40 k l) n)))).den S ρ) =
          (e1.vals (x.den S ρ)).take (((k.den S ρ).toInt.toNat + (l.den S ρ).toInt.toNat) * e1.stride) ++ (e1.vals (y.den S ρ) ++ (e1.vals (x.den S ρ)).drop (((k.den S ρ).toInt.toNat + (l.den S ρ).toInt.toNat) * e1.stride + (e1.vals (y.den S ρ)).length)) := by
        rw [En.vals_app, En.vals_app, En.vals_take, En.vals_drop, ekl, ekln, hroom, hK, ← Nat.add_mul]
        congr 4
        omega
      obtain ⟨w', hrun, spare', hlen', hs'⟩ : ∃ w', (match (if (b.den S ρ).toInt < 0 then none else some (⟨(b.den S ρ).toInt.toNat, (0 : Int).toNat + (if (c0.den S ρ).toInt = 0 then (z.den S ρ).toInt else (k.den S ρ).toInt).toNat * s0, none⟩ : Addr)) with
          | some a => (storeCells (a.add ((l.den S ρ).toInt.toNat * s0)) (e1.vals (y.den S ρ))).run P w = .ok () w' | none => w' = w) ∧
          ∃ spare', ((e1.vals (x.den S ρ)).take (((k.den S ρ).toInt.toNat + (l.den S ρ).toInt.toNat) * e1.stride) ++ (e1.vals (y.den S ρ) ++ (e1.vals (x.den S ρ)).drop (((k.den S ρ).toInt.toNat + (l.den S ρ).toInt.toNat) * e1.stride + (e1.vals (y.den S ρ)).length)) ++ spare').length = (e1.vals (x.den S ρ) ++ spare).length ∧
          Sat w0 (star (row (b.den S ρ).toInt.toNat 0 ((e1.vals (x.den S ρ)).take (((k.den S ρ).toInt.toNat + (l.den S ρ).toInt.toNat) * e1.stride) ++ (e1.vals (y.den S ρ) ++ (e1.vals (x.den S ρ)).drop (((k.den S ρ).toInt.toNat + (l.den S ρ).toInt.toNat) * e1.stride + (e1.vals (y.den S ρ)).length)) ++ spare') true) (star (hpDen S ρ w0 (l1 ++ l2)) F)) w' := by
        have same : e1.vals (y.den S ρ) = [] → ∃ spare', ((e1.vals (x.den S ρ)).take (((k.den S ρ).toInt.toNat + (l.den S ρ).toInt.toNat) * e1.stride) ++ (e1.vals (y.den S ρ) ++ (e1.vals (x.den S ρ)).drop (((k.den S ρ).toInt.toNat + (l.den S ρ).toInt.toNat) * e1.stride + (e1.vals (y.den S ρ)).length)) ++ spare').length = (e1.vals (x.den S ρ) ++ spare).length ∧
          Sat w0 (star (row (b.den S ρ).toInt.toNat 0 ((e1.vals (x.den S ρ)).take (((k.den S ρ).toInt.toNat + (l.den S ρ).toInt.toNat) * e1.stride) ++ (e1.vals (y.den S ρ) ++ (e1.vals (x.den S ρ)).drop (((k.den S ρ).toInt.toNat + (l.den S ρ).toInt.toNat) * e1.stride + (e1.vals (y.den S ρ)).length)) ++ spare') true) (star (hpDen S ρ w0 (l1 ++ l2)) F)) w := by
          intro h0
          refine ⟨spare, ?_⟩
          rw [h0, List.length_nil, Nat.add_zero, List.nil_append, List.take_append_drop]
          exact ⟨rfl, hsat⟩
        by_cases hneg : (b.den S ρ).toInt < 0
        · refine ⟨w, by simp [hneg], same ?_⟩
          have hc0 : (cap.den S ρ).toInt = 0 := g3.resolve_left (by omega)
          have : (n.den S ρ).toInt.toNat = 0 := by omega
          exact List.eq_nil_of_length_eq_zero (by rw [hroom, this]; simp)
        · simp only [if_neg hneg]
          by_cases hc0 : (c0.den S ρ).toInt = 0
          · have : (n.den S ρ).toInt.toNat = 0 := by omega
            have hnil : e1.vals (y.den S ρ) = [] := List.eq_nil_of_length_eq_zero (by rw [hroom, this]; simp)
            refine ⟨w, ?_, same hnil⟩
            rw [hnil]; rfl
          · obtain ⟨w', spare', hrun, hlen, hs'⟩ := store_in (P := P) hsat hp1 hp2 (En.vals_one e1 _)
            refine ⟨w', ?_, spare', hlen, hs'⟩
            rw [if_neg hc0, Addr.add_eq, hs1]
            rw [Nat.add_mul, ← Nat.add_assoc] at hrun
            exact hrun
      refine ⟨w', .inl ⟨.slice (if (b.den S ρ).toInt < 0 then none else some (⟨(b.den S ρ).toInt.toNat, (0 : Int).toNat + (if (c0.den S ρ).toInt = 0 then (z.den S ρ).toInt else (k.den S ρ).toInt).toNat * s0, none⟩ : Addr)) ((l.den S ρ).toInt.toNat + (n.den S ρ).toInt.toNat) (c0.den S ρ).toInt.toNat, ?_, same_post S ρ w0 hst hn hk ?_ ?_⟩⟩
      · rw [hex, hargs, hdv]
        refine run_v (s := Builtin.append_ c.argTypes o.type #[_, ev s]) (append_fit t0 t1 hu hd2 hnot hsz (hs1 ▸ hx) (by omega) ?_)
        by_cases hneg : (b.den S ρ).toInt < 0
        · rw [if_pos hneg] at hrun ⊢; exact hrun
        · rw [if_neg hneg] at hrun ⊢; exact hrun
      · rw [hpDen_cons, star_assoc, hr]
        refine hs'.mono fun y' hy => star_mono (fun z' hz' => ?_) (fun _ h => h) y' hy
        refine ⟨spare', ?_, g2, g3, ?_⟩
        · rw [hvals, ← List.length_append, hlen', List.length_append]; exact g1
        · rw [hvals]; exact hz'
      · right
        simp only [SV.den, SC.den, SX.den, U.toInt_int]
        rw [eln]
        congr 1
        omega
  · cases happ
theorem lop_append {F : HProp} {st : St} {w : World} {K : SV → St → VC} {ev : Operand → Value} {o : Oper} {c : Call} {d s : Operand} {t t2 : TypeId} (ho : o.op = .call c) (hc : c.callee = .builtin .append) (ha : c.args.toList = [d, s]) (ht : c.argTypes.toList = [t, t2])
    (hst : HSt S w0 F st ρ w) (hL : ∀ x, (lk st.fr x).R S ρ (ev x)) (h : (lop P st (.call c) K).den S ρ) : LOk S ρ w0 F st K ((execOp ev o).run P w) := by
  simp only [lop, hc, ha, ht] at h
  split at h
  · rename_i ns hp' sv happ hty
    exact lop_appendIn S ρ w0 ho hc ha ht hst hL happ hty h
  split at h
  · rename_i ns rest en x n cap sz happ hty
    cases h1 : x.lt st.n
    · rw [h1] at h; exact h.elim
    cases h2 : n.lt st.n
    · rw [h1, h2] at h; exact h.elim
    cases h3 : cap.lt st.n
    · rw [h1, h2, h3] at h; exact h.elim
    rw [h1, h2, h3] at h
    simp only [cond_true] at h
    obtain ⟨hn, hf⟩ := needs_den S ρ h
    obtain ⟨d2, hd2, hnot⟩ : ∃ d2, P.underlying t2 = some d2 ∧ notInt d2 = true := by
      split at hty
      · cases hty
      · rename_i d' hne hd'
        exact ⟨d', hd', by cases d' <;> first | rfl | exact absurd rfl (hne _)⟩
      · cases hty
    have hargs : c.args.map ev = #[ev d, ev s] := by apply Array.ext'; simp [ha]
    have t0 : c.argTypes[0]? = some t := by rw [← Array.getElem?_toList, ht]; rfl
    have t1 : c.argTypes[1]? = some t2 := by rw [← Array.getElem?_toList, ht]; rfl
    obtain ⟨hsz, hsub, hn0, w', b', c', hrun, k1, k2, k3⟩ := appendX_sound S ρ w0 (P := P) (ty := o.type) hst.asm hst.hp t0 t1 hd2 hnot (hL d) (hL s) happ hn
    obtain ⟨consts, hex⟩ := exec_builtin (P := P) (ev := ev) ho hc w
    have hE := updL_ext S ρ st.n [Srt.int, Srt.int] [U.int b', U.int (c' : Nat)]
    have hb' : (SX.at .int st.n).den S (updL S ρ st.n [.int, .int] [.int b', .int (c' : Nat)]) = .int b' := by simp [SX.den, updL, Env.upd, U.co]
    have hc' : (SX.at .int (st.n + 1)).den S (updL S ρ st.n [.int, .int] [.int b', .int (c' : Nat)]) = .int (c' : Nat) := by simp [SX.den, updL, Env.upd, U.co]
    have hnE := SX.den_ext S hE h2
    refine ⟨w', .inl ⟨.slice (baseOf b') (n.den S ρ).toInt.toNat c', ?_, fresh_post S ρ w0 (ns := ns) hst hn hf hsub [.int b', .int (c' : Nat)] rfl ?_ ?_ ?_⟩⟩
    · rw [hex, hargs]
      exact run_v (s := Builtin.append_ c.argTypes o.type #[ev d, ev s]) hrun
    · intro e he
      simp only [List.mem_cons, List.not_mem_nil, or_false] at he
      rcases he with rfl | rfl
      · rw [eLe_den, hc', hnE]; simpa using k1
      · exact posFact_den S _ (by rw [hb', hnE]; simpa using k2)
    · simp only [Ch.den]
      rw [hb', hc', SX.den_ext S hE h1]
      exact k3
    · right
      simp only [SV.den, SC.den]
      rw [hb', hc', hnE]
      simp [baseOf, SX.den]
  · exact h.elim

theorem lop_delete {F : HProp} {st : St} {w : World} {K : SV → St → VC} {ev : Operand → Value} {o : Oper} {c : Call} {d s : Operand} {t : TypeId} {ts : List TypeId} (ho : o.op = .call c) (hc : c.callee = .builtin .delete) (ha : c.args.toList = [d, s]) (ht : c.argTypes.toList = t :: ts)
    (hst : HSt S w0 F st ρ w) (hL : ∀ x, (lk st.fr x).R S ρ (ev x)) (h : (lop P st (.call c) K).den S ρ) : LOk S ρ w0 F st K ((execOp ev o).run P w) := by
  simp only [lop, hc, ha, ht] at h
  split at h
  · rename_i kt et b k1 ke hu hm hk
    split at h
    · rename_i kk vd mm rest k0 htk hkt
      cases hq : Nat.beq (kn kk) (kn k1)
      · rw [hq] at h; exact h.elim
      rw [hq] at h
      simp only [cond_true] at h
      obtain ⟨es, clock, hb, hmo, hheap, hput⟩ := map_pick S ρ w0 htk hst.hp
      have hkk := kn_inj (Nat.eq_of_beq_eq_true hq)
      subst hkk
      have hm' := R_one S ρ (hm ▸ hL d)
      have hk' := R_one S ρ (hk ▸ hL s)
      simp only [SC.den] at hm' hk'
      rw [if_neg (by omega)] at hm'
      have hargs : c.args.map ev = #[ev d, ev s] := by apply Array.ext'; simp [ha]
      have t0 : c.argTypes[0]? = some t := by rw [← Array.getElem?_toList, ht]; rfl
      obtain ⟨es', hrun, hok⟩ := delete_run (P := P) (ty := o.type) t0 hu hkt hheap hmo (k := (ke.den S ρ).toInt)
      obtain ⟨consts, hex⟩ := exec_builtin (P := P) (ev := ev) ho hc w
      refine ⟨_, .inl ⟨.tuple #[], ?_, same_post S ρ w0 (ns := []) hst (by simp) h (hput es' clock _ hok) (.inr rfl)⟩⟩
      rw [hex, hargs, hm', hk']
      exact run_v (s := Builtin.delete_ c.argTypes o.type #[.map (some (b.den S ρ).toInt.toNat), .int kk (ke.den S ρ).toInt]) hrun
    · exact h.elim
  · exact h.elim
theorem store_mid {e2 : En} {x b k z l cc cap : SX} {spare : List Value} {R H : HProp} {w : World} {m sz : Nat} {new : List Value}
    (hsat : Sat w0 (star (row (b.den S ρ).toInt.toNat 0 (e2.vals (x.den S ρ) ++ spare) true) H) w)
    (g1 : (b.den S ρ).toInt < 0 → (e2.vals (x.den S ρ)).length = 0)
    (hs2 : sz = e2.stride) (hnew : new.length = m * e2.stride) (hm : m ≤ (l.den S ρ).toInt.toNat) (hone : ∀ v ∈ new, oneV v = true)
    (hlc : (l.den S ρ).toInt ≤ (cc.den S ρ).toInt)
    (hkl : (k.den S ρ).toInt.toNat * e2.stride + (l.den S ρ).toInt.toNat * e2.stride ≤ (e2.vals (x.den S ρ)).length) :
    ∃ w', (match (if (b.den S ρ).toInt < 0 then none else some (⟨(b.den S ρ).toInt.toNat, (0 : Int).toNat + (if (cc.den S ρ).toInt = 0 then (z.den S ρ).toInt else (k.den S ρ).toInt).toNat * sz, none⟩ : Addr)) with
          | some a => (storeCells a new).run P w = .ok () w' | none => w' = w) ∧
      Sat w0 (star (row (b.den S ρ).toInt.toNat 0 ((e2.vals (x.den S ρ)).take ((k.den S ρ).toInt.toNat * e2.stride) ++ (new ++ (e2.vals (x.den S ρ)).drop ((k.den S ρ).toInt.toNat * e2.stride + m * e2.stride)) ++ spare) true) H) w' := by
  have hml : m * e2.stride ≤ (l.den S ρ).toInt.toNat * e2.stride := Nat.mul_le_mul_right _ hm
  have same : new = [] → Sat w0 (star (row (b.den S ρ).toInt.toNat 0 ((e2.vals (x.den S ρ)).take ((k.den S ρ).toInt.toNat * e2.stride) ++ (new ++ (e2.vals (x.den S ρ)).drop ((k.den S ρ).toInt.toNat * e2.stride + m * e2.stride)) ++ spare) true) H) w := by
    intro h0
    have : m * e2.stride = 0 := by rw [← hnew, h0]; rfl
    rw [h0, this, Nat.add_zero, List.nil_append, List.take_append_drop]
    exact hsat
  by_cases hneg : (b.den S ρ).toInt < 0
  · refine ⟨w, by simp [hneg], same ?_⟩
    have := g1 hneg
    exact List.eq_nil_of_length_eq_zero (by rw [hnew]; omega)
  · simp only [if_neg hneg]
    by_cases hc0 : (cc.den S ρ).toInt = 0
    · have hl0 : (l.den S ρ).toInt.toNat = 0 := by omega
      have hm0 : m = 0 := by omega
      have hnil : new = [] := List.eq_nil_of_length_eq_zero (by rw [hnew, hm0]; simp)
      refine ⟨w, ?_, same hnil⟩
      rw [hnil]; rfl
    · obtain ⟨w', hrun, hs'⟩ := storeCells_run (P := P) w0 (b.den S ρ).toInt.toNat 0 ((k.den S ρ).toInt.toNat * e2.stride) true _ new 0 _ w hsat (by rw [hnew, List.length_append]; omega) hone
      refine ⟨w', ?_, ?_⟩
      · rw [if_neg hc0, hs2]
        simpa using hrun
      · rw [hnew, Nat.add_zero, List.take_append_of_le_length (by omega), List.drop_append_of_le_length (by omega)] at hs'
        simpa using hs'
theorem clearS_run {ts : Array TypeId} {t et ty : TypeId} {l cap : Nat} {base : Option Addr} {i : TypeInfo} {zv : Value} {w w' : World} (h0 : ts[0]? = some t) (ht : P.underlying t = some (.slice et)) (hi : P.info? et = some i) (hz : i.zero = some zv)
    (hrun : match base with | some a => (storeCells a (List.replicate l zv.cells.toList).flatten).run P w = .ok () w' | none => w' = w) :
    (Builtin.clear_ ts ty #[.slice base l cap]).run P w = .ok (.tuple #[]) w' := by
  cases base with
  | none => subst hrun; simp [Builtin.clear_, h0, run_underlying ht]
  | some a =>
    cases l with
    | zero =>
      simp only [List.replicate_zero, List.flatten_nil] at hrun
      have : w' = w := by simp only [storeCells, Sem.run_pure, Result.ok.injEq] at hrun; exact hrun.2.symm
      subst this
      simp [Builtin.clear_, h0, run_underlying ht]
    | succ l =>
      have hc : (Builtin.zeroCells zv.cells (l + 1)).toList = (List.replicate (l + 1) zv.cells.toList).flatten := range_mod_arr _ _
      simp [Builtin.clear_, h0, run_underlying ht, run_zeroE hi hz, hc, hrun]
theorem lop_clear {F : HProp} {st : St} {w : World} {K : SV → St → VC} {ev : Operand → Value} {o : Oper} {c : Call} {d : Operand} {t : TypeId} {ts : List TypeId} (ho : o.op = .call c) (hc : c.callee = .builtin .clear) (ha : c.args.toList = [d]) (ht : c.argTypes.toList = t :: ts)
    (hst : HSt S w0 F st ρ w) (hL : ∀ x, (lk st.fr x).R S ρ (ev x)) (h : (lop P st (.call c) K).den S ρ) : LOk S ρ w0 F st K ((execOp ev o).run P w) := by
  simp only [lop, hc, ha, ht] at h
  split at h
  · rename_i b kt et hm hu
    split at h
    · rename_i kk vd mm rest htk
      obtain ⟨es, clock, hb, hmo, hheap, hput⟩ := map_pick S ρ w0 htk hst.hp
      have hm' := R_one S ρ (hm ▸ hL d)
      simp only [SC.den] at hm'
      rw [if_neg (by omega)] at hm'
      have hargs : c.args.map ev = #[ev d] := by apply Array.ext'; simp [ha]
      have t0 : c.argTypes[0]? = some t := by rw [← Array.getElem?_toList, ht]; rfl
      obtain ⟨consts, hex⟩ := exec_builtin (P := P) (ev := ev) ho hc w
      refine ⟨_, .inl ⟨.tuple #[], ?_, same_post S ρ w0 (ns := []) hst (by simp) h (hput #[] clock _ ?_) (.inr rfl)⟩⟩
      · rw [hex, hargs, hm']
        exact run_v (s := Builtin.clear_ c.argTypes o.type #[.map (some (b.den S ρ).toInt.toNat)]) (clear_run t0 hu hheap)
      · exact ⟨by simp [SX.den, ap1], by simp [SX.den, ap1], by simp, by simp⟩
    · exact h.elim
  · rename_i b off k z l cc sz et hd hu
    split at h
    · rename_i en x cap rest sz' htk hsz
      split at h
      · rename_i ze hze
        cases c2 : SX.bq off (.int 0)
        · rw [c2] at h; exact h.elim
        cases c3 : Nat.beq sz sz'
        · rw [c2, c3] at h; exact h.elim
        cases c4 : Nat.beq sz en.stride
        · rw [c2, c3, c4] at h; exact h.elim
        rw [c2, c3, c4] at h
        simp only [cond_true] at h
        have hoff := SX.bq_eq c2
        subst hoff
        have hs1 := Nat.eq_of_beq_eq_true c3
        have hs2 := Nat.eq_of_beq_eq_true c4
        obtain ⟨hn, hk⟩ := needs_den S ρ h
        obtain ⟨m1, hn1⟩ := need_sound S ρ hst.asm hn
        obtain ⟨m2, hn2⟩ := need_sound S ρ hst.asm hn1
        obtain ⟨m3, hn3⟩ := need_sound S ρ hst.asm hn2
        obtain ⟨m4, hn4⟩ := need_sound S ρ hst.asm hn3
        rw [eLe_den] at m1 m2 m3 m4
        rw [SX.mk2_den, En.lenX_den] at m4
        simp only [SX.den, ap2, U.toInt_int] at m1 m2 m4
        obtain ⟨i, v, hi, hv, hcv⟩ := en_row S ρ (asm := []) hze
        obtain ⟨l1, l2, hl, hr⟩ := takeArr_spec htk
        have hsat := hst.hp
        rw [hl, hpDen_pick, star_assoc] at hsat
        obtain ⟨spare, hsat⟩ := sat_ex hsat
        obtain ⟨g1, hsat⟩ := sat_and hsat
        obtain ⟨g2, hsat⟩ := sat_and hsat
        obtain ⟨g3, hsat⟩ := sat_and hsat
        have hdv := R_one S ρ (hd ▸ hL d)
        simp only [SC.den, SX.den, U.toInt_int] at hdv
        have hargs : c.args.map ev = #[ev d] := by apply Array.ext'; simp [ha]
        have t0 : c.argTypes[0]? = some t := by rw [← Array.getElem?_toList, ht]; rfl
        obtain ⟨consts, hex⟩ := exec_builtin (P := P) (ev := ev) ho hc w
        have hvl := En.vals_length en (x.den S ρ)
        have hkl : (k.den S ρ).toInt.toNat * en.stride + (l.den S ρ).toInt.toNat * en.stride ≤ (en.vals (x.den S ρ)).length := by
          rw [hvl, ← Nat.add_mul]; exact Nat.mul_le_mul_right _ (by omega)
        have hrepv := En.vals_rep S ρ en l ze
        rw [← hcv] at hrepv
        have hnewlen : (List.replicate (l.den S ρ).toInt.toNat v.cells.toList).flatten.length = (l.den S ρ).toInt.toNat * en.stride := by
          have hz1 : v.cells.toList.length = en.stride := by rw [hcv, En.elV_length]
          simp only [List.length_flatten, List.map_replicate, List.sum_replicate_nat, hz1]
        have hvals : en.vals ((en.appX (en.takeX x k) (en.appX (en.repX l ze) (en.dropX x (SX.mk2 40 k l)))).den S ρ) =
            (en.vals (x.den S ρ)).take ((k.den S ρ).toInt.toNat * en.stride) ++ ((List.replicate (l.den S ρ).toInt.toNat v.cells.toList).flatten ++ (en.vals (x.den S ρ)).drop ((k.den S ρ).toInt.toNat * en.stride + (l.den S ρ).toInt.toNat * en.stride)) := by
          rw [En.vals_app, En.vals_app, En.vals_take, hrepv, En.vals_drop]
          have : ((SX.mk2 40 k l).den S ρ).toInt.toNat = (k.den S ρ).toInt.toNat + (l.den S ρ).toInt.toNat := by
            rw [SX.mk2_den]
            have e1 : ((SX.f2 40 k l).den S ρ).toInt = (k.den S ρ).toInt + (l.den S ρ).toInt := rfl
            rw [e1]; omega
          rw [this, Nat.add_mul]
        obtain ⟨w', hrun, hs'⟩ := store_mid S ρ w0 (P := P) (k := k) (z := z) (l := l) (cc := cc) (m := (l.den S ρ).toInt.toNat) (sz := sz) (new := (List.replicate (l.den S ρ).toInt.toNat v.cells.toList).flatten) (R := F) (cap := cap)
          hsat (by
            intro hneg
            have hc0 : (cap.den S ρ).toInt = 0 := g3.resolve_left (by omega)
            rw [hc0] at g1
            simp at g1
            rw [g1.1]; rfl) hs2 hnewlen (Nat.le_refl _) (by
              intro q hq
              rw [← hrepv] at hq
              exact En.vals_one en _ q hq) m3 hkl
        refine ⟨w', .inl ⟨.tuple #[], ?_, same_post S ρ w0 hst hn hk ?_ ?_⟩⟩
        · rw [hex, hargs, hdv]
          refine run_v (s := Builtin.clear_ c.argTypes o.type #[_]) (clearS_run t0 hu hi hv ?_)
          by_cases hneg : (b.den S ρ).toInt < 0
          · rw [if_pos hneg] at hrun ⊢; exact hrun
          · rw [if_neg hneg] at hrun ⊢; exact hrun
        · rw [hpDen_cons, star_assoc, hr]
          refine hs'.mono fun y' hy => star_mono (fun z' hz' => ?_) (fun _ h => h) y' hy
          refine ⟨spare, ?_, g2, g3, ?_⟩
          · rw [hvals, List.length_append, List.length_append, List.length_take, hnewlen, List.length_drop]; omega
          · rw [hvals]; exact hz'
        · exact .inr rfl
      · exact h.elim
    · exact h.elim
  · exact h.elim

theorem copy_run {ts : Array TypeId} {t et ty : TypeId} {sz n l cap : Nat} {base : Option Addr} {x : Value} {cells : List Value} {w w' : World} (h0 : ts[0]? = some t) (ht : P.underlying t = some (.slice et)) (hsz : szOf P et = some sz) (hx : Src P sz x n cells w)
    (hrun : match base with | some a => (storeCells a (cells.take (min n l * sz))).run P w = .ok () w' | none => w' = w) :
    (Builtin.copy_ ts ty #[.slice base l cap, x]).run P w = .ok (goInt (min n l : Nat)) w' := by
  have hf := hx.first (min n l) (Nat.min_le_left _ _)
  have hmin : n.min l = min n l := rfl
  cases base with
  | none => subst hrun; simp [Builtin.copy_, h0, run_underlying ht, hx.len, run_sizeOfE hsz, hmin, hf]
  | some a => simp [Builtin.copy_, h0, run_underlying ht, hx.len, run_sizeOfE hsz, hmin, hf, hrun]

theorem lop_copy {F : HProp} {st : St} {w : World} {K : SV → St → VC} {ev : Operand → Value} {o : Oper} {c : Call} {d s : Operand} {t : TypeId} {ts : List TypeId} (ho : o.op = .call c) (hc : c.callee = .builtin .copy) (ha : c.args.toList = [d, s]) (ht : c.argTypes.toList = t :: ts)
    (hst : HSt S w0 F st ρ w) (hL : ∀ x, (lk st.fr x).R S ρ (ev x)) (h : (lop P st (.call c) K).den S ρ) : LOk S ρ w0 F st K ((execOp ev o).run P w) := by
  simp only [lop, hc, ha, ht] at h
  split at h
  · rename_i b off k z l cc sz et e2 n y ns hd hu hsrc
    split at h
    · rename_i en x cap rest sz' htk hsz
      cases c1 : decide (e2 = en)
      · rw [c1] at h; exact h.elim
      cases c2 : SX.bq off (.int 0)
      · rw [c1, c2] at h; exact h.elim
      cases c3 : Nat.beq sz sz'
      · rw [c1, c2, c3] at h; exact h.elim
      cases c4 : Nat.beq sz en.stride
      · rw [c1, c2, c3, c4] at h; exact h.elim
      rw [c1, c2, c3, c4] at h
      simp only [cond_true] at h
      have he := of_decide_eq_true c1
      subst he
      have hoff := SX.bq_eq c2
      subst hoff
      have hs1 := Nat.eq_of_beq_eq_true c3
      have hs2 := Nat.eq_of_beq_eq_true c4
      obtain ⟨hn, hk⟩ := needs_den S ρ h
      obtain ⟨m1, hn1⟩ := need_sound S ρ hst.asm hn
      obtain ⟨m2, hn2⟩ := need_sound S ρ hst.asm hn1
      obtain ⟨m3, hn3⟩ := need_sound S ρ hst.asm hn2
      obtain ⟨m4, hn4⟩ := need_sound S ρ hst.asm hn3
      rw [eLe_den] at m1 m2 m3 m4
      rw [SX.mk2_den, En.lenX_den] at m4
      simp only [SX.den, ap2, U.toInt_int] at m1 m2 m4
      obtain ⟨q1, hx⟩ := srcOf_sound S ρ w0 (P := P) hst.asm hst.hp (hL s) hsrc hn4
      obtain ⟨l1, l2, hl, hr⟩ := takeArr_spec htk
      have hsat := hst.hp
      rw [hl, hpDen_pick, star_assoc] at hsat
      obtain ⟨spare, hsat⟩ := sat_ex hsat
      obtain ⟨g1, hsat⟩ := sat_and hsat
      obtain ⟨g2, hsat⟩ := sat_and hsat
      obtain ⟨g3, hsat⟩ := sat_and hsat
      have hdv := R_one S ρ (hd ▸ hL d)
      simp only [SC.den, SX.den, U.toInt_int] at hdv
      have hargs : c.args.map ev = #[ev d, ev s] := by apply Array.ext'; simp [ha]
      have t0 : c.argTypes[0]? = some t := by rw [← Array.getElem?_toList, ht]; rfl
      obtain ⟨consts, hex⟩ := exec_builtin (P := P) (ev := ev) ho hc w
      have hvl := En.vals_length e2 (x.den S ρ)
      generalize hK : (k.den S ρ).toInt.toNat = kk at *
      generalize hLn : (l.den S ρ).toInt.toNat = ll at *
      generalize hN : (n.den S ρ).toInt.toNat = nn at *
      have hkl : kk * e2.stride + ll * e2.stride ≤ (e2.vals (x.den S ρ)).length := by
        rw [hvl, ← Nat.add_mul]; exact Nat.mul_le_mul_right _ (by omega)
      have hml : min nn ll * e2.stride ≤ ll * e2.stride := Nat.mul_le_mul_right _ (Nat.min_le_right _ _)
      have hmn : min nn ll * e2.stride ≤ nn * e2.stride := Nat.mul_le_mul_right _ (Nat.min_le_left _ _)
      have hnewlen : ((e2.vals (y.den S ρ)).take (min nn ll * e2.stride)).length = min nn ll * e2.stride := by rw [List.length_take, hx.room]; omega
      have hm : ((SX.mk2 51 n l).den S ρ).toInt = ((min nn ll : Nat) : Int) := by
        rw [SX.mk2_den]
        simp only [SX.den, ap2, U.toInt_int]; omega
      have hvals : e2.vals ((e2.appX (e2.takeX x k) (e2.appX (e2.takeX y (SX.mk2 51 n l)) (e2.dropX x (SX.mk2 40 k (SX.mk2 51 n l))))).den S ρ) =
          (e2.vals (x.den S ρ)).take (kk * e2.stride) ++ ((e2.vals (y.den S ρ)).take (min nn ll * e2.stride) ++ (e2.vals (x.den S ρ)).drop (kk * e2.stride + min nn ll * e2.stride)) := by
        rw [En.vals_app, En.vals_app, En.vals_take, En.vals_take, En.vals_drop, hK, hm, Int.toNat_natCast]
        have : ((SX.mk2 40 k (SX.mk2 51 n l)).den S ρ).toInt.toNat = kk + min nn ll := by
          rw [SX.mk2_den]
          have e1 : ((SX.f2 40 k (SX.mk2 51 n l)).den S ρ).toInt = (k.den S ρ).toInt + ((SX.mk2 51 n l).den S ρ).toInt := rfl
          rw [e1, hm]; omega
        rw [this, Nat.add_mul]
      have main : ∃ w', (match (if (b.den S ρ).toInt < 0 then none else some (⟨(b.den S ρ).toInt.toNat, (0 : Int).toNat + (if (cc.den S ρ).toInt = 0 then (z.den S ρ).toInt else (k.den S ρ).toInt).toNat * sz, none⟩ : Addr)) with
          | some a => (storeCells a ((e2.vals (y.den S ρ)).take (min nn ll * e2.stride))).run P w = .ok () w' | none => w' = w) ∧
          Sat w0 (star (row (b.den S ρ).toInt.toNat 0 ((e2.vals (x.den S ρ)).take (kk * e2.stride) ++ ((e2.vals (y.den S ρ)).take (min nn ll * e2.stride) ++ (e2.vals (x.den S ρ)).drop (kk * e2.stride + min nn ll * e2.stride)) ++ spare) true) (star (hpDen S ρ w0 (l1 ++ l2)) F)) w' := by
        have same : (e2.vals (y.den S ρ)).take (min nn ll * e2.stride) = [] → Sat w0 (star (row (b.den S ρ).toInt.toNat 0 ((e2.vals (x.den S ρ)).take (kk * e2.stride) ++ ((e2.vals (y.den S ρ)).take (min nn ll * e2.stride) ++ (e2.vals (x.den S ρ)).drop (kk * e2.stride + min nn ll * e2.stride)) ++ spare) true) (star (hpDen S ρ w0 (l1 ++ l2)) F)) w := by
          intro h0
          have : min nn ll * e2.stride = 0 := by rw [← hnewlen, h0]; rfl
          rw [h0, this, Nat.add_zero, List.nil_append, List.take_append_drop]
          exact hsat
        by_cases hneg : (b.den S ρ).toInt < 0
        · refine ⟨w, by simp [hneg], same ?_⟩
          have hc0 : (cap.den S ρ).toInt = 0 := g3.resolve_left (by omega)
          rw [hc0] at g1
          simp at g1
          have : (e2.vals (x.den S ρ)).length = 0 := by rw [g1.1]; rfl
          exact List.eq_nil_of_length_eq_zero (by rw [hnewlen]; omega)
        · simp only [if_neg hneg]
          by_cases hc0 : (cc.den S ρ).toInt = 0
          · have hl0 : ll = 0 := by omega
            have hnil : (e2.vals (y.den S ρ)).take (min nn ll * e2.stride) = [] := List.eq_nil_of_length_eq_zero (by rw [hnewlen, hl0]; simp)
            refine ⟨w, ?_, same hnil⟩
            rw [hnil]; rfl
          · obtain ⟨w', hrun, hs'⟩ := storeCells_run (P := P) w0 (b.den S ρ).toInt.toNat 0 (kk * e2.stride) true _ ((e2.vals (y.den S ρ)).take (min nn ll * e2.stride)) 0 _ w hsat (by rw [hnewlen, List.length_append]; omega) (fun v hv => En.vals_one _ _ v (List.mem_of_mem_take hv))
            refine ⟨w', ?_, ?_⟩
            · rw [if_neg hc0, hK, hs2]
              simpa using hrun
            · rw [hnewlen, Nat.add_zero, List.take_append_of_le_length (by omega), List.drop_append_of_le_length (by omega)] at hs'
              simpa using hs'
      obtain ⟨w', hrun, hs'⟩ := main
      refine ⟨w', .inl ⟨goInt (min nn ll : Nat), ?_, same_post S ρ w0 hst hn hk ?_ ?_⟩⟩
      · rw [hex, hargs, hdv]
        refine run_v (s := Builtin.copy_ c.argTypes o.type #[_, ev s]) (copy_run (cells := e2.vals (y.den S ρ)) t0 hu hsz ?_ ?_)
        · rw [← hs1, hs2]; exact hx
        · rw [← hs1, hs2]
          by_cases hneg : (b.den S ρ).toInt < 0
          · rw [if_pos hneg] at hrun ⊢; exact hrun
          · rw [if_neg hneg, hs2] at hrun; rw [if_neg hneg]; exact hrun
      · rw [hpDen_cons, star_assoc, hr]
        refine hs'.mono fun y' hy => star_mono (fun z' hz' => ?_) (fun _ h => h) y' hy
        refine ⟨spare, ?_, g2, g3, ?_⟩
        · rw [hvals, List.length_append, List.length_append, List.length_take, hnewlen, List.length_drop]; omega
        · rw [hvals]; exact hz'
      · right
        simp only [SV.den, SC.den]
        rw [hm]; rfl
    · exact h.elim
  · exact h.elim
end
end Go.Eng
