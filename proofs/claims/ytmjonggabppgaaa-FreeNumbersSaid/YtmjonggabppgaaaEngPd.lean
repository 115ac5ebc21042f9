/- The operations that write: that the symbolic run is the model's. Part 5: what append and copy take. -/
import Derived.Test.YtmjonggabppgaaaEngPc
set_option linter.unusedSimpArgs false
set_option linter.unusedVariables false
namespace Go.Eng
open Go.RowKit (Below)
theorem growBy_le {need : Nat} : ∀ (r c : Nat), 256 ≤ c → c ≤ 2 * need → Builtin.growBy need r c ≤ 2 * need
  | 0, c, _, h => h
  | r + 1, c, h0, h => by
    simp only [Builtin.growBy]
    split
    · exact h
    · exact growBy_le r _ (by omega) (by omega)
theorem nextcap_le {need old : Nat} (h : old < need) : Builtin.nextslicecap need old ≤ 2 * need := by
  unfold Builtin.nextslicecap
  split
  · omega
  · split
    · omega
    · exact growBy_le _ _ (by omega) (by omega)
section
variable {P : Program}
theorem run_askRoom_any (n : Nat) (w : World) : (askRoom n).run P w = .ok () w := by
  unfold askRoom; split <;> rfl
theorem run_choose_cap (need old : Nat) (e : TypeId) (w : World) : ∃ c, need ≤ c ∧ (choose (.appendCap need old e)).run P w = .ok c { w with drawn := w.drawn + 1 } := by
  refine ⟨(Question.appendCap need old e).cut (w.tape w.drawn (.appendCap need old e)), by simp [Question.cut], ?_⟩
  simp [choose, Sem.run, Question.forced]

/-- What an append or a copy takes from. -/
structure Src (P : Program) (size : Nat) (v : Value) (n : Nat) (cells : List Value) (w : World) : Prop where
  len : ∀ w', (Builtin.lenOf v).run P w' = .ok n w'
  room : cells.length = n * size
  first : ∀ m, m ≤ n → (Builtin.firstCells size m v).run P w = .ok (cells.take (m * size)).toArray w
end
section
variable {G : Type} (S : Sig G) (ρ : Env G) (w0 : World) {P : Program}
theorem srcOf_sound {F : HProp} {w : World} {hp : List Ch} {asm : List SX} (ha : ∀ x ∈ asm, (x.den S ρ).toProp) (hs : Sat w0 (star (hpDen S ρ w0 hp) F) w) {sv : SV} {v : Value} (hv : sv.R S ρ v) {e : En} {n y : SX} {ns : List SX}
    (h : srcOf hp asm sv = some (e, n, y, ns)) (hn : ∀ x ∈ ns, (x.den S ρ).toProp) : 0 ≤ (n.den S ρ).toInt ∧ Src P e.stride v (n.den S ρ).toInt.toNat (e.vals (y.den S ρ)) w := by
  unfold srcOf at h
  split at h
  · rename_i b o k z l c s
    simp only [Bool.cond_eq_ite] at h
    split at h
    · cases h
    · obtain ⟨⟨e', x⟩, hf, h⟩ := ob_some h
      cases h
      obtain ⟨n1, hn1⟩ := need_sound S ρ ha hn
      obtain ⟨n2, hn2⟩ := need_sound S ρ ha hn1
      obtain ⟨n3, hn3⟩ := need_sound S ρ ha hn2
      obtain ⟨n4, _⟩ := need_sound S ρ ha hn3
      rw [eLe_den] at n1 n2 n3 n4
      rw [SX.mk2_den, En.lenX_den] at n4
      simp only [SX.den, ap2, U.toInt_int] at n1 n2 n3 n4
      obtain ⟨hst, hb, hc⟩ := arr_cells S ρ w0 hf hs
      have hv' := R_one S ρ hv
      simp only [SC.den] at hv'
      show 0 ≤ (n.den S ρ).toInt ∧ Src P e'.stride v (n.den S ρ).toInt.toNat (e'.vals ((e'.takeX (e'.dropX x k) n).den S ρ)) w
      have hvals : e'.vals ((e'.takeX (e'.dropX x k) n).den S ρ) = ((e'.vals (x.den S ρ)).drop ((k.den S ρ).toInt.toNat * e'.stride)).take ((n.den S ρ).toInt.toNat * e'.stride) := by rw [En.vals_take, En.vals_drop]
      have hlenx := En.vals_length e' (x.den S ρ)
      generalize hN : (n.den S ρ).toInt.toNat = N at *
      generalize hK : (k.den S ρ).toInt.toNat = Kk at *
      have hKN : Kk * e'.stride + N * e'.stride ≤ (e'.vals (x.den S ρ)).length := by
        rw [hlenx, ← Nat.add_mul]; exact Nat.mul_le_mul_right _ (by omega)
      refine ⟨n2, fun w' => ?_, ?_, fun m hm => ?_⟩
      · rw [hv']; simp [Builtin.lenOf]
      · rw [hvals, List.length_take, List.length_drop]; omega
      · rw [hvals, hv']
        have hmN : m * e'.stride ≤ N * e'.stride := Nat.mul_le_mul_right _ hm
        rw [List.take_take, Nat.min_eq_left hmN]
        by_cases hneg : (b.den S ρ).toInt < 0
        · simp only [if_pos hneg]
          have : e'.vals (x.den S ρ) = [] := Classical.byContradiction fun h => by have := hb h; omega
          simp [Builtin.firstCells, this]
        · simp only [if_neg hneg, Builtin.firstCells]
          have hl : (((e'.vals (x.den S ρ)).drop (Kk * e'.stride)).take (m * e'.stride)).length = m * e'.stride := by
            rw [List.length_take, List.length_drop]; omega
          have := run_loadCellsE (P := P) ⟨(b.den S ρ).toInt.toNat, (o.den S ρ).toInt.toNat + (if (c.den S ρ).toInt = 0 then (z.den S ρ).toInt else (k.den S ρ).toInt).toNat * s, none⟩
            (((e'.vals (x.den S ρ)).drop (Kk * e'.stride)).take (m * e'.stride)) w (fun j u hj => by
              have hj' : j < m * e'.stride := by
                rcases Nat.lt_or_ge j (m * e'.stride) with h' | h'
                · exact h'
                · rw [List.getElem?_eq_none (by omega)] at hj; cases hj
              rw [List.getElem?_take_of_lt hj', List.getElem?_drop] at hj
              have hc0 : ¬ (c.den S ρ).toInt = 0 := by
                intro h0
                have : N = 0 := by omega
                have hm0 : m = 0 := by omega
                rw [hm0, Nat.zero_mul] at hj'
                exact absurd hj' (Nat.not_lt_zero _)
              rw [if_neg hc0, hK, ← hst]
              have := hc _ _ hj
              simp only [Addr.add_eq]
              rw [Nat.add_assoc]; exact this)
          rw [hl] at this
          exact this
  · rename_i t
    cases h
    have hv' := R_one S ρ hv
    simp only [SC.den] at hv'
    rw [SX.mk1_den]
    simp only [SX.den, ap1, U.toInt_int]
    refine ⟨by omega, fun w' => ?_, ?_, fun m hm => ?_⟩
    · rw [hv']; simp [Builtin.lenOf, ByteArray.size]
    · simp [En.vals, En.stride]
    · rw [hv']
      simp [Builtin.firstCells, En.vals, En.stride]
  · cases h
end

section
variable {P : Program}
def notInt (d : TypeDesc) : Bool := match d with | .int _ => false | _ => true
theorem notInt_eq {d : TypeDesc} : notInt d = true → Builtin.append_.match_1 (fun _ => Bool) d (fun _ => true) (fun _ => false) = false := by
  intro h
  cases d <;> first | rfl | (simp [notInt] at h; done)
theorem append_fit {ts : Array TypeId} {t t2 et ty : TypeId} {d2 : TypeDesc} {sz n sLen sCap : Nat} {base : Option Addr} {x : Value} {cells : List Value} {w w' : World} (h0 : ts[0]? = some t) (h1 : ts[1]? = some t2)
    (ht : P.underlying t = some (.slice et)) (ht2 : P.underlying t2 = some d2) (hd : notInt d2 = true) (hsz : szOf P et = some sz) (hx : Src P sz x n cells w) (hfit : sLen + n ≤ sCap)
    (hrun : match base with | some a => (storeCells (a.add (sLen * sz)) cells).run P w = .ok () w' | none => w' = w) :
    (Builtin.append_ ts ty #[.slice base sLen sCap, x]).run P w = .ok (.slice base (sLen + n) sCap) w' := by
  have hf := hx.first n (Nat.le_refl _)
  rw [List.take_of_length_le (by rw [hx.room]; exact Nat.le_refl _)] at hf
  have hd' := notInt_eq hd
  cases base with
  | none => subst hrun; simp [Builtin.append_, h0, h1, run_underlying ht, run_underlying ht2, run_sizeOfE hsz, hx.len, hfit, hf, hd']
  | some a => simp [Builtin.append_, h0, h1, run_underlying ht, run_underlying ht2, run_sizeOfE hsz, hx.len, hfit, hf, hrun, hd']
theorem append_grow {ts : Array TypeId} {t t2 et ty : TypeId} {d2 : TypeDesc} {n sLen sCap : Nat} {base : Option Addr} {x z : Value} {i : TypeInfo} {cells old : List Value} {w : World} (h0 : ts[0]? = some t) (h1 : ts[1]? = some t2)
    (ht : P.underlying t = some (.slice et)) (ht2 : P.underlying t2 = some d2) (hd : notInt d2 = true) (hi : P.info? et = some i) (hz : i.zero = some z) (hzs : z.cells.size = i.size) (hb : 1 ≤ i.bytes) (hx : Src P i.size x n cells w.drew) (hfit : ¬ sLen + n ≤ sCap)
    (hold : (Builtin.firstCells i.size sLen (.slice base sLen sCap)).run P w.drew = .ok old.toArray w.drew) (hroom : (sLen + n) * i.bytes ≤ 140737488355328) :
    ∃ c spare, sLen + n ≤ c ∧ spare.length = (c - (sLen + n)) * i.size ∧ (Builtin.append_ ts ty #[.slice base sLen sCap, x]).run P w =
      .ok (.slice (some ⟨w.heap.size, 0, none⟩) (sLen + n) c) { w.drew with heap := w.heap.push (.cells (old ++ cells ++ spare).toArray et) } := by
  have hf := hx.first n (Nat.le_refl _)
  rw [List.take_of_length_le (by rw [hx.room]; exact Nat.le_refl _)] at hf
  refine ⟨(Question.appendCap (sLen + n) sCap et).cut (w.tape w.drawn (.appendCap (sLen + n) sCap et)), (Builtin.zeroCells z.cells ((Question.appendCap (sLen + n) sCap et).cut (w.tape w.drawn (.appendCap (sLen + n) sCap et)) - (sLen + n))).toList, by simp [Question.cut], by simp [Builtin.zeroCells, hzs], ?_⟩
  have hsz := run_sizeOfE (szOf_of hi)
  have hcap := nextcap_le (show sCap < sLen + n by omega)
  have hcapb : ¬ (281474976710656 < Builtin.nextslicecap (sLen + n) sCap * i.bytes) := by
    have : Builtin.nextslicecap (sLen + n) sCap * i.bytes ≤ 2 * (sLen + n) * i.bytes := Nat.mul_le_mul_right _ hcap
    have e : 2 * (sLen + n) * i.bytes = 2 * ((sLen + n) * i.bytes) := Nat.mul_assoc _ _ _
    omega
  have hnb : ¬ i.bytes = 0 := by omega
  have hd' := notInt_eq hd
  simp [Builtin.append_, h0, h1, run_underlying ht, run_underlying ht2, hsz, hx.len, hfit, typeInfo, hi, hnb, hcapb, hd', Question.forced, run_askRoom_any, hold, hf, run_zeroE hi hz, run_newRowE]
  have harr : ∀ Z : Array Value, old.toArray ++ (cells.toArray ++ Z) = (old ++ (cells ++ Z.toList)).toArray := fun Z => by apply Array.ext'; simp
  rw [harr]
  rfl
end
end Go.Eng
