/- A list of calls (three integers each), as it is handed in, opened. -/
import Derived.Test.YtmjonggabppgaaaPo3
import Derived.Deep.Slices
set_option linter.unusedVariables false
namespace Go.Eng
open Go.ChangeShapes Go.WideShapes Go.Deep
theorem field1 {cs : List Value} {i : Nat} {v : Value} (h : (cs.drop i).take 1 = [v]) : cs[i]? = some v := by
  have h2 : ((cs.drop i).take 1)[0]? = some v := by rw [h]; rfl
  rw [List.getElem?_take_of_lt (by omega), List.getElem?_drop] at h2
  simpa using h2
theorem open_ops {H : Type} {enc : TypeId × Value → H} {P : Program} {w : World} {base : Nat} {spare : Nat → Bool} {held : Bool} {t e : TypeId} {g0 g1 g2 : Field} {fuel : Nat} {cs : List Value} {x : DataW H × List MemPlace}
    (ht : P.underlying t = some (.slice e)) (he : P.underlying e = some (.struct #[g0, g1, g2])) (ce : P.cellsOf e = 3) (o0 : g0.offset = 0) (o1 : g1.offset = 1) (o2 : g2.offset = 2)
    (c0 : P.cellsOf g0.type = 1) (c1 : P.cellsOf g1.type = 1) (c2 : P.cellsOf g2.type = 1) (k0 : P.underlying g0.type = some (.int .i64)) (k1 : P.underlying g1.type = some (.int .i64)) (k2 : P.underlying g2.type = some (.int .i64))
    (h : DataW.trod enc P w base spare held fuel t cs = some x) :
    (cs = [.slice none 0 0] ∧ x = (.nil, [])) ∨
    ∃ (a : Addr) (len cap : Nat) (rows : List (List Int)), cs = [.slice (some a) len cap] ∧ base ≤ a.block ∧ len ≤ cap ∧ cap ≤ maxLen ∧ len ≤ rows.length ∧
      ∀ j v, (rows.flatMap (rowVals [.int .i64, .int .i64, .int .i64]))[j]? = some v → w.cell? (a.add j) = some v := by
  rcases open_slice ht h with h0 | ⟨a, len, cap, m, n, D, Pl, rfl, hb, hl, hm, hmm, _, hx⟩
  · exact .inl h0
  right
  have hlm : len ≤ m := by rw [hmm]; split <;> omega
  have each : ∀ i, i < m → ∃ q : List Int, ∀ j, j < 3 → ∃ v, (rowVals [.int .i64, .int .i64, .int .i64] q)[j]? = some v ∧ w.cell? (a.add (i * 3 + j)) = some v := by
    intro i hi
    obtain ⟨cs', h1, h2⟩ := hx i hi
    rw [ce] at h1
    obtain ⟨_, hlen, hcell⟩ := World.cells?_some h1
    obtain ⟨xs, k, hk, _, _, hxl, hf⟩ := DataW.trod_struct he h2
    have f0 := hf 0 g0 rfl
    have f1 := hf 1 g1 rfl
    have f2 := hf 2 g2 rfl
    rw [o0, c0, List.getElem?_eq_getElem (by rw [hxl]; show _ < 3; omega)] at f0
    rw [o1, c1, List.getElem?_eq_getElem (by rw [hxl]; show _ < 3; omega)] at f1
    rw [o2, c2, List.getElem?_eq_getElem (by rw [hxl]; show _ < 3; omega)] at f2
    obtain ⟨n0, e0, _, _⟩ := DataW.trod_int k0 f0
    obtain ⟨n1, e1, _, _⟩ := DataW.trod_int k1 f1
    obtain ⟨n2, e2, _, _⟩ := DataW.trod_int k2 f2
    have e0 := field1 e0
    have e1 := field1 e1
    have e2 := field1 e2
    have d := fun j hj => hcell j hj
    refine ⟨[n0, n1, n2], fun j hj => ?_⟩
    have hc := hcell j (by omega)
    rw [add_add] at hc
    match j, hj with
    | 0, _ => exact ⟨_, rfl, by rw [hc, e0]; rfl⟩
    | 1, _ => exact ⟨_, rfl, by rw [hc, e1]; rfl⟩
    | 2, _ => exact ⟨_, rfl, by rw [hc, e2]; rfl⟩
  obtain ⟨q, hq⟩ := choose_lt each
  refine ⟨a, len, cap, (List.range m).map q, rfl, hb, hl, hm, by rw [List.length_map, List.length_range]; exact hlm, fun j v hj => ?_⟩
  have hlen3 : ∀ r : List Int, (rowVals [.int .i64, .int .i64, .int .i64] r).length = 3 := fun r => rowVals_length _ r
  have hjlt : j < m * 3 := by
    rcases Nat.lt_or_ge j (m * 3) with h' | h'
    · exact h'
    · rw [List.getElem?_eq_none (by rw [flatMap_length _ 3 hlen3, List.length_map, List.length_range]; exact h')] at hj; cases hj
  have hdm : j = j / 3 * 3 + j % 3 := by omega
  rw [hdm, flatMap_get _ 3 hlen3 _ _ _ (Nat.mod_lt _ (by decide)), List.getElem?_map, List.getElem?_range (by omega)] at hj
  obtain ⟨v', h1, h2⟩ := hq (j / 3) (by omega) (j % 3) (Nat.mod_lt _ (by decide))
  have hj' : (rowVals [.int .i64, .int .i64, .int .i64] (q (j / 3)))[j % 3]? = some v := hj
  rw [h1] at hj'
  cases hj'
  rw [hdm]; exact h2
end Go.Eng
