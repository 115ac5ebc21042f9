/- A list of calls (three integers, how the power falls) as it is handed in, opened. -/
import Derived.Test.YtlcfjjjdhdfbdaaPt3
import Derived.Deep.Slices
set_option linter.unusedVariables false
namespace Go.Eng
open Go.ChangeShapes Go.WideShapes Go.Deep
theorem field1 {cs : List Value} {i : Nat} {v : Value} (h : (cs.drop i).take 1 = [v]) : cs[i]? = some v := by
  have h2 : ((cs.drop i).take 1)[0]? = some v := by rw [h]; rfl
  rw [List.getElem?_take_of_lt (by omega), List.getElem?_drop] at h2
  simpa using h2
theorem field3 {cs : List Value} {i j : Nat} {v : Value} (hj : j < 3) (h : (((cs.drop i).take 3).drop j).take 1 = [v]) : cs[i + j]? = some v := by
  have h2 := field1 h
  rw [List.getElem?_take_of_lt hj, List.getElem?_drop] at h2
  exact h2
abbrev opFds : List Fd := [.int .i64, .int .i64, .int .i64, .slo 1, .int .i64, .int .i64]
theorem opq_of (o : Option Addr) (l c : Nat) : ∃ x0 x1 x2 x3 x4 : Int, ∀ r, opqV (x0 :: x1 :: x2 :: x3 :: x4 :: r) = .slice o l c := by
  cases o with
  | none => exact ⟨-1, 0, 0, l, c, fun r => rfl⟩
  | some a =>
    obtain ⟨b, off, sp⟩ := a
    cases sp with
    | none =>
      refine ⟨b, off, -1, l, c, fun r => ?_⟩
      show Value.slice (if (b : Int) < 0 then none else some ⟨(b : Int).toNat, (off : Int).toNat, if (-1 : Int) < 0 then none else some _⟩) _ _ = _
      rw [if_neg (by omega), if_pos (by decide)]; rfl
    | some s =>
      refine ⟨b, off, s, l, c, fun r => ?_⟩
      show Value.slice (if (b : Int) < 0 then none else some ⟨(b : Int).toNat, (off : Int).toNat, if (s : Int) < 0 then none else some (s : Int).toNat⟩) _ _ = _
      rw [if_neg (by omega), if_neg (by omega)]; rfl
theorem open_ops {H : Type} {enc : TypeId × Value → H} {P : Program} {w : World} {base : Nat} {spare : Nat → Bool} {held : Bool} {t e u : TypeId} {g0 g1 g2 g3 k0 k1 k2 : Field} {fuel : Nat} {cs : List Value} {x : DataW H × List MemPlace}
    (ht : P.underlying t = some (.slice e)) (he : P.underlying e = some (.struct #[g0, g1, g2, g3])) (ce : P.cellsOf e = 6) (o0 : g0.offset = 0) (o1 : g1.offset = 1) (o2 : g2.offset = 2) (o3 : g3.offset = 3)
    (c0 : P.cellsOf g0.type = 1) (c1 : P.cellsOf g1.type = 1) (c2 : P.cellsOf g2.type = 1) (c3 : P.cellsOf g3.type = 3) (t0 : P.underlying g0.type = some (.int .i64)) (t1 : P.underlying g1.type = some (.int .i64)) (t2 : P.underlying g2.type = some (.int .i64))
    (hu : P.underlying g3.type = some (.struct #[k0, k1, k2])) (p0 : k0.offset = 0) (p1 : k1.offset = 1) (p2 : k2.offset = 2) (d0 : P.cellsOf k0.type = 1) (d1 : P.cellsOf k1.type = 1) (d2 : P.cellsOf k2.type = 1)
    (s0 : P.underlying k0.type = some (.slice u)) (s1 : P.underlying k1.type = some (.int .i64)) (s2 : P.underlying k2.type = some (.int .i64))
    (h : DataW.trod enc P w base spare held fuel t cs = some x) :
    (cs = [.slice none 0 0] ∧ x = (.nil, [])) ∨
    ∃ (a : Addr) (len cap : Nat) (rows : List (List Int)), cs = [.slice (some a) len cap] ∧ base ≤ a.block ∧ len ≤ cap ∧ cap ≤ maxLen ∧ len ≤ rows.length ∧ (∃ ds sp, x.1 = .slice ds sp ∧ ds.length = len) ∧
      ∀ j v, (rows.flatMap (rowVals opFds))[j]? = some v → w.cell? (a.add j) = some v := by
  rcases open_slice ht h with h0 | ⟨a, len, cap, m, n, D, Pl, rfl, hb, hl, hm, hmm, hxx, hx⟩
  · exact .inl h0
  right
  have hlm : len ≤ m := by rw [hmm]; split <;> omega
  have each : ∀ i, i < m → ∃ q : List Int, ∀ j, j < 6 → ∃ v, (rowVals opFds q)[j]? = some v ∧ w.cell? (a.add (i * 6 + j)) = some v := by
    intro i hi
    obtain ⟨cs', h1, h2⟩ := hx i hi
    rw [ce] at h1
    obtain ⟨_, hlen, hcell⟩ := World.cells?_some h1
    obtain ⟨xs, k, hk, _, _, hxl, hf⟩ := DataW.trod_struct he h2
    have f0 := hf 0 g0 rfl
    have f1 := hf 1 g1 rfl
    have f2 := hf 2 g2 rfl
    have f3 := hf 3 g3 rfl
    rw [o0, c0, List.getElem?_eq_getElem (by rw [hxl]; show _ < 4; omega)] at f0
    rw [o1, c1, List.getElem?_eq_getElem (by rw [hxl]; show _ < 4; omega)] at f1
    rw [o2, c2, List.getElem?_eq_getElem (by rw [hxl]; show _ < 4; omega)] at f2
    rw [o3, c3, List.getElem?_eq_getElem (by rw [hxl]; show _ < 4; omega)] at f3
    obtain ⟨n0, e0, _, _⟩ := DataW.trod_int t0 f0
    obtain ⟨n1, e1, _, _⟩ := DataW.trod_int t1 f1
    obtain ⟨n2, e2, _, _⟩ := DataW.trod_int t2 f2
    obtain ⟨ys, k', hk', _, _, hyl, hg⟩ := DataW.trod_struct hu f3
    have g0' := hg 0 k0 rfl
    have g1' := hg 1 k1 rfl
    have g2' := hg 2 k2 rfl
    rw [p0, d0, List.getElem?_eq_getElem (by rw [hyl]; show _ < 3; omega)] at g0'
    rw [p1, d1, List.getElem?_eq_getElem (by rw [hyl]; show _ < 3; omega)] at g1'
    rw [p2, d2, List.getElem?_eq_getElem (by rw [hyl]; show _ < 3; omega)] at g2'
    obtain ⟨n4, e4, _, _⟩ := DataW.trod_int s1 g1'
    obtain ⟨n5, e5, _, _⟩ := DataW.trod_int s2 g2'
    obtain ⟨o, l3, c3', e3⟩ : ∃ (o : Option Addr) (l c : Nat), (((cs'.drop 3).take 3).drop 0).take 1 = [.slice o l c] := by
      rcases open_slice s0 g0' with q | ⟨a', l', c', _, _, _, _, q, _⟩
      · exact ⟨none, 0, 0, q.1⟩
      · exact ⟨some a', l', c', q⟩
    obtain ⟨x0, x1, x2, x3, x4, hq⟩ := opq_of o l3 c3'
    have e0 := field1 e0
    have e1 := field1 e1
    have e2 := field1 e2
    have e3 := field3 (by decide) e3
    have e4 := field3 (by decide) e4
    have e5 := field3 (by decide) e5
    refine ⟨[n0, n1, n2, x0, x1, x2, x3, x4, n4, n5], fun j hj => ?_⟩
    have hc := hcell j (by omega)
    rw [add_add] at hc
    match j, hj with
    | 0, _ => exact ⟨_, rfl, by rw [hc, e0]; rfl⟩
    | 1, _ => exact ⟨_, rfl, by rw [hc, e1]; rfl⟩
    | 2, _ => exact ⟨_, rfl, by rw [hc, e2]; rfl⟩
    | 3, _ => exact ⟨_, rfl, by rw [hc, e3]; exact congrArg some (hq _).symm⟩
    | 4, _ => exact ⟨_, rfl, by rw [hc, e4]; rfl⟩
    | 5, _ => exact ⟨_, rfl, by rw [hc, e5]; rfl⟩
  obtain ⟨q, hq⟩ := choose_lt each
  refine ⟨a, len, cap, (List.range m).map q, rfl, hb, hl, hm, by rw [List.length_map, List.length_range]; exact hlm, ⟨_, _, by rw [hxx], by rw [List.length_map, List.length_range]⟩, fun j v hj => ?_⟩
  have hlen6 : ∀ r : List Int, (rowVals opFds r).length = 6 := fun r => rowVals_length _ r
  have hjlt : j < m * 6 := by
    rcases Nat.lt_or_ge j (m * 6) with h' | h'
    · exact h'
    · rw [List.getElem?_eq_none (by rw [flatMap_length _ 6 hlen6, List.length_map, List.length_range]; exact h')] at hj; cases hj
  have hdm : j = j / 6 * 6 + j % 6 := by omega
  rw [hdm, flatMap_get _ 6 hlen6 _ _ _ (Nat.mod_lt _ (by decide)), List.getElem?_map, List.getElem?_range (by omega)] at hj
  obtain ⟨v', h1, h2⟩ := hq (j / 6) (by omega) (j % 6) (Nat.mod_lt _ (by decide))
  have hj' : (rowVals opFds (q (j / 6)))[j % 6]? = some v := hj
  rw [h1] at hj'
  cases hj'
  rw [hdm]; exact h2
/-- What is known of a slice that is handed in. -/
def ArgIs {H : Type} (w : World) (v : Value) (d : DataW H) (b o l c : Int) (n : Nat) (vals : List Value) : Prop :=
  v = .slice (if b < 0 then none else some ⟨b.toNat, o.toNat, none⟩) l.toNat c.toNat ∧ 0 ≤ l ∧ l ≤ n ∧ l ≤ c ∧ l ≤ 9223372036854775807 ∧
    ((0 ≤ b ∨ vals = []) ∧ ∀ i u, vals[i]? = some u → b.toNat < w.heap.size ∧ w.cell? ⟨b.toNat, o.toNat + i, none⟩ = some u) ∧ (d = .nil ∧ l = 0 ∨ ∃ ds sp, d = .slice ds sp ∧ (ds.length : Int) = l)
theorem slice_spot {P : Program} {W : World} {base : Nat} {t e : TypeId} {a : Addr} {len cap : Nat} (ht : P.underlying t = some (.slice e)) (hv : Value.okWide P W .any base t (.slice (some a) len cap)) : a.spot = none := by
  unfold Value.okWide at hv
  rw [ht] at hv
  unfold Cell.okWide at hv
  rw [ht] at hv
  simp only [Cell.ok] at hv
  rw [ht] at hv
  exact hv.2.2.2.1
theorem arg_ops {H : Type} {enc : TypeId × Value → H} {P : Program} {W : World} {base : Nat} {t e u : TypeId} {g0 g1 g2 g3 k0 k1 k2 : Field} {v : Value} {d : DataW H} {ps : List MemPlace}
    (ht : P.underlying t = some (.slice e)) (he : P.underlying e = some (.struct #[g0, g1, g2, g3])) (ce : P.cellsOf e = 6) (o0 : g0.offset = 0) (o1 : g1.offset = 1) (o2 : g2.offset = 2) (o3 : g3.offset = 3)
    (c0 : P.cellsOf g0.type = 1) (c1 : P.cellsOf g1.type = 1) (c2 : P.cellsOf g2.type = 1) (c3 : P.cellsOf g3.type = 3) (t0 : P.underlying g0.type = some (.int .i64)) (t1 : P.underlying g1.type = some (.int .i64)) (t2 : P.underlying g2.type = some (.int .i64))
    (hu : P.underlying g3.type = some (.struct #[k0, k1, k2])) (p0 : k0.offset = 0) (p1 : k1.offset = 1) (p2 : k2.offset = 2) (d0 : P.cellsOf k0.type = 1) (d1 : P.cellsOf k1.type = 1) (d2 : P.cellsOf k2.type = 1)
    (s0 : P.underlying k0.type = some (.slice u)) (s1 : P.underlying k1.type = some (.int .i64)) (s2 : P.underlying k2.type = some (.int .i64))
    (hv : Value.okWide P W .any base t v) (h : DataW.Trod enc P W 0 (fun _ => true) true t v d ps) :
    ∃ (b o l c : Int) (L : List (List Int)), ArgIs W v d b o l c L.length (L.flatMap (rowVals opFds)) := by
  obtain ⟨fuel, hf⟩ := h
  obtain ⟨a0, len, cap, rfl⟩ := okWide_slice ht hv
  rcases open_ops ht he ce o0 o1 o2 o3 c0 c1 c2 c3 t0 t1 t2 hu p0 p1 p2 d0 d1 d2 s0 s1 s2 hf with ⟨hcs, hx⟩ | ⟨a, len', cap', rows, hcs, _, hl, hm, hz, hd, hcell⟩
  · simp [Value.cells] at hcs
    obtain ⟨rfl, rfl, rfl⟩ := hcs
    simp only [Prod.mk.injEq] at hx
    exact ⟨-1, 0, 0, 0, [], rfl, by decide, by decide, by decide, by decide, ⟨.inr rfl, fun i u hu => by simp at hu⟩, .inl ⟨hx.1, rfl⟩⟩
  · simp [Value.cells] at hcs
    obtain ⟨rfl, rfl, rfl⟩ := hcs
    have hspot := slice_spot ht hv
    obtain ⟨b, off, spot⟩ := a
    simp only at hspot
    subst hspot
    have hmax : maxLen = 9223372036854775807 := by decide
    obtain ⟨ds, sp, h1, h2⟩ := hd
    refine ⟨b, off, len, cap, rows, by rw [if_neg (by omega)]; simp, by omega, by omega, by omega, by omega, ⟨.inl (by omega), fun i u hu => ?_⟩, .inr ⟨ds, sp, h1, by omega⟩⟩
    have hc := hcell i u hu
    rw [add_plain] at hc
    exact ⟨by simpa using (World.block_lt_of_cell? W ⟨b, off + i, none⟩ hc), by simpa using hc⟩
end Go.Eng
