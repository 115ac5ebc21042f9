/- The heap logic of this claim's proofs: partial heaps over the model's world, separating conjunction, loads, stores, new blocks. -/
import Derived.Calls
import Derived.Below
set_option linter.unusedSimpArgs false
set_option linter.unusedVariables false
namespace Go.Eng
open Go.RowKit (Below)

/-- What a place of a partial heap holds: one cell's value (the mark: its block bears no frozen range at all), or a whole object that is no row of cells. -/
inductive Res where
  | val (v : Value) (z : Bool)
  | obj (o : Obj)

abbrev Hl := Nat → Nat → Option Res

def Hl.none : Hl := fun _ _ => Option.none
def Hl.Disj (a b : Hl) : Prop := ∀ i j, a i j = Option.none ∨ b i j = Option.none
def Hl.un (a b : Hl) : Hl := fun i j => match a i j with | some r => some r | Option.none => b i j

abbrev HProp := Hl → Prop

def emp : HProp := fun h => h = Hl.none
def star (A B : HProp) : HProp := fun h => ∃ a b, Hl.Disj a b ∧ h = Hl.un a b ∧ A a ∧ B b
def big : List HProp → HProp
  | [] => emp
  | A :: l => star A (big l)
def HProp.pure (p : Prop) : HProp := fun h => p ∧ h = Hl.none

theorem Hl.Disj.symm {a b : Hl} (h : Hl.Disj a b) : Hl.Disj b a := fun i j => (h i j).symm
theorem Hl.un_comm {a b : Hl} (h : Hl.Disj a b) : Hl.un a b = Hl.un b a := by
  funext i j; unfold Hl.un
  rcases h i j with e | e <;> rw [e] <;> cases a i j <;> cases b i j <;> rfl
theorem Hl.un_none (a : Hl) : Hl.un a Hl.none = a := by
  funext i j; unfold Hl.un Hl.none; cases a i j <;> rfl
theorem Hl.un_assoc (a b c : Hl) : Hl.un (Hl.un a b) c = Hl.un a (Hl.un b c) := by
  funext i j; unfold Hl.un; cases a i j <;> rfl
theorem Hl.disj_un {a b c : Hl} : Hl.Disj (Hl.un a b) c ↔ Hl.Disj a c ∧ Hl.Disj b c := by
  constructor
  · intro h; constructor <;> intro i j <;> have := h i j <;> unfold Hl.un at this <;> revert this <;> cases a i j <;> cases b i j <;> cases c i j <;> simp
  · rintro ⟨h1, h2⟩ i j; have e1 := h1 i j; have e2 := h2 i j; unfold Hl.un; revert e1 e2; cases a i j <;> cases b i j <;> cases c i j <;> simp
theorem Hl.disj_none (a : Hl) : Hl.Disj a Hl.none := fun _ _ => .inr rfl

theorem star_comm (A B : HProp) : star A B = star B A := by
  funext h; apply propext; constructor
  · rintro ⟨a, b, d, rfl, ha, hb⟩; exact ⟨b, a, d.symm, Hl.un_comm d, hb, ha⟩
  · rintro ⟨a, b, d, rfl, ha, hb⟩; exact ⟨b, a, d.symm, Hl.un_comm d, hb, ha⟩
theorem star_assoc (A B C : HProp) : star (star A B) C = star A (star B C) := by
  funext h; apply propext; constructor
  · rintro ⟨ab, c, d, rfl, ⟨a, b, d', rfl, ha, hb⟩, hc⟩
    obtain ⟨d1, d2⟩ := Hl.disj_un.1 d
    exact ⟨a, Hl.un b c, (Hl.disj_un.2 ⟨d'.symm, d1.symm⟩).symm, Hl.un_assoc _ _ _, ha, b, c, d2, rfl, hb, hc⟩
  · rintro ⟨a, bc, d, rfl, ha, b, c, d', rfl, hb, hc⟩
    obtain ⟨d1, d2⟩ := Hl.disj_un.1 d.symm
    exact ⟨Hl.un a b, c, Hl.disj_un.2 ⟨d2.symm, d'⟩, (Hl.un_assoc _ _ _).symm, ⟨a, b, d1.symm, rfl, ha, hb⟩, hc⟩
theorem star_emp (A : HProp) : star A emp = A := by
  funext h; apply propext; constructor
  · rintro ⟨a, b, d, rfl, ha, rfl⟩; rw [Hl.un_none]; exact ha
  · intro ha; exact ⟨h, Hl.none, Hl.disj_none _, (Hl.un_none _).symm, ha, rfl⟩
theorem emp_star (A : HProp) : star emp A = A := by rw [star_comm, star_emp]
theorem star_left_comm (A B C : HProp) : star A (star B C) = star B (star A C) := by
  rw [← star_assoc, star_comm A B, star_assoc]
theorem star_mono {A A' B B' : HProp} (h1 : ∀ h, A h → A' h) (h2 : ∀ h, B h → B' h) : ∀ h, star A B h → star A' B' h := by
  rintro h ⟨a, b, d, rfl, ha, hb⟩; exact ⟨a, b, d, rfl, h1 _ ha, h2 _ hb⟩
theorem star_pure (p : Prop) (A : HProp) (h : Hl) : star (HProp.pure p) A h ↔ p ∧ A h := by
  constructor
  · rintro ⟨a, b, d, rfl, ⟨hp, rfl⟩, hb⟩; refine ⟨hp, ?_⟩; rw [Hl.un_comm d, Hl.un_none]; exact hb
  · rintro ⟨hp, ha⟩; exact ⟨Hl.none, h, (Hl.disj_none _).symm, by rw [Hl.un_comm (Hl.disj_none _).symm, Hl.un_none], ⟨hp, rfl⟩, ha⟩

theorem big_append (l m : List HProp) : big (l ++ m) = star (big l) (big m) := by
  induction l with
  | nil => simp [big, emp_star]
  | cons A l ih => simp [big, ih, star_assoc]
theorem big_pick (l m : List HProp) (A : HProp) : big (l ++ A :: m) = star A (big (l ++ m)) := by
  rw [big_append, big_append]; simp only [big]; rw [star_left_comm]

def Obj.plain : Obj → Bool
  | .cells .. => false
  | _ => true

/-- The partial heap h lies in the world w; below the base world's size all is as in the base world. -/
structure In (w0 : World) (h : Hl) (w : World) : Prop where
  cell : ∀ b o v z, h b o = some (.val v z) → w0.heap.size ≤ b ∧ w.cell? ⟨b, o, none⟩ = some v ∧ w.frozen? ⟨b, o, none⟩ = false ∧
    (z = true → ∃ c e, w.heap[b]? = some (.cells c e (0, 0)))
  obj : ∀ b o x, h b o = some (.obj x) → w0.heap.size ≤ b ∧ o = 0 ∧ w.heap[b]? = some x ∧ Obj.plain x = true
  below : Below w0.heap.size w0 w

def Sat (w0 : World) (H : HProp) (w : World) : Prop := ∃ h, H h ∧ In w0 h w

theorem Sat.mono {w0 w : World} {H H' : HProp} (h : Sat w0 H w) (hh : ∀ x, H x → H' x) : Sat w0 H' w :=
  let ⟨x, hx, hi⟩ := h; ⟨x, hh _ hx, hi⟩

theorem In.sub {w0 w : World} {a b : Hl} (h : In w0 b w) (hs : ∀ i j r, a i j = some r → b i j = some r) : In w0 a w :=
  ⟨fun _ _ _ _ e => h.cell _ _ _ _ (hs _ _ _ e), fun _ _ _ e => h.obj _ _ _ (hs _ _ _ e), h.below⟩

/-- What is not needed may be dropped. -/
theorem Sat.drop {w0 w : World} {A B : HProp} (h : Sat w0 (star A B) w) : Sat w0 B w := by
  obtain ⟨x, ⟨a, b, d, rfl, ha, hb⟩, hi⟩ := h
  refine ⟨b, hb, hi.sub fun i j r e => ?_⟩
  unfold Hl.un
  rcases d i j with e' | e'
  · rw [e']; exact e
  · rw [e'] at e; cases e
theorem Sat.drop_right {w0 w : World} {A B : HProp} (h : Sat w0 (star A B) w) : Sat w0 A w := by
  rw [star_comm] at h; exact h.drop

/-- A row of cells in one block, from a place on. -/
def rowH (b o : Nat) (vs : List Value) (z : Bool) : Hl := fun b' o' => if b' = b ∧ o ≤ o' then (vs[o' - o]?).map (Res.val · z) else Option.none
def row (b o : Nat) (vs : List Value) (z : Bool) : HProp := fun h => h = rowH b o vs z
def objH (b : Nat) (x : Obj) : Hl := fun b' o' => if b' = b ∧ o' = 0 then some (.obj x) else Option.none
def objAt (b : Nat) (x : Obj) : HProp := fun h => h = objH b x

theorem rowH_nil (b o : Nat) (z : Bool) : rowH b o [] z = Hl.none := by funext i j; simp [rowH, Hl.none]
theorem row_nil (b o : Nat) (z : Bool) : row b o [] z = emp := by unfold row emp; rw [rowH_nil]

theorem rowH_append (b o : Nat) (xs ys : List Value) (z : Bool) : rowH b o (xs ++ ys) z = Hl.un (rowH b o xs z) (rowH b (o + xs.length) ys z) := by
  funext i j
  unfold Hl.un rowH
  by_cases hb : i = b ∧ o ≤ j
  · simp only [hb, and_self, if_true, true_and]
    by_cases hl : j - o < xs.length
    · simp [List.getElem?_append_left hl, List.getElem?_eq_getElem hl]
    · have hge : o + xs.length ≤ j := by omega
      have e1 : xs[j - o]? = none := List.getElem?_eq_none (by omega)
      rw [e1, List.getElem?_append_right (by omega)]
      simp only [Option.map_none, hge, if_true]
      congr 2; omega
  · have hb2 : ¬ (i = b ∧ o + xs.length ≤ j) := fun h => hb ⟨h.1, by omega⟩
    rw [if_neg hb, if_neg hb, if_neg hb2]
theorem rowH_disj (b o : Nat) (xs ys : List Value) (z : Bool) : Hl.Disj (rowH b o xs z) (rowH b (o + xs.length) ys z) := by
  intro i j
  unfold rowH
  by_cases h : o + xs.length ≤ j
  · left; split
    · rw [List.getElem?_eq_none (by omega)]; rfl
    · rfl
  · right; rw [if_neg]; intro h'; exact h h'.2
theorem row_append (b o : Nat) (xs ys : List Value) (z : Bool) : row b o (xs ++ ys) z = star (row b o xs z) (row b (o + xs.length) ys z) := by
  funext h; apply propext; constructor
  · rintro rfl; exact ⟨_, _, rowH_disj b o xs ys z, rowH_append b o xs ys z, rfl, rfl⟩
  · rintro ⟨a, c, d, rfl, rfl, rfl⟩; exact (rowH_append b o xs ys z).symm

theorem rowH_get {b o : Nat} {vs : List Value} {z : Bool} {i : Nat} (h : i < vs.length) : rowH b o vs z b (o + i) = some (.val vs[i] z) := by
  unfold rowH; simp [List.getElem?_eq_getElem h]

theorem In.below_cell {w0 w : World} {h : Hl} (hi : In w0 h w) {a : Addr} (ha : a.block < w0.heap.size) : w.cell? a = w0.cell? a := hi.below.cell ha

theorem Sat.below {w0 w : World} {H : HProp} (h : Sat w0 H w) : Below w0.heap.size w0 w := let ⟨_, _, hi⟩ := h; hi.below

theorem Sat.row_lt {w0 w : World} {b o : Nat} {vs : List Value} {z : Bool} {H : HProp} (h : Sat w0 (star (row b o vs z) H) w) (hv : vs ≠ []) : w0.heap.size ≤ b ∧ b < w.heap.size := by
  obtain ⟨x, ⟨a, c, d, rfl, rfl, hb⟩, hi⟩ := h
  obtain ⟨v, vs', rfl⟩ : ∃ v vs', vs = v :: vs' := by cases vs with | nil => exact absurd rfl hv | cons v l => exact ⟨v, l, rfl⟩
  have e : Hl.un (rowH b o (v :: vs') z) c b o = some (.val v z) := by
    unfold Hl.un; rw [show rowH b o (v :: vs') z b o = some (.val v z) from rowH_get (i := 0) (by simp)]
  have hc := hi.cell _ _ _ _ e
  refine ⟨hc.1, ?_⟩
  have := hc.2.1
  unfold World.cell? at this
  rcases Nat.lt_or_ge b w.heap.size with hlt | hge
  · exact hlt
  · simp [Array.getElem?_eq_none hge] at this

theorem Sat.load {w0 w : World} {b o : Nat} {vs : List Value} {z : Bool} {H : HProp} (h : Sat w0 (star (row b o vs z) H) w) {i : Nat} (hi : i < vs.length) :
    w.cell? ⟨b, o + i, none⟩ = some vs[i] ∧ w.frozen? ⟨b, o + i, none⟩ = false := by
  obtain ⟨x, ⟨a, c, d, rfl, rfl, hb⟩, hin⟩ := h
  have e : Hl.un (rowH b o vs z) c b (o + i) = some (.val vs[i] z) := by
    unfold Hl.un; rw [rowH_get hi]
  exact ⟨(hin.cell _ _ _ _ e).2.1, (hin.cell _ _ _ _ e).2.2.1⟩

theorem Sat.load_strict {w0 w : World} {b o : Nat} {vs : List Value} {H : HProp} (h : Sat w0 (star (row b o vs true) H) w) (hv : vs ≠ []) :
    ∃ c e, w.heap[b]? = some (.cells c e (0, 0)) := by
  obtain ⟨x, ⟨a, c, d, rfl, rfl, hb⟩, hi⟩ := h
  obtain ⟨v, vs', rfl⟩ : ∃ v vs', vs = v :: vs' := by cases vs with | nil => exact absurd rfl hv | cons v l => exact ⟨v, l, rfl⟩
  have e : Hl.un (rowH b o (v :: vs') true) c b o = some (.val v true) := by
    unfold Hl.un; rw [show rowH b o (v :: vs') true b o = some (.val v true) from rowH_get (i := 0) (by simp)]
  exact (hi.cell _ _ _ _ e).2.2.2 rfl

theorem World.cell_setCell_eq (w : World) (b o : Nat) (v u : Value) (h : w.cell? ⟨b, o, none⟩ = some u) : (w.setCell ⟨b, o, none⟩ v).cell? ⟨b, o, none⟩ = some v := by
  unfold World.cell? at h
  cases hb : w.heap[b]? with
  | none => simp [hb] at h
  | some x =>
    cases x <;> simp [hb] at h
    rename_i c e f
    have hlt : o < c.size := by
      rcases Nat.lt_or_ge o c.size with q | q
      · exact q
      · simp [Array.getElem?_eq_none q] at h
    unfold World.cell? World.setCell
    simp [Array.getElem?_modify, hb, hlt]

theorem World.cell_setCell_ne (w : World) (a a' : Addr) (v : Value) (h : a'.block ≠ a.block ∨ a'.off ≠ a.off) : (w.setCell a v).cell? a' = w.cell? a' := by
  by_cases hb : a'.block = a.block
  · have ho : a'.off ≠ a.off := h.resolve_left (fun q => q hb)
    unfold World.cell? World.setCell
    simp only [Array.getElem?_modify]
    rw [if_pos hb.symm]
    cases hx : w.heap[a'.block]? with
    | none => simp [hx]
    | some x =>
      cases x <;> simp [hx]
      rename_i c e f
      by_cases hs : a.spot.isSome
      · simp [hs]
      · simp [hs, Array.getElem?_setIfInBounds, Ne.symm ho]
  · unfold World.cell? World.setCell
    simp only [Array.getElem?_modify]
    rw [if_neg (fun q => hb q.symm)]

theorem World.heap_setCell (w : World) (a : Addr) (v : Value) (k : Nat) : (w.setCell a v).heap[k]? = if k = a.block then (w.heap[k]?).map (fun | .cells c e f => .cells (if a.spot.isSome then c else c.setIfInBounds a.off v) e f | o => o) else w.heap[k]? := by
  unfold World.setCell
  simp only [Array.getElem?_modify]
  by_cases h : a.block = k
  · rw [if_pos h, if_pos h.symm]
    cases w.heap[k]? with
    | none => rfl
    | some x => cases x <;> rfl
  · rw [if_neg h, if_neg (Ne.symm h)]

theorem World.frozen_setCell (w : World) (a a' : Addr) (v : Value) : (w.setCell a v).frozen? a' = w.frozen? a' := by
  unfold World.frozen?
  rw [World.heap_setCell]
  by_cases h : a'.block = a.block
  · rw [if_pos h]
    cases hx : w.heap[a'.block]? with
    | none => simp
    | some x => cases x <;> simp
  · rw [if_neg h]

/-- A store into one cell of a row. -/
theorem Sat.store {w0 w : World} {b o : Nat} {vs : List Value} {z : Bool} {H : HProp} (h : Sat w0 (star (row b o vs z) H) w) {i : Nat} (hi : i < vs.length) (v : Value) :
    Sat w0 (star (row b o (vs.set i v) z) H) (w.setCell ⟨b, o + i, none⟩ v) := by
  have hl := (h.load hi).1
  have hbb := (h.row_lt (by intro e; simp [e] at hi)).1
  obtain ⟨x, ⟨a, c, d, rfl, rfl, hb⟩, hin⟩ := h
  refine ⟨Hl.un (rowH b o (vs.set i v) z) c, ⟨_, c, ?_, rfl, rfl, hb⟩, ?_, ?_, ?_⟩
  · intro p q
    rcases d p q with e | e
    · left; revert e; unfold rowH; split
      · simp [List.getElem?_set]; intro h1; by_cases h2 : i = q - o
        · subst h2; omega
        · simp [h2]; exact h1
      · simp
    · exact .inr e
  · intro p q u z' hu
    have hne_or : (p = b ∧ q = o + i) ∨ ¬ (p = b ∧ q = o + i) := Classical.em _
    rcases hne_or with ⟨rfl, rfl⟩ | hne
    · have e : Hl.un (rowH p o (vs.set i v) z) c p (o + i) = some (.val v z) := by
        unfold Hl.un; rw [rowH_get (by simpa using hi)]; simp
      rw [e] at hu; cases hu
      have e0 : Hl.un (rowH p o vs z) c p (o + i) = some (.val vs[i] z) := by unfold Hl.un; rw [rowH_get hi]
      have h0 := hin.cell _ _ _ _ e0
      refine ⟨h0.1, World.cell_setCell_eq _ _ _ _ _ hl, by rw [World.frozen_setCell]; exact h0.2.2.1, fun hz => ?_⟩
      obtain ⟨c', e', he⟩ := h0.2.2.2 hz
      rw [World.heap_setCell, if_pos rfl, he]; exact ⟨_, _, rfl⟩
    · have e0 : Hl.un (rowH b o vs z) c p q = some (.val u z') := by
        revert hu; unfold Hl.un rowH
        by_cases hpq : p = b ∧ o ≤ q
        · have hiq : i ≠ q - o := fun h => hne ⟨hpq.1, by omega⟩
          simp only [hpq, and_self, if_true]
          rw [List.getElem?_set_ne hiq]; exact id
        · simp only [hpq, if_false]; exact id
      have h0 := hin.cell _ _ _ _ e0
      refine ⟨h0.1, ?_, by rw [World.frozen_setCell]; exact h0.2.2.1, fun hz => ?_⟩
      · rw [World.cell_setCell_ne]; exact h0.2.1
        simp only; by_cases hp : p = b
        · right; intro hq; exact hne ⟨hp, hq⟩
        · left; exact hp
      · obtain ⟨c', e', he⟩ := h0.2.2.2 hz
        rw [World.heap_setCell]; split
        · rw [he]; exact ⟨_, _, rfl⟩
        · exact ⟨_, _, he⟩
  · intro p q x hx
    have e0 : Hl.un (rowH b o vs z) c p q = some (.obj x) := by
      revert hx; unfold Hl.un rowH
      by_cases hpq : p = b ∧ o ≤ q
      · simp only [hpq, and_self, if_true]
        rw [List.getElem?_set]
        by_cases h2 : i = q - o
        · subst h2; simp [hi]
        · simp [h2]
      · simp only [hpq, if_false]; exact id
    have h0 := hin.obj _ _ _ e0
    refine ⟨h0.1, h0.2.1, ?_, h0.2.2.2⟩
    rw [World.heap_setCell]
    split
    · rename_i hpb
      have : p = b := hpb
      subst this
      exfalso
      unfold World.cell? at hl
      rw [h0.2.2.1] at hl
      have := h0.2.2.2
      cases x <;> simp [Obj.plain] at this hl
    · exact h0.2.2.1
  · exact hin.below.setCell hbb _

/-- A new row. -/
theorem World.cell_push (w : World) (x : Obj) (b o : Nat) (h : b < w.heap.size) : ({ w with heap := w.heap.push x } : World).cell? ⟨b, o, none⟩ = w.cell? ⟨b, o, none⟩ := by
  unfold World.cell?; simp [Array.getElem?_push, Nat.ne_of_lt h]
theorem World.frozen_push (w : World) (x : Obj) (b o : Nat) (h : b < w.heap.size) : ({ w with heap := w.heap.push x } : World).frozen? ⟨b, o, none⟩ = w.frozen? ⟨b, o, none⟩ := by
  unfold World.frozen?; simp [Array.getElem?_push, Nat.ne_of_lt h]

theorem In.lt {w0 w : World} {h : Hl} (hi : In w0 h w) {b o : Nat} {r : Res} (e : h b o = some r) : b < w.heap.size := by
  cases r with
  | val v z =>
    have := (hi.cell _ _ _ _ e).2.1
    unfold World.cell? at this
    rcases Nat.lt_or_ge b w.heap.size with hlt | hge
    · exact hlt
    · simp [Array.getElem?_eq_none hge] at this
  | obj x =>
    have := (hi.obj _ _ _ e).2.2.1
    rcases Nat.lt_or_ge b w.heap.size with hlt | hge
    · exact hlt
    · simp [Array.getElem?_eq_none hge] at this

theorem In.push {w0 w : World} {h : Hl} (hi : In w0 h w) (x : Obj) : In w0 h { w with heap := w.heap.push x } := by
  refine ⟨fun b o v z e => ?_, fun b o y e => ?_, hi.below.alloc hi.below.size x⟩
  · have hlt := hi.lt e
    have h0 := hi.cell _ _ _ _ e
    refine ⟨h0.1, by rw [World.cell_push _ _ _ _ hlt]; exact h0.2.1, by rw [World.frozen_push _ _ _ _ hlt]; exact h0.2.2.1, fun hz => ?_⟩
    obtain ⟨c, e', he⟩ := h0.2.2.2 hz
    exact ⟨c, e', by simp only [Array.getElem?_push, Nat.ne_of_lt hlt, if_false]; exact he⟩
  · have hlt := hi.lt e
    have h0 := hi.obj _ _ _ e
    exact ⟨h0.1, h0.2.1, by simp only [Array.getElem?_push, Nat.ne_of_lt hlt, if_false]; exact h0.2.2.1, h0.2.2.2⟩

theorem Sat.new {w0 w : World} {H : HProp} (h : Sat w0 H w) (vs : List Value) (t : TypeId) (z : Bool) :
    Sat w0 (star (row w.heap.size 0 vs z) H) { w with heap := w.heap.push (.cells vs.toArray t) } := by
  obtain ⟨x, hx, hin⟩ := h
  have hfree : ∀ o, x w.heap.size o = none := fun o => by
    cases e : x w.heap.size o with
    | none => rfl
    | some r => exact absurd (hin.lt e) (Nat.lt_irrefl _)
  have hd : Hl.Disj (rowH w.heap.size 0 vs z) x := fun i j => by
    by_cases hi : i = w.heap.size
    · subst hi; exact .inr (hfree j)
    · left; unfold rowH; rw [if_neg (fun q => hi q.1)]
  refine ⟨_, ⟨_, x, hd, rfl, rfl, hx⟩, ?_, ?_, (hin.push _).below⟩
  · intro b o v z' e
    unfold Hl.un at e
    cases hr : rowH w.heap.size 0 vs z b o with
    | none => rw [hr] at e; exact (hin.push _).cell _ _ _ _ e
    | some r =>
      rw [hr] at e; cases e
      unfold rowH at hr
      split at hr
      · rename_i hbo
        obtain ⟨rfl, _⟩ := hbo
        simp only [Nat.sub_zero, Option.map_eq_some_iff] at hr
        obtain ⟨v', hv', e'⟩ := hr
        cases e'
        refine ⟨hin.below.size, ?_, ?_, fun _ => ⟨vs.toArray, t, by simp⟩⟩
        · unfold World.cell?; simp [hv']
        · unfold World.frozen?; simp
      · cases hr
  · intro b o y e
    unfold Hl.un at e
    cases hr : rowH w.heap.size 0 vs z b o with
    | none => rw [hr] at e; exact (hin.push _).obj _ _ _ e
    | some r =>
      rw [hr] at e; cases e
      unfold rowH at hr; split at hr
      · simp at hr
      · cases hr

/-- A new object that is no row. -/
theorem Sat.newObj {w0 w : World} {H : HProp} (h : Sat w0 H w) (x : Obj) (hp : Obj.plain x = true) :
    Sat w0 (star (objAt w.heap.size x) H) { w with heap := w.heap.push x } := by
  obtain ⟨y, hy, hin⟩ := h
  have hfree : ∀ o, y w.heap.size o = none := fun o => by
    cases e : y w.heap.size o with
    | none => rfl
    | some r => exact absurd (hin.lt e) (Nat.lt_irrefl _)
  have hd : Hl.Disj (objH w.heap.size x) y := fun i j => by
    by_cases hi : i = w.heap.size
    · subst hi; exact .inr (hfree j)
    · left; unfold objH; rw [if_neg (fun q => hi q.1)]
  refine ⟨_, ⟨_, y, hd, rfl, rfl, hy⟩, ?_, ?_, (hin.push _).below⟩
  · intro b o v z e
    unfold Hl.un at e
    cases hr : objH w.heap.size x b o with
    | none => rw [hr] at e; exact (hin.push _).cell _ _ _ _ e
    | some r =>
      rw [hr] at e; cases e
      unfold objH at hr; split at hr <;> simp at hr
  · intro b o u e
    unfold Hl.un at e
    cases hr : objH w.heap.size x b o with
    | none => rw [hr] at e; exact (hin.push _).obj _ _ _ e
    | some r =>
      rw [hr] at e; cases e
      unfold objH at hr; split at hr
      · rename_i hbo; obtain ⟨rfl, rfl⟩ := hbo; cases hr
        exact ⟨hin.below.size, rfl, by simp, hp⟩
      · cases hr

theorem Sat.obj {w0 w : World} {b : Nat} {x : Obj} {H : HProp} (h : Sat w0 (star (objAt b x) H) w) : w0.heap.size ≤ b ∧ b < w.heap.size ∧ w.heap[b]? = some x ∧ Obj.plain x = true := by
  obtain ⟨y, ⟨a, c, d, rfl, rfl, hc⟩, hin⟩ := h
  have e : Hl.un (objH b x) c b 0 = some (.obj x) := by unfold Hl.un objH; simp
  have h0 := hin.obj _ _ _ e
  exact ⟨h0.1, hin.lt e, h0.2.2.1, h0.2.2.2⟩

theorem Sat.setObj {w0 w : World} {b : Nat} {x : Obj} {H : HProp} (h : Sat w0 (star (objAt b x) H) w) (y : Obj) (hy : Obj.plain y = true) :
    Sat w0 (star (objAt b y) H) { w with heap := w.heap.setIfInBounds b y } := by
  have hob := h.obj
  obtain ⟨u, ⟨a, c, d, rfl, rfl, hc⟩, hin⟩ := h
  have hcb : ∀ o r, c b o = some r → False := fun o r e => by
    have eb : Hl.un (objH b x) c b 0 = some (.obj x) := by unfold Hl.un objH; simp
    by_cases ho : o = 0
    · subst ho; rcases d b 0 with e' | e'
      · simp [objH] at e'
      · rw [e'] at e; cases e
    · have e2 : Hl.un (objH b x) c b o = some r := by unfold Hl.un objH; simp [ho, e]
      cases r with
      | val v z =>
        have := (hin.cell _ _ _ _ e2).2.1
        unfold World.cell? at this; rw [hob.2.2.1] at this
        have hp := hob.2.2.2
        cases x <;> simp [Obj.plain] at hp this
      | obj q => exact ho (hin.obj _ _ _ e2).2.1
  refine ⟨Hl.un (objH b y) c, ⟨_, c, ?_, rfl, rfl, hc⟩, ?_, ?_, ?_⟩
  · intro p q; rcases d p q with e | e
    · left; revert e; unfold objH; split <;> simp
    · exact .inr e
  · intro p q v z e
    unfold Hl.un at e
    cases hr : objH b y p q with
    | some r => rw [hr] at e; cases e; unfold objH at hr; split at hr <;> simp at hr
    | none =>
      rw [hr] at e
      have hpb : p ≠ b := fun q' => by subst q'; exact hcb _ _ e
      have e2 : Hl.un (objH b x) c p q = some (.val v z) := by unfold Hl.un objH; simp [hpb, e]
      have h0 := hin.cell _ _ _ _ e2
      have hh : ({ w with heap := w.heap.setIfInBounds b y } : World).heap[p]? = w.heap[p]? := by simp [Array.getElem?_setIfInBounds, Ne.symm hpb]
      refine ⟨h0.1, ?_, ?_, ?_⟩
      · unfold World.cell? at *; rw [hh]; exact h0.2.1
      · unfold World.frozen? at *; rw [hh]; exact h0.2.2.1
      · rw [hh]; exact h0.2.2.2
  · intro p q r e
    unfold Hl.un at e
    cases hr : objH b y p q with
    | some r' =>
      rw [hr] at e; cases e; unfold objH at hr; split at hr
      · rename_i hpq; obtain ⟨rfl, rfl⟩ := hpq; cases hr
        refine ⟨hob.1, rfl, ?_, hy⟩
        simp [hob.2.1]
      · cases hr
    | none =>
      rw [hr] at e
      have hpb : p ≠ b := fun q' => by subst q'; exact hcb _ _ e
      have e2 : Hl.un (objH b x) c p q = some (.obj r) := by unfold Hl.un objH; simp [hpb, e]
      have h0 := hin.obj _ _ _ e2
      have hh : ({ w with heap := w.heap.setIfInBounds b y } : World).heap[p]? = w.heap[p]? := by simp [Array.getElem?_setIfInBounds, Ne.symm hpb]
      exact ⟨h0.1, h0.2.1, by rw [hh]; exact h0.2.2.1, h0.2.2.2⟩
  · have hb0 := hob.1
    refine hin.below.trans ⟨rfl, rfl, rfl, by simp, fun k hk => ?_⟩
    have : b ≠ k := by omega
    simp [Array.getElem?_setIfInBounds, this]

theorem Sat.drew {w0 w : World} {H : HProp} (h : Sat w0 H w) (n : Nat) : Sat w0 H { w with drawn := n } := by
  obtain ⟨x, hx, hin⟩ := h
  exact ⟨x, hx, fun b o v z e => hin.cell b o v z e, fun b o y e => hin.obj b o y e, ⟨hin.below.os, hin.below.tape, hin.below.output, hin.below.size, hin.below.block⟩⟩

end Go.Eng
