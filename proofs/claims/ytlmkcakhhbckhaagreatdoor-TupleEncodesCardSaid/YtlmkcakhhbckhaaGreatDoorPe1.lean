/- Part of a proof. -/
import Derived.Calls
import Derived.Below
import Derived.WalkKit
import Derived.LaidEql
import Derived.Laws.StructEq
set_option linter.unusedSimpArgs false
set_option linter.unusedVariables false
set_option maxRecDepth 20000
namespace Go
abbrev ZJc := @Array.getElem?_toList
abbrev ZJd := @Nat.le_refl
abbrev ZJe := @Nat.mul_le_mul_right
abbrev ZJf := @Int.eq_ofNat_of_zero_le
abbrev ZJg := @List.mem_singleton
abbrev ZJh := @Nat.lt_or_ge
abbrev ZJj := @List.getElem?_map
abbrev ZJk := @Int.toNat_zero
abbrev ZJl := @Bool.not_not
abbrev ZJm := @Bool.not_eq_true'
abbrev ZJn := @List.getD_eq_getElem?_getD
abbrev ZJo := @Nat.eq_of_beq_eq_true
abbrev ZJp := @List.length_take
abbrev ZJq := @List.getElem?_eq_getElem
abbrev ZJr := @Bool.cond_eq_ite
abbrev ZJs := @List.length_append
abbrev ZJt := @List.mem_cons_of_mem
abbrev ZJu := @Int.toNat_natCast
abbrev ZJv := @List.mem_cons_self
abbrev ZJw := @List.map_cons
abbrev ZJx := @List.length_map
abbrev ZJy := @Int.le_refl
abbrev ZJz := @List.take_of_length_le
abbrev ZJA := @Nat.le_of_ble_eq_true
abbrev ZJB := @List.length_drop
abbrev ZJC := @List.eq_nil_of_length_eq_zero
abbrev ZJD := @List.map_append
abbrev ZJF := @List.getElem?_append_left
abbrev ZJG := @List.getElem?_append_right
abbrev ZJH := @List.length_cons
abbrev ZJL := @List.append_assoc
abbrev ZJM := @List.getElem?_drop
end Go
namespace Go.Eng
open Go.RowKit (Below)
inductive Res where
 | val (v : Value) (z : Bool)
 | obj (o : Obj)
abbrev Hl := Nat -> Nat -> Option Res
def Hl.none : Hl := fun _ _ => Option.none
def Hl.Disj (a b : Hl) : Prop := ∀ i j, a i j = Option.none \/ b i j = Option.none
def Hl.un (a b : Hl) : Hl := fun i j => match a i j with | some r => some r | Option.none => b i j
abbrev Zd := Hl -> Prop
def emp : Zd := fun h => h = Hl.none
def Zg (A B : Zd) : Zd := fun h => ∃ a b, Hl.Disj a b /\ h = Hl.un a b /\ A a /\ B b
def big : List Zd -> Zd
 | [] => emp
 | A :: l => Zg A (big l)
def Zd.pure (p : Prop) : Zd := fun h => p /\ h = Hl.none
theorem Hl.Disj.symm {a b : Hl} (h : Hl.Disj a b) : Hl.Disj b a := fun i j => (h i j).symm
theorem Hl.un_comm {a b : Hl} (h : Hl.Disj a b) : Hl.un a b = Hl.un b a := by
 funext i j; unfold Hl.un
 rcases h i j with e | e <;> rw [e] <;> cases a i j <;> cases b i j <;> rfl
theorem Hl.un_none (a : Hl) : Hl.un a Hl.none = a := by
 funext i j; unfold Hl.un Hl.none; cases a i j <;> rfl
theorem Hl.un_assoc (a b c : Hl) : Hl.un (Hl.un a b) c = Hl.un a (Hl.un b c) := by
 funext i j; unfold Hl.un; cases a i j <;> rfl
theorem Hl.disj_un {a b c : Hl} : Hl.Disj (Hl.un a b) c ↔ Hl.Disj a c /\ Hl.Disj b c := by
 constructor
 ·intro h; constructor <;> intro i j <;> have := h i j <;> unfold Hl.un at this <;> revert this <;> cases a i j <;> cases b i j <;> cases c i j <;> simp
 ·rintro ⟨h1, h2⟩ i j; have e1 := h1 i j; have e2 := h2 i j; unfold Hl.un; revert e1 e2; cases a i j <;> cases b i j <;> cases c i j <;> simp
theorem Hl.disj_none (a : Hl) : Hl.Disj a Hl.none := fun _ _ => .inr rfl
theorem ZP (A B : Zd) : Zg A B = Zg B A := by
 funext h; apply propext; constructor
 ·rintro ⟨a, b, d, rfl, ha, hb⟩; exact ⟨b, a, d.symm, Hl.un_comm d, hb, ha⟩
 ·rintro ⟨a, b, d, rfl, ha, hb⟩; exact ⟨b, a, d.symm, Hl.un_comm d, hb, ha⟩
theorem Zc (A B C : Zd) : Zg (Zg A B) C = Zg A (Zg B C) := by
 funext h; apply propext; constructor
 ·rintro ⟨ab, c, d, rfl, ⟨a, b, d', rfl, ha, hb⟩, hc⟩
  obtain ⟨d1, d2⟩ := Hl.disj_un.1 d
  exact ⟨a, Hl.un b c, (Hl.disj_un.2 ⟨d'.symm, d1.symm⟩).symm, Hl.un_assoc _ _ _, ha, b, c, d2, rfl, hb, hc⟩
 ·rintro ⟨a, bc, d, rfl, ha, b, c, d', rfl, hb, hc⟩
  obtain ⟨d1, d2⟩ := Hl.disj_un.1 d.symm
  exact ⟨Hl.un a b, c, Hl.disj_un.2 ⟨d2.symm, d'⟩, (Hl.un_assoc _ _ _).symm, ⟨a, b, d1.symm, rfl, ha, hb⟩, hc⟩
theorem star_emp (A : Zd) : Zg A emp = A := by
 funext h; apply propext; constructor
 ·rintro ⟨a, b, d, rfl, ha, rfl⟩; rw [Hl.un_none]; exact ha
 ·intro ha; exact ⟨h, Hl.none, Hl.disj_none _, (Hl.un_none _).symm, ha, rfl⟩
theorem ZbT (A : Zd) : Zg emp A = A := by rw [ZP, star_emp]
theorem Zq (A B C : Zd) : Zg A (Zg B C) = Zg B (Zg A C) := by
 rw [<- Zc, ZP A B, Zc]
theorem Zo {A A' B B' : Zd} (h1 : ∀ h, A h -> A' h) (h2 : ∀ h, B h -> B' h) : ∀ h, Zg A B h -> Zg A' B' h := by
 rintro h ⟨a, b, d, rfl, ha, hb⟩; exact ⟨a, b, d, rfl, h1 _ ha, h2 _ hb⟩
theorem star_pure (p : Prop) (A : Zd) (h : Hl) : Zg (Zd.pure p) A h ↔ p /\ A h := by
 constructor
 ·rintro ⟨a, b, d, rfl, ⟨hp, rfl⟩, hb⟩; refine ⟨hp, ?_⟩; rw [Hl.un_comm d, Hl.un_none]; exact hb
 ·rintro ⟨hp, ha⟩; exact ⟨Hl.none, h, (Hl.disj_none _).symm, by rw [Hl.un_comm (Hl.disj_none _).symm, Hl.un_none], ⟨hp, rfl⟩, ha⟩
theorem Zei (l m : List Zd) : big (l ++ m) = Zg (big l) (big m) := by
 induction l with
 | nil => simp [big, ZbT]
 | cons A l ih => simp [big, ih, Zc]
theorem Zjz (l m : List Zd) (A : Zd) : big (l ++ A :: m) = Zg A (big (l ++ m)) := by
 rw [Zei, Zei]; simp only [big]; rw [Zq]
def Obj.plain : Obj -> Bool
 | .cells .. => false
 | _ => true
structure In (w0 : World) (h : Hl) (w : World) : Prop where
 cell : ∀ b o v z, h b o = some (.val v z) -> w0.heap.size <= b /\ w.cell? ⟨b, o, none⟩ = some v /\ w.frozen? ⟨b, o, none⟩ = false ∧
  (z = true -> ∃ c e, w.heap[b]? = some (.cells c e (0, 0)))
 obj : ∀ b o x, h b o = some (.obj x) -> w0.heap.size <= b /\ o = 0 /\ w.heap[b]? = some x /\ Obj.plain x = true
 below : Below w0.heap.size w0 w
def Sat (w0 : World) (H : Zd) (w : World) : Prop := ∃ h, H h /\ In w0 h w
theorem Sat.mono {w0 w : World} {H H' : Zd} (h : Sat w0 H w) (hh : ∀ x, H x -> H' x) : Sat w0 H' w :=
 let ⟨x, hx, hi⟩ := h; ⟨x, hh _ hx, hi⟩
theorem In.sub {w0 w : World} {a b : Hl} (h : In w0 b w) (hs : ∀ i j r, a i j = some r -> b i j = some r) : In w0 a w :=
 ⟨fun _ _ _ _ e => h.cell _ _ _ _ (hs _ _ _ e), fun _ _ _ e => h.obj _ _ _ (hs _ _ _ e), h.below⟩
theorem Sat.drop {w0 w : World} {A B : Zd} (h : Sat w0 (Zg A B) w) : Sat w0 B w := by
 obtain ⟨x, ⟨a, b, d, rfl, ha, hb⟩, hi⟩ := h
 refine ⟨b, hb, hi.sub fun i j r e => ?_⟩
 unfold Hl.un
 rcases d i j with e' | e'
 ·rw [e']; exact e
 ·rw [e'] at e; cases e
def Zbu (b o : Nat) (vs : List Value) (z : Bool) : Hl := fun b' o' => if b' = b /\ o <= o' then (vs[o' - o]?).map (Res.val · z) else Option.none
def row (b o : Nat) (vs : List Value) (z : Bool) : Zd := fun h => h = Zbu b o vs z
def Zfp (b : Nat) (x : Obj) : Hl := fun b' o' => if b' = b /\ o' = 0 then some (.obj x) else Option.none
def Zf7 (b : Nat) (x : Obj) : Zd := fun h => h = Zfp b x
theorem ZpZ (b o : Nat) (z : Bool) : Zbu b o [] z = Hl.none := by funext i j; simp [Zbu, Hl.none]
theorem ZfG (b o : Nat) (z : Bool) : row b o [] z = emp := by unfold row emp; rw [ZpZ]
theorem Zea {b o : Nat} {vs : List Value} {z : Bool} {i : Nat} (h : i < vs.length) : Zbu b o vs z b (o + i) = some (.val vs[i] z) := by
 unfold Zbu; simp [ZJq h]
theorem Sat.below {w0 w : World} {H : Zd} (h : Sat w0 H w) : Below w0.heap.size w0 w := let ⟨_, _, hi⟩ := h; hi.below
theorem Sat.row_lt {w0 w : World} {b o : Nat} {vs : List Value} {z : Bool} {H : Zd} (h : Sat w0 (Zg (row b o vs z) H) w) (hv : vs ≠ []) : w0.heap.size <= b /\ b < w.heap.size := by
 obtain ⟨x, ⟨a, c, d, rfl, rfl, hb⟩, hi⟩ := h
 obtain ⟨v, vs', rfl⟩ : ∃ v vs', vs = v :: vs' := by cases vs with | nil => exact absurd rfl hv | cons v l => exact ⟨v, l, rfl⟩
 have e : Hl.un (Zbu b o (v :: vs') z) c b o = some (.val v z) := by
  unfold Hl.un; rw [show Zbu b o (v :: vs') z b o = some (.val v z) from Zea (i := 0) (by simp)]
 have hc := hi.cell _ _ _ _ e
 refine ⟨hc.1, ?_⟩
 have := hc.2.1
 unfold World.cell? at this
 rcases ZJh b w.heap.size with hlt | hge
 ·exact hlt
 ·simp [Array.getElem?_eq_none hge] at this
theorem Sat.load {w0 w : World} {b o : Nat} {vs : List Value} {z : Bool} {H : Zd} (h : Sat w0 (Zg (row b o vs z) H) w) {i : Nat} (hi : i < vs.length) :
  w.cell? ⟨b, o + i, none⟩ = some vs[i] /\ w.frozen? ⟨b, o + i, none⟩ = false := by
 obtain ⟨x, ⟨a, c, d, rfl, rfl, hb⟩, hin⟩ := h
 have e : Hl.un (Zbu b o vs z) c b (o + i) = some (.val vs[i] z) := by
  unfold Hl.un; rw [Zea hi]
 exact ⟨(hin.cell _ _ _ _ e).2.1, (hin.cell _ _ _ _ e).2.2.1⟩
theorem Sat.load_strict {w0 w : World} {b o : Nat} {vs : List Value} {H : Zd} (h : Sat w0 (Zg (row b o vs true) H) w) (hv : vs ≠ []) :
  ∃ c e, w.heap[b]? = some (.cells c e (0, 0)) := by
 obtain ⟨x, ⟨a, c, d, rfl, rfl, hb⟩, hi⟩ := h
 obtain ⟨v, vs', rfl⟩ : ∃ v vs', vs = v :: vs' := by cases vs with | nil => exact absurd rfl hv | cons v l => exact ⟨v, l, rfl⟩
 have e : Hl.un (Zbu b o (v :: vs') true) c b o = some (.val v true) := by
  unfold Hl.un; rw [show Zbu b o (v :: vs') true b o = some (.val v true) from Zea (i := 0) (by simp)]
 exact (hi.cell _ _ _ _ e).2.2.2 rfl
theorem World.cell_setCell_eq (w : World) (b o : Nat) (v u : Value) (h : w.cell? ⟨b, o, none⟩ = some u) : (w.setCell ⟨b, o, none⟩ v).cell? ⟨b, o, none⟩ = some v := by
 unfold World.cell? at h
 cases hb : w.heap[b]? with
 | none => simp [hb] at h
 | some x =>
  cases x <;> simp [hb] at h
  rename_i c e f
  have hlt : o < c.size := by
   rcases ZJh o c.size with q | q
   ·exact q
   ·simp [Array.getElem?_eq_none q] at h
  unfold World.cell? World.setCell
  simp [Array.getElem?_modify, hb, hlt]
theorem World.cell_setCell_ne (w : World) (a a' : Addr) (v : Value) (h : a'.block ≠ a.block \/ a'.off ≠ a.off) : (w.setCell a v).cell? a' = w.cell? a' := by
 by_cases hb : a'.block = a.block
 ·have ho : a'.off ≠ a.off := h.resolve_left (fun q => q hb)
  unfold World.cell? World.setCell
  simp only [Array.getElem?_modify]
  rw [if_pos hb.symm]
  cases hx : w.heap[a'.block]? with
  | none => simp [hx]
  | some x =>
   cases x <;> simp [hx]
   rename_i c e f
   by_cases hs : a.spot.isSome
   ·simp [hs]
   ·simp [hs, Array.getElem?_setIfInBounds, Ne.symm ho]
 ·unfold World.cell? World.setCell
  simp only [Array.getElem?_modify]
  rw [if_neg (fun q => hb q.symm)]
theorem World.heap_setCell (w : World) (a : Addr) (v : Value) (k : Nat) : (w.setCell a v).heap[k]? = if k = a.block then (w.heap[k]?).map (fun | .cells c e f => .cells (if a.spot.isSome then c else c.setIfInBounds a.off v) e f | o => o) else w.heap[k]? := by
 unfold World.setCell
 simp only [Array.getElem?_modify]
 by_cases h : a.block = k
 ·rw [if_pos h, if_pos h.symm]
  cases w.heap[k]? with
  | none => rfl
  | some x => cases x <;> rfl
 ·rw [if_neg h, if_neg (Ne.symm h)]
theorem World.frozen_setCell (w : World) (a a' : Addr) (v : Value) : (w.setCell a v).frozen? a' = w.frozen? a' := by
 unfold World.frozen?
 rw [World.heap_setCell]
 by_cases h : a'.block = a.block
 ·rw [if_pos h]
  cases hx : w.heap[a'.block]? with
  | none => simp
  | some x => cases x <;> simp
 ·rw [if_neg h]
theorem Sat.store {w0 w : World} {b o : Nat} {vs : List Value} {z : Bool} {H : Zd} (h : Sat w0 (Zg (row b o vs z) H) w) {i : Nat} (hi : i < vs.length) (v : Value) :
  Sat w0 (Zg (row b o (vs.set i v) z) H) (w.setCell ⟨b, o + i, none⟩ v) := by
 have hl := (h.load hi).1
 have hbb := (h.row_lt (by intro e; simp [e] at hi)).1
 obtain ⟨x, ⟨a, c, d, rfl, rfl, hb⟩, hin⟩ := h
 refine ⟨Hl.un (Zbu b o (vs.set i v) z) c, ⟨_, c, ?_, rfl, rfl, hb⟩, ?_, ?_, ?_⟩
 ·intro p q
  rcases d p q with e | e
  ·left; revert e; unfold Zbu; split
   ·simp [List.getElem?_set]; intro h1; by_cases h2 : i = q - o
    ·subst h2; omega
    ·simp [h2]; exact h1
   ·simp
  ·exact .inr e
 ·intro p q u z' hu
  have hne_or : (p = b /\ q = o + i) \/ ¬ (p = b /\ q = o + i) := Classical.em _
  rcases hne_or with ⟨rfl, rfl⟩ | hne
  ·have e : Hl.un (Zbu p o (vs.set i v) z) c p (o + i) = some (.val v z) := by
    unfold Hl.un; rw [Zea (by simpa using hi)]; simp
   rw [e] at hu; cases hu
   have e0 : Hl.un (Zbu p o vs z) c p (o + i) = some (.val vs[i] z) := by unfold Hl.un; rw [Zea hi]
   have h0 := hin.cell _ _ _ _ e0
   refine ⟨h0.1, World.cell_setCell_eq _ _ _ _ _ hl, by rw [World.frozen_setCell]; exact h0.2.2.1, fun hz => ?_⟩
   obtain ⟨c', e', he⟩ := h0.2.2.2 hz
   rw [World.heap_setCell, if_pos rfl, he]; exact ⟨_, _, rfl⟩
  ·have e0 : Hl.un (Zbu b o vs z) c p q = some (.val u z') := by
    revert hu; unfold Hl.un Zbu
    by_cases hpq : p = b /\ o <= q
    ·have hiq : i ≠ q - o := fun h => hne ⟨hpq.1, by omega⟩
     simp only [hpq, and_self, if_true]
     rw [List.getElem?_set_ne hiq]; exact id
    ·simp only [hpq, if_false]; exact id
   have h0 := hin.cell _ _ _ _ e0
   refine ⟨h0.1, ?_, by rw [World.frozen_setCell]; exact h0.2.2.1, fun hz => ?_⟩
   ·rw [World.cell_setCell_ne]; exact h0.2.1
    simp only; by_cases hp : p = b
    ·right; intro hq; exact hne ⟨hp, hq⟩
    ·left; exact hp
   ·obtain ⟨c', e', he⟩ := h0.2.2.2 hz
    rw [World.heap_setCell]; split
    ·rw [he]; exact ⟨_, _, rfl⟩
    ·exact ⟨_, _, he⟩
 ·intro p q x hx
  have e0 : Hl.un (Zbu b o vs z) c p q = some (.obj x) := by
   revert hx; unfold Hl.un Zbu
   by_cases hpq : p = b /\ o <= q
   ·simp only [hpq, and_self, if_true]
    rw [List.getElem?_set]
    by_cases h2 : i = q - o
    ·subst h2; simp [hi]
    ·simp [h2]
   ·simp only [hpq, if_false]; exact id
  have h0 := hin.obj _ _ _ e0
  refine ⟨h0.1, h0.2.1, ?_, h0.2.2.2⟩
  rw [World.heap_setCell]
  split
  ·rename_i hpb
   have : p = b := hpb
   subst this
   exfalso
   unfold World.cell? at hl
   rw [h0.2.2.1] at hl
   have := h0.2.2.2
   cases x <;> simp [Obj.plain] at this hl
  ·exact h0.2.2.1
 ·exact hin.below.setCell hbb _
theorem World.cell_push (w : World) (x : Obj) (b o : Nat) (h : b < w.heap.size) : ({ w with heap := w.heap.push x } : World).cell? ⟨b, o, none⟩ = w.cell? ⟨b, o, none⟩ := by
 unfold World.cell?; simp [Array.getElem?_push, Nat.ne_of_lt h]
theorem World.frozen_push (w : World) (x : Obj) (b o : Nat) (h : b < w.heap.size) : ({ w with heap := w.heap.push x } : World).frozen? ⟨b, o, none⟩ = w.frozen? ⟨b, o, none⟩ := by
 unfold World.frozen?; simp [Array.getElem?_push, Nat.ne_of_lt h]
theorem In.lt {w0 w : World} {h : Hl} (hi : In w0 h w) {b o : Nat} {r : Res} (e : h b o = some r) : b < w.heap.size := by
 cases r with
 | val v z =>
  have := (hi.cell _ _ _ _ e).2.1
  unfold World.cell? at this
  rcases ZJh b w.heap.size with hlt | hge
  ·exact hlt
  ·simp [Array.getElem?_eq_none hge] at this
 | obj x =>
  have := (hi.obj _ _ _ e).2.2.1
  rcases ZJh b w.heap.size with hlt | hge
  ·exact hlt
  ·simp [Array.getElem?_eq_none hge] at this
theorem In.push {w0 w : World} {h : Hl} (hi : In w0 h w) (x : Obj) : In w0 h { w with heap := w.heap.push x } := by
 refine ⟨fun b o v z e => ?_, fun b o y e => ?_, hi.below.alloc hi.below.size x⟩
 ·have hlt := hi.lt e
  have h0 := hi.cell _ _ _ _ e
  refine ⟨h0.1, by rw [World.cell_push _ _ _ _ hlt]; exact h0.2.1, by rw [World.frozen_push _ _ _ _ hlt]; exact h0.2.2.1, fun hz => ?_⟩
  obtain ⟨c, e', he⟩ := h0.2.2.2 hz
  exact ⟨c, e', by simp only [Array.getElem?_push, Nat.ne_of_lt hlt, if_false]; exact he⟩
 ·have hlt := hi.lt e
  have h0 := hi.obj _ _ _ e
  exact ⟨h0.1, h0.2.1, by simp only [Array.getElem?_push, Nat.ne_of_lt hlt, if_false]; exact h0.2.2.1, h0.2.2.2⟩
theorem Sat.new {w0 w : World} {H : Zd} (h : Sat w0 H w) (vs : List Value) (t : TypeId) (z : Bool) :
  Sat w0 (Zg (row w.heap.size 0 vs z) H) { w with heap := w.heap.push (.cells vs.toArray t) } := by
 obtain ⟨x, hx, hin⟩ := h
 have hfree : ∀ o, x w.heap.size o = none := fun o => by
  cases e : x w.heap.size o with
  | none => rfl
  | some r => exact absurd (hin.lt e) (Nat.lt_irrefl _)
 have hd : Hl.Disj (Zbu w.heap.size 0 vs z) x := fun i j => by
  by_cases hi : i = w.heap.size
  ·subst hi; exact .inr (hfree j)
  ·left; unfold Zbu; rw [if_neg (fun q => hi q.1)]
 refine ⟨_, ⟨_, x, hd, rfl, rfl, hx⟩, ?_, ?_, (hin.push _).below⟩
 ·intro b o v z' e
  unfold Hl.un at e
  cases hr : Zbu w.heap.size 0 vs z b o with
  | none => rw [hr] at e; exact (hin.push _).cell _ _ _ _ e
  | some r =>
   rw [hr] at e; cases e
   unfold Zbu at hr
   split at hr
   ·rename_i hbo
    obtain ⟨rfl, _⟩ := hbo
    simp only [Nat.sub_zero, Option.map_eq_some_iff] at hr
    obtain ⟨v', hv', e'⟩ := hr
    cases e'
    refine ⟨hin.below.size, ?_, ?_, fun _ => ⟨vs.toArray, t, by simp⟩⟩
    ·unfold World.cell?; simp [hv']
    ·unfold World.frozen?; simp
   ·cases hr
 ·intro b o y e
  unfold Hl.un at e
  cases hr : Zbu w.heap.size 0 vs z b o with
  | none => rw [hr] at e; exact (hin.push _).obj _ _ _ e
  | some r =>
   rw [hr] at e; cases e
   unfold Zbu at hr; split at hr
   ·simp at hr
   ·cases hr
theorem Sat.newF {w0 w : World} {H : Zd} (h : Sat w0 H w) (vs : List Value) (t : TypeId) (lo hi : Nat) (hl : vs.length <= lo) :
  Sat w0 (Zg (row w.heap.size 0 vs false) H) { w with heap := w.heap.push (.cells vs.toArray t (lo, hi)) } := by
 obtain ⟨x, hx, hin⟩ := h
 have hfree : ∀ o, x w.heap.size o = none := fun o => by
  cases e : x w.heap.size o with
  | none => rfl
  | some r => exact absurd (hin.lt e) (Nat.lt_irrefl _)
 have hd : Hl.Disj (Zbu w.heap.size 0 vs false) x := fun i j => by
  by_cases hi : i = w.heap.size
  ·subst hi; exact .inr (hfree j)
  ·left; unfold Zbu; rw [if_neg (fun q => hi q.1)]
 refine ⟨_, ⟨_, x, hd, rfl, rfl, hx⟩, ?_, ?_, (hin.push _).below⟩
 ·intro b o v z' e
  unfold Hl.un at e
  cases hr : Zbu w.heap.size 0 vs false b o with
  | none => rw [hr] at e; exact (hin.push _).cell _ _ _ _ e
  | some r =>
   rw [hr] at e; cases e
   unfold Zbu at hr
   split at hr
   ·rename_i hbo
    obtain ⟨rfl, _⟩ := hbo
    simp only [Nat.sub_zero, Option.map_eq_some_iff] at hr
    obtain ⟨v', hv', e'⟩ := hr
    cases e'
    refine ⟨hin.below.size, ?_, ?_, fun q => nomatch q⟩
    ·unfold World.cell?; simp [hv']
    ·unfold World.frozen?
     have hlt : o < vs.length := (List.getElem?_eq_some_iff.1 hv').1
     simp; omega
   ·cases hr
 ·intro b o y e
  unfold Hl.un at e
  cases hr : Zbu w.heap.size 0 vs false b o with
  | none => rw [hr] at e; exact (hin.push _).obj _ _ _ e
  | some r =>
   rw [hr] at e; cases e
   unfold Zbu at hr; split at hr
   ·simp at hr
   ·cases hr
theorem Sat.newObj {w0 w : World} {H : Zd} (h : Sat w0 H w) (x : Obj) (hp : Obj.plain x = true) :
  Sat w0 (Zg (Zf7 w.heap.size x) H) { w with heap := w.heap.push x } := by
 obtain ⟨y, hy, hin⟩ := h
 have hfree : ∀ o, y w.heap.size o = none := fun o => by
  cases e : y w.heap.size o with
  | none => rfl
  | some r => exact absurd (hin.lt e) (Nat.lt_irrefl _)
 have hd : Hl.Disj (Zfp w.heap.size x) y := fun i j => by
  by_cases hi : i = w.heap.size
  ·subst hi; exact .inr (hfree j)
  ·left; unfold Zfp; rw [if_neg (fun q => hi q.1)]
 refine ⟨_, ⟨_, y, hd, rfl, rfl, hy⟩, ?_, ?_, (hin.push _).below⟩
 ·intro b o v z e
  unfold Hl.un at e
  cases hr : Zfp w.heap.size x b o with
  | none => rw [hr] at e; exact (hin.push _).cell _ _ _ _ e
  | some r =>
   rw [hr] at e; cases e
   unfold Zfp at hr; split at hr <;> simp at hr
 ·intro b o u e
  unfold Hl.un at e
  cases hr : Zfp w.heap.size x b o with
  | none => rw [hr] at e; exact (hin.push _).obj _ _ _ e
  | some r =>
   rw [hr] at e; cases e
   unfold Zfp at hr; split at hr
   ·rename_i hbo; obtain ⟨rfl, rfl⟩ := hbo; cases hr
    exact ⟨hin.below.size, rfl, by simp, hp⟩
   ·cases hr
theorem Sat.obj {w0 w : World} {b : Nat} {x : Obj} {H : Zd} (h : Sat w0 (Zg (Zf7 b x) H) w) : w0.heap.size <= b /\ b < w.heap.size /\ w.heap[b]? = some x /\ Obj.plain x = true := by
 obtain ⟨y, ⟨a, c, d, rfl, rfl, hc⟩, hin⟩ := h
 have e : Hl.un (Zfp b x) c b 0 = some (.obj x) := by unfold Hl.un Zfp; simp
 have h0 := hin.obj _ _ _ e
 exact ⟨h0.1, hin.lt e, h0.2.2.1, h0.2.2.2⟩
theorem Sat.setObj {w0 w : World} {b : Nat} {x : Obj} {H : Zd} (h : Sat w0 (Zg (Zf7 b x) H) w) (y : Obj) (hy : Obj.plain y = true) :
  Sat w0 (Zg (Zf7 b y) H) { w with heap := w.heap.setIfInBounds b y } := by
 have hob := h.obj
 obtain ⟨u, ⟨a, c, d, rfl, rfl, hc⟩, hin⟩ := h
 have hcb : ∀ o r, c b o = some r -> False := fun o r e => by
  have eb : Hl.un (Zfp b x) c b 0 = some (.obj x) := by unfold Hl.un Zfp; simp
  by_cases ho : o = 0
  ·subst ho; rcases d b 0 with e' | e'
   ·simp [Zfp] at e'
   ·rw [e'] at e; cases e
  ·have e2 : Hl.un (Zfp b x) c b o = some r := by unfold Hl.un Zfp; simp [ho, e]
   cases r with
   | val v z =>
    have := (hin.cell _ _ _ _ e2).2.1
    unfold World.cell? at this; rw [hob.2.2.1] at this
    have hp := hob.2.2.2
    cases x <;> simp [Obj.plain] at hp this
   | obj q => exact ho (hin.obj _ _ _ e2).2.1
 refine ⟨Hl.un (Zfp b y) c, ⟨_, c, ?_, rfl, rfl, hc⟩, ?_, ?_, ?_⟩
 ·intro p q; rcases d p q with e | e
  ·left; revert e; unfold Zfp; split <;> simp
  ·exact .inr e
 ·intro p q v z e
  unfold Hl.un at e
  cases hr : Zfp b y p q with
  | some r => rw [hr] at e; cases e; unfold Zfp at hr; split at hr <;> simp at hr
  | none =>
   rw [hr] at e
   have hpb : p ≠ b := fun q' => by subst q'; exact hcb _ _ e
   have e2 : Hl.un (Zfp b x) c p q = some (.val v z) := by unfold Hl.un Zfp; simp [hpb, e]
   have h0 := hin.cell _ _ _ _ e2
   have hh : ({ w with heap := w.heap.setIfInBounds b y } : World).heap[p]? = w.heap[p]? := by simp [Array.getElem?_setIfInBounds, Ne.symm hpb]
   refine ⟨h0.1, ?_, ?_, ?_⟩
   ·unfold World.cell? at *; rw [hh]; exact h0.2.1
   ·unfold World.frozen? at *; rw [hh]; exact h0.2.2.1
   ·rw [hh]; exact h0.2.2.2
 ·intro p q r e
  unfold Hl.un at e
  cases hr : Zfp b y p q with
  | some r' =>
   rw [hr] at e; cases e; unfold Zfp at hr; split at hr
   ·rename_i hpq; obtain ⟨rfl, rfl⟩ := hpq; cases hr
    refine ⟨hob.1, rfl, ?_, hy⟩
    simp [hob.2.1]
   ·cases hr
  | none =>
   rw [hr] at e
   have hpb : p ≠ b := fun q' => by subst q'; exact hcb _ _ e
   have e2 : Hl.un (Zfp b x) c p q = some (.obj r) := by unfold Hl.un Zfp; simp [hpb, e]
   have h0 := hin.obj _ _ _ e2
   have hh : ({ w with heap := w.heap.setIfInBounds b y } : World).heap[p]? = w.heap[p]? := by simp [Array.getElem?_setIfInBounds, Ne.symm hpb]
   exact ⟨h0.1, h0.2.1, by rw [hh]; exact h0.2.2.1, h0.2.2.2⟩
 ·have hb0 := hob.1
  refine hin.below.trans ⟨rfl, rfl, rfl, by simp, fun k hk => ?_⟩
  have : b ≠ k := by omega
  simp [Array.getElem?_setIfInBounds, this]
theorem Sat.drew {w0 w : World} {H : Zd} (h : Sat w0 H w) (n : Nat) : Sat w0 H { w with drawn := n } := by
 obtain ⟨x, hx, hin⟩ := h
 exact ⟨x, hx, fun b o v z e => hin.cell b o v z e, fun b o y e => hin.obj b o y e, ⟨hin.below.os, hin.below.tape, hin.below.output, hin.below.size, hin.below.block⟩⟩
end Go.Eng
namespace Go.Eng
noncomputable section
open Go.RowKit (Below)
inductive Srt where | int | bool | ints | bytes | rows | amap | g
 deriving Repr, Inhabited, DecidableEq
def Srt.n : Srt -> Nat | .int => 0 | .bool => 1 | .ints => 2 | .bytes => 3 | .rows => 4 | .amap => 5 | .g => 6
theorem Srt.n_inj {a b : Srt} (h : a.n = b.n) : a = b := by cases a <;> cases b <;> first | rfl | (simp [Srt.n] at h)
inductive U (G : Type) where
 | int (n : Int) | bool (b : Bool) | prop (p : Prop) | ints (l : List Int) | bytes (l : List UInt8) | rows (l : List (List Int))
 | amap (l : List (Int × Int)) | val (v : Value) | g (x : G)
namespace U
variable {G : Type}
def tI : U G -> Int | .int n => n | _ => 0
def toBool : U G -> Bool | .bool b => b | _ => false
def tP : U G -> Prop | .prop p => p | .bool b => b = true | _ => False
def tN : U G -> List Int | .ints l => l | _ => []
def tB : U G -> List UInt8 | .bytes l => l | _ => []
def tR : U G -> List (List Int) | .rows l => l | _ => []
def tM : U G -> List (Int × Int) | .amap l => l | _ => []
@[simp] theorem tIi (n : Int) : (U.int n : U G).tI = n := rfl
@[simp] theorem tQi (b : Bool) : (U.bool b : U G).toBool = b := rfl
@[simp] theorem tPi (b : Bool) : (U.bool b : U G).tP = (b = true) := rfl
@[simp] theorem tNi (l : List Int) : (U.ints l : U G).tN = l := rfl
@[simp] theorem tBi (l : List UInt8) : (U.bytes l : U G).tB = l := rfl
@[simp] theorem tRi (l : List (List Int)) : (U.rows l : U G).tR = l := rfl
@[simp] theorem tMi (l : List (Int × Int)) : (U.amap l : U G).tM = l := rfl
end U
structure Sig (G : Type) where
 dg : G
 ch : Nat -> Bool
 usr : Nat -> U G -> U G -> U G -> U G -> U G
 prd : Nat -> World -> U G -> U G -> Zd
def U.co {G : Type} (S : Sig G) : Srt -> U G -> U G
 | .int, u => .int u.tI | .bool, u => .bool u.toBool | .ints, u => .ints u.tN | .bytes, u => .bytes u.tB
 | .rows, u => .rows u.tR | .amap, u => .amap u.tM
 | .g, u => (match u with | .g x => .g x | _ => .g S.dg)
theorem U.co_co {G : Type} (S : Sig G) (s : Srt) (u : U G) : U.co S s (U.co S s u) = U.co S s u := by
 cases s <;> try rfl
 cases u <;> rfl
inductive SX where
 | int (n : Int) | bool (b : Bool) | byt (l : List UInt8) | at (s : Srt) (i : Nat)
 | f1 (f : Nat) (a : SX) | f2 (f : Nat) (a b : SX) | f3 (f : Nat) (a b c : SX) | us (s : Srt) (f : Nat) (a b c d : SX)
 deriving Repr, Inhabited
def kc : Nat -> IntKind
 | 0 => .i8 | 1 => .i16 | 2 => .i32 | 3 => .i64 | 4 => .u8 | 5 => .u16 | 6 => .u32 | _ => .u64
def kn : IntKind -> Nat
 | .i8 => 0 | .i16 => 1 | .i32 => 2 | .i64 => 3 | .u8 => 4 | .u16 => 5 | .u32 => 6 | .u64 => 7
theorem ZjP (k : IntKind) : kc (kn k) = k := by cases k <;> rfl
def Yb (op : BinOp) (k : IntKind) (x y : Int) : Int :=
 let a := BitVec.ofInt k.bits x
 let b := BitVec.ofInt k.bits y
 k.wrap (match op with | .and => a &&& b | .or => a ||| b | .xor => a ^^^ b | _ => a &&& ~~~b).toNat
def Zhb (d : Int) : List (Int × Int) -> Int -> Int
 | [], _ => d
 | (k, v) :: l, x => if k = x then v else Zhb d l x
def Zbs : List (Int × Int) -> Int -> Bool
 | [], _ => false
 | (k, _) :: l, x => if k = x then true else Zbs l x
def Za4 : List (Int × Int) -> Int -> Int -> List (Int × Int)
 | [], x, y => [(x, y)]
 | (k, v) :: l, x, y => if k = x then (x, y) :: l else (k, v) :: Za4 l x y
def Zee : List (Int × Int) -> Int -> List (Int × Int)
 | [], _ => []
 | (k, v) :: l, x => if k = x then l else (k, v) :: Zee l x
def ZFZ : List Nat := [0, 274646895, 549293790, 820201905, 1098587580, 1361435347, 1640403810, 1905808397, 2197175160, 2460548119, 2722870694, 2987750089, 3280807620, 3553878443, 3811616794, 4084100981]
def Zu9 (r : Nat) : Nat := Nat.xor (ZFZ.getD (Nat.land r 15) 0) (r / 16)
def ZEo (r x : Nat) : Nat := Zu9 (Zu9 (Nat.xor r x))
def Zty : Nat -> List UInt8 -> Nat
 | r, [] => r
 | r, x :: l => Zty (ZEo r x.toNat) l
section
variable {G : Type}
def Zed : List UInt8 -> Nat
 | [] => 0
 | b :: l => b.toNat + 256 * Zed l + 1
def ZGz : Nat -> Nat -> List UInt8
 | 0, _ => []
 | _ + 1, 0 => []
 | f + 1, n + 1 => UInt8.ofNat (n % 256) :: ZGz f (n / 256)
def decB (n : Nat) : List UInt8 := ZGz n n
theorem ZlO : ∀ (l : List UInt8) (f : Nat), Zed l <= f -> ZGz f (Zed l) = l
 | [], 0, _ => rfl
 | [], _ + 1, _ => rfl
 | b :: l, 0, h => by unfold Zed at h; omega
 | b :: l, f + 1, h => by
  have hb : b.toNat < 256 := b.toNat_lt
  unfold Zed at h ⊢
  show UInt8.ofNat ((b.toNat + 256 * Zed l) % 256) :: ZGz f ((b.toNat + 256 * Zed l) / 256) = b :: l
  rw [show (b.toNat + 256 * Zed l) % 256 = b.toNat by omega, show (b.toNat + 256 * Zed l) / 256 = Zed l by omega, UInt8.ofNat_toNat, ZlO l f (by omega)]
theorem Yd (l : List UInt8) : decB (Zed l) = l := ZlO l _ (ZJd _)
def ap1 (f : Nat) (a : U G) : U G :=
 match f with
 | 35 => .int (Zed a.tB : Nat) | 36 => .bytes (decB a.tI.toNat)
 | 160 => .int (Zty 4294967295 a.tB : Nat)
 | 1 => .int (-a.tI) | 2 => .bool (!a.toBool) | 3 => .int (if a.toBool then 1 else 0) | 4 => .int a.tI
 | 30 => .int a.tN.length | 31 => .int a.tB.length | 32 => .int a.tR.length | 33 => .int a.tM.length
 | 152 => .ints [] | 153 => .bytes [] | 154 => .rows [] | 155 => .amap []
 | f => if 10 <= f /\ f <= 17 then .int ((kc (f - 10)).wrap a.tI)
     else if 20 <= f /\ f <= 27 then .bool (decide ((kc (f - 20)).min <= a.tI) && decide (a.tI <= (kc (f - 20)).max))
     else .int 0
def ap2 (f : Nat) (a b : U G) : U G :=
 match f with
 | 40 => .int (a.tI + b.tI) | 41 => .int (a.tI - b.tI) | 42 => .int (a.tI * b.tI)
 | 43 => .int (a.tI.tdiv b.tI) | 44 => .int (a.tI.tmod b.tI)
 | 45 => .bool (a.tI == b.tI) | 46 => .bool (decide (a.tI < b.tI)) | 47 => .bool (decide (a.tI <= b.tI))
 | 48 => .bool (a.toBool == b.toBool) | 49 => .bool (a.toBool && b.toBool) | 50 => .bool (a.toBool || b.toBool)
 | 51 => .int (if b.tI < a.tI then b.tI else a.tI) | 52 => .int (if b.tI > a.tI then b.tI else a.tI)
 | 110 => .int (a.tN.getD b.tI.toNat 0) | 111 => .int ((a.tB.getD b.tI.toNat 0).toNat : Nat)
 | 113 => .ints (a.tN.take b.tI.toNat) | 114 => .bytes (a.tB.take b.tI.toNat) | 115 => .rows (a.tR.take b.tI.toNat)
 | 116 => .ints (a.tN.drop b.tI.toNat) | 117 => .bytes (a.tB.drop b.tI.toNat) | 118 => .rows (a.tR.drop b.tI.toNat)
 | 119 => .ints (a.tN ++ b.tN) | 120 => .bytes (a.tB ++ b.tB) | 121 => .rows (a.tR ++ b.tR)
 | 122 => .ints (a.tI :: b.tN) | 123 => .bytes (UInt8.ofNat a.tI.toNat :: b.tB) | 124 => .rows (a.tN :: b.tR)
 | 125 => .ints (List.replicate a.tI.toNat b.tI) | 126 => .bytes (List.replicate a.tI.toNat (UInt8.ofNat b.tI.toNat)) | 127 => .rows (List.replicate a.tI.toNat b.tN)
 | 141 => .bool (Zbs a.tM b.tI) | 143 => .amap (Zee a.tM b.tI)
 | 153 => .bool (a.tN == b.tN)
 | 155 => .bool (@decide (a = b) (Classical.propDecidable _))
 | 150 => .bool (a.tB == b.tB) | 151 => .bool (Op.bytesLess a.tB b.tB)
 | f => if 60 <= f /\ f <= 67 then .int (Yb .and (kc (f - 60)) a.tI b.tI)
     else if 68 <= f /\ f <= 75 then .int (Yb .or (kc (f - 68)) a.tI b.tI)
     else if 76 <= f /\ f <= 83 then .int (Yb .xor (kc (f - 76)) a.tI b.tI)
     else if 84 <= f /\ f <= 91 then .int (Yb .andNot (kc (f - 84)) a.tI b.tI)
     else if 92 <= f /\ f <= 99 then .int ((kc (f - 92)).wrap (a.tI * 2 ^ (min b.tI.toNat (kc (f - 92)).bits)))
     else if 100 <= f /\ f <= 107 then .int (a.tI.fdiv (2 ^ (min b.tI.toNat (kc (f - 100)).bits)))
     else .int 0
def ap3 (f : Nat) (a b c : U G) : U G :=
 match f with
 | 112 => .int ((a.tR.getD b.tI.toNat []).getD c.tI.toNat 0)
 | 130 => .ints (a.tN.set b.tI.toNat c.tI) | 131 => .bytes (a.tB.set b.tI.toNat (UInt8.ofNat c.tI.toNat)) | 132 => .rows (a.tR.set b.tI.toNat c.tN)
 | 133 => .int (if a.toBool then b.tI else c.tI) | 134 => .bool (if a.toBool then b.toBool else c.toBool)
 | 140 => .int (Zhb a.tI b.tM c.tI) | 142 => .amap (Za4 a.tM b.tI c.tI)
 | _ => .int 0
abbrev Env (G : Type) := Nat -> U G
def SX.den (S : Sig G) (ρ : Env G) : SX -> U G
 | .int n => .int n | .bool b => .bool b | .byt l => .bytes l | .at s i => U.co S s (ρ i)
 | .f1 f a => ap1 f (a.den S ρ)
 | .f2 f a b => ap2 f (a.den S ρ) (b.den S ρ)
 | .f3 f a b c => ap3 f (a.den S ρ) (b.den S ρ) (c.den S ρ)
 | .us s f a b c d => U.co S s (S.usr f (a.den S ρ) (b.den S ρ) (c.den S ρ) (d.den S ρ))
end
def ibq : Int -> Int -> Bool
 | .ofNat a, .ofNat b => Nat.beq a b
 | .negSucc a, .negSucc b => Nat.beq a b
 | _, _ => false
theorem ZeY {a b : Int} (h : ibq a b = true) : a = b := by
 cases a <;> cases b <;> simp only [ibq, reduceCtorEq] at h
 ·rw [ZJo h]
 ·rw [ZJo h]
theorem Zfv (a : Int) : ibq a a = true := by cases a <;> simp [ibq]
def bbq : Bool -> Bool -> Bool
 | true, true => true | false, false => true | _, _ => false
theorem ZfO {a b : Bool} (h : bbq a b = true) : a = b := by cases a <;> cases b <;> simp_all [bbq]
def lbq : List UInt8 -> List UInt8 -> Bool
 | [], [] => true
 | a :: l, b :: m => bif Nat.beq a.toNat b.toNat then lbq l m else false
 | _, _ => false
theorem ZBH : ∀ {a b : List UInt8}, lbq a b = true -> a = b
 | [], [], _ => rfl
 | a :: l, b :: m, h => by
  unfold lbq at h
  cases hn : Nat.beq a.toNat b.toNat
  ·rw [hn] at h; cases h
  ·rw [hn] at h
   have := ZJo hn
   rw [ZBH (a := l) (b := m) h, UInt8.toNat_inj.1 this]
 | [], _ :: _, h => by cases h
 | _ :: _, [], h => by cases h
def SX.bq : SX -> SX -> Bool
 | .int a, .int b => ibq a b
 | .bool a, .bool b => bbq a b
 | .byt a, .byt b => lbq a b
 | .at s i, .at t j => bif Nat.beq s.n t.n then Nat.beq i j else false
 | .f1 f a, .f1 g b => bif Nat.beq f g then SX.bq a b else false
 | .f2 f a a', .f2 g b b' => bif Nat.beq f g then (bif SX.bq a b then SX.bq a' b' else false) else false
 | .f3 f a a' a'', .f3 g b b' b'' => bif Nat.beq f g then (bif SX.bq a b then (bif SX.bq a' b' then SX.bq a'' b'' else false) else false) else false
 | .us s f a a' a'' a3, .us t g b b' b'' b3 => bif (bif Nat.beq f g then Nat.beq s.n t.n else false) then (bif SX.bq a b then (bif SX.bq a' b' then (bif SX.bq a'' b'' then SX.bq a3 b3 else false) else false) else false) else false
 | _, _ => false
theorem SX.bq_eq : ∀ {a b : SX}, SX.bq a b = true -> a = b := by
 intro a
 induction a with
 | int n => intro b h; cases b <;> simp [SX.bq] at h; rw [ZeY h]
 | bool n => intro b h; cases b <;> simp [SX.bq] at h; rw [ZfO h]
 | byt n => intro b h; cases b <;> simp [SX.bq] at h; rw [ZBH h]
 | «at» s n => intro b h; cases b <;> simp [SX.bq, ZJr] at h; rw [Srt.n_inj h.1, h.2]
 | f1 f a ih => intro b h; cases b <;> simp [SX.bq, ZJr] at h; rw [h.1, ih h.2]
 | f2 f a a' ih ih' => intro b h; cases b <;> simp [SX.bq, ZJr] at h; rw [h.1, ih h.2.1, ih' h.2.2]
 | f3 f a a' a'' ih ih' ih'' => intro b h; cases b <;> simp [SX.bq, ZJr] at h; rw [h.1, ih h.2.1, ih' h.2.2.1, ih'' h.2.2.2]
 | us s f a a' a'' a3 ih ih' ih'' ih3 => intro b h; cases b <;> simp [SX.bq, ZJr] at h; rw [h.1.1, Srt.n_inj h.1.2, ih h.2.1, ih' h.2.2.1, ih'' h.2.2.2.1, ih3 h.2.2.2.2]
def SX.lt (n : Nat) (e : SX) : Bool :=
 @SX.rec (fun _ => Bool) (fun _ => true) (fun _ => true) (fun _ => true) (fun _ i => Nat.blt i n) (fun _ _ a => a) (fun _ _ _ a b => bif a then b else false)
  (fun _ _ _ _ a b c => bif a then (bif b then c else false) else false) (fun _ _ _ _ _ _ a b c d => bif a then (bif b then (bif c then d else false) else false) else false) e
theorem SX.lt_at (n : Nat) (s : Srt) (i : Nat) : (SX.at s i).lt n = Nat.blt i n := rfl
theorem SX.lt_f2 (n f : Nat) (a b : SX) : (SX.f2 f a b).lt n = bif a.lt n then b.lt n else false := rfl
theorem SX.lt_f3 (n f : Nat) (a b c : SX) : (SX.f3 f a b c).lt n = bif a.lt n then (bif b.lt n then c.lt n else false) else false := rfl
theorem SX.lt_us (n : Nat) (s : Srt) (f : Nat) (a b c d : SX) : (SX.us s f a b c d).lt n = bif a.lt n then (bif b.lt n then (bif c.lt n then d.lt n else false) else false) else false := rfl
def Ext {G : Type} (n : Nat) (ρ ρ' : Env G) : Prop := ∀ i, i < n -> ρ' i = ρ i
theorem Ext.refl {G : Type} (n : Nat) (ρ : Env G) : Ext n ρ ρ := fun _ _ => rfl
theorem Ext.trans {G : Type} {n m : Nat} {a b c : Env G} (h : Ext n a b) (k : Ext m b c) (hm : n <= m) : Ext n a c :=
 fun i hi => (k i (Nat.lt_of_lt_of_le hi hm)).trans (h i hi)
section
variable {G : Type} (S : Sig G)
theorem SX.den_ext {n : Nat} {ρ ρ' : Env G} (h : Ext n ρ ρ') : ∀ {e : SX}, e.lt n = true -> e.den S ρ' = e.den S ρ := by
 intro e
 induction e with
 | int n => intro _; rfl
 | bool n => intro _; rfl
 | byt n => intro _; rfl
 | «at» s i => intro hl; simp only [SX.den]; rw [h i (by simpa [SX.lt_at, Nat.blt_eq] using hl)]
 | f1 f a ih => intro hl; simp only [SX.den]; rw [ih hl]
 | f2 f a b ih ih' => intro hl; simp [SX.lt_f2, SX.lt_f3, SX.lt_us, ZJr] at hl; simp only [SX.den]; rw [ih hl.1, ih' hl.2]
 | f3 f a b c ih ih' ih'' => intro hl; simp [SX.lt_f2, SX.lt_f3, SX.lt_us, ZJr] at hl; simp only [SX.den]; rw [ih hl.1, ih' hl.2.1, ih'' hl.2.2]
 | us s f a b c d ih ih' ih'' ih3 => intro hl; simp [SX.lt_f2, SX.lt_f3, SX.lt_us, ZJr] at hl; simp only [SX.den]; rw [ih hl.1, ih' hl.2.1, ih'' hl.2.2.1, ih3 hl.2.2.2]
end
def SX.isI : SX -> Bool
 | .int _ | .at .int _ => true
 | .us .int _ _ _ _ _ => true
 | .f1 f _ => (match f with | 1 | 3 | 4 | 30 | 31 | 32 | 33 | 160 => true | _ => bif Nat.ble 10 f then Nat.ble f 17 else false)
 | .f2 f _ _ => (match f with | 40 | 41 | 42 | 43 | 44 | 51 | 52 | 110 | 111 => true | _ => bif Nat.ble 60 f then Nat.ble f 107 else false)
 | .f3 f _ _ _ => (match f with | 112 | 140 | 133 => true | _ => false)
 | _ => false
theorem SX.isI_den {G : Type} (S : Sig G) (ρ : Env G) {e : SX} (h : e.isI = true) : ∃ n, e.den S ρ = .int n := by
 cases e with
 | int n => exact ⟨n, rfl⟩
 | bool b => cases h
 | byt b => cases h
 | «at» s i => cases s <;> first | exact ⟨_, rfl⟩ | (cases h)
 | us s f a b c d => cases s <;> first | exact ⟨_, rfl⟩ | (cases h)
 | f1 f a =>
  simp only [SX.isI] at h
  simp only [SX.den]
  unfold ap1
  split <;> first | exact ⟨_, rfl⟩ | (exfalso; revert h; simp; done) | skip
  rename_i f _ _ _ _ _ _ _ _ _ _ _ _ _
  split at h <;> first | contradiction | skip
  simp [ZJr] at h
  rw [if_pos h]; exact ⟨_, rfl⟩
 | f2 f a b =>
  simp only [SX.isI] at h
  simp only [SX.den]
  unfold ap2
  split <;> first | exact ⟨_, rfl⟩ | (exfalso; revert h; simp; done) | skip
  split at h <;> first | contradiction | skip
  simp [ZJr] at h
  repeat' split
  all_goals first | exact ⟨_, rfl⟩ | skip
 | f3 f a b c =>
  simp only [SX.isI] at h
  simp only [SX.den]
  unfold ap3
  split <;> first | exact ⟨_, rfl⟩ | (exfalso; revert h; simp; done) | skip
  all_goals (split at h <;> first | contradiction | (cases h))
theorem SX.isI_toInt {G : Type} (S : Sig G) (ρ : Env G) {e : SX} (h : e.isI = true) : U.int (e.den S ρ).tI = e.den S ρ := by
 obtain ⟨n, hn⟩ := SX.isI_den S ρ h
 rw [hn]; rfl
/-! ### Simplifying constructors -/
def SX.addL (x : SX) (y : Int) : SX :=
 bif ibq y 0 then (bif x.isI then x else .f2 40 x (.int y)) else .f2 40 x (.int y)
def SX.mkAdd : SX -> SX -> SX
 | .int x, .int y => .int (x + y)
 | .f2 40 z (.int w), .int y => SX.addL z (w + y)
 | x, .int y => SX.addL x y
 | .int x, y => SX.addL y x
 | .f2 40 z (.int w), y => .f2 40 (.f2 40 z y) (.int w)
 | x, y => .f2 40 x y
def SX.mk2 (f : Nat) (a b : SX) : SX :=
 match f with
 | 40 => SX.mkAdd a b
 | 41 => (match a, b with | .int x, .int y => .int (x - y) | x, .int y => SX.mkAdd x (.int (-y)) | x, y => .f2 41 x y)
 | 42 => (match a, b with | .int x, .int y => .int (x * y) | x, y => .f2 42 x y)
 | 43 => (match a, b with | .int x, .int y => .int (x.tdiv y) | x, y => .f2 43 x y)
 | 44 => (match a, b with | .int x, .int y => .int (x.tmod y) | x, y => .f2 44 x y)
 | 45 => (match a, b with | .int x, .int y => .bool (ibq x y) | x, y => .f2 45 x y)
 | 46 => (match a, b with | .int x, .int y => .bool (decide (x < y)) | x, y => .f2 46 x y)
 | 47 => (match a, b with | .int x, .int y => .bool (decide (x <= y)) | x, y => .f2 47 x y)
 | 49 => (match a, b with | .bool false, _ => .bool false | .bool true, .bool y => .bool y | x, y => .f2 49 x y)
 | 50 => (match a, b with | .bool true, _ => .bool true | .bool false, .bool y => .bool y | x, y => .f2 50 x y)
 | 48 => (match a, b with | .bool x, .bool y => .bool (bbq x y) | x, y => .f2 48 x y)
 | 150 => (match a, b with | .byt x, .byt y => .bool (lbq x y) | x, y => .f2 150 x y)
 | 151 => (match a, b with | .byt x, .byt y => .bool (Op.bytesLess x y) | x, y => .f2 151 x y)
 | f => (match a, b with
  | .int x, .int y => bif (bif Nat.ble 51 f then Nat.ble f 107 else false) then .int (U.tI (ap2 (G := Unit) f (.int x) (.int y))) else .f2 f (.int x) (.int y)
  | x, y => .f2 f x y)
def SX.mkLen (t : Nat) : SX -> SX
 | .byt l => bif Nat.beq t 31 then .int (l.length : Nat) else .f1 t (.byt l)
 | .f1 g a => bif Nat.beq g (t + 122) then .int 0 else .f1 t (.f1 g a)
 | .f2 g a b => bif Nat.beq g (t + 89) then SX.mkAdd (SX.mkLen t a) (SX.mkLen t b)
   else bif Nat.beq g (t + 92) then SX.mkAdd (SX.mkLen t b) (.int 1)
   else bif Nat.beq g (t + 95) then (match a with | .int n => .int (n.toNat : Nat) | a => .f1 t (.f2 g a b))
   else .f1 t (.f2 g a b)
 | .f3 g a b c => bif Nat.beq g (t + 100) then SX.mkLen t a else .f1 t (.f3 g a b c)
 | x => .f1 t x
def SX.mk1I (f : Nat) (n : Int) : SX :=
 bif Nat.beq f 1 then .int (-n)
 else bif Nat.ble 10 f then (bif Nat.ble f 17 then .int ((kc (f - 10)).wrap n) else
   (bif Nat.ble 20 f then (bif Nat.ble f 27 then .bool (decide ((kc (f - 20)).min <= n) && decide (n <= (kc (f - 20)).max)) else .f1 f (.int n)) else .f1 f (.int n))) else .f1 f (.int n)
def SX.mk1 (f : Nat) (a : SX) : SX :=
 match f with
 | 30 => SX.mkLen 30 a | 31 => SX.mkLen 31 a | 32 => SX.mkLen 32 a
 | 2 => (match a with | .bool b => .bool (!b) | a => .f1 2 a)
 | 3 => (match a with | .bool b => .int (bif b then 1 else 0) | a => .f1 3 a)
 | 160 => (match a with | .byt l => .int (.ofNat (Zty 4294967295 l)) | a => .f1 160 a)
 | f => (match a with | .int n => SX.mk1I f n | a => .f1 f a)
def SX.mk3 (f : Nat) (a b c : SX) : SX :=
 match a with
 | .bool true => (bif Nat.beq f 133 then (bif b.isI then b else .f3 f a b c) else bif Nat.beq f 134 then (match b with | .bool x => .bool x | b => .f3 f a b c) else .f3 f a b c)
 | .bool false => (bif Nat.beq f 133 then (bif c.isI then c else .f3 f a b c) else bif Nat.beq f 134 then (match c with | .bool x => .bool x | c => .f3 f a b c) else .f3 f a b c)
 | a => .f3 f a b c
section
variable {G : Type} (S : Sig G) (ρ : Env G)
theorem Zbd {a b : Int} : ibq a b = (a == b) := by
 by_cases h : a = b
 ·subst h; simp [Zfv]
 ·have : ibq a b = false := by cases hb : ibq a b; rfl; exact absurd (ZeY hb) h
  rw [this]; simp [h]
theorem Zw8 : ∀ (a b : List UInt8), lbq a b = (a == b)
 | [], [] => rfl
 | [], _ :: _ => rfl
 | _ :: _, [] => rfl
 | a :: l, b :: m => by
  unfold lbq
  rw [Zw8 l m]
  by_cases h : a = b
  ·subst h
   have : Nat.beq a.toNat a.toNat = true := by rw [Nat.beq_eq]
   rw [this]; simp
  ·have : Nat.beq a.toNat b.toNat = false := by
    cases hh : Nat.beq a.toNat b.toNat
    ·rfl
    ·exact absurd (UInt8.toNat_inj.1 (ZJo hh)) h
   rw [this]; simp [h]
theorem ZFh (f : Nat) (x y : Int) (h1 : 51 <= f) (h2 : f <= 107) : (U.int (U.tI (ap2 (G := Unit) f (.int x) (.int y))) : U G) = ap2 f (.int x) (.int y) := by
 unfold ap2
 split <;> first | rfl | (exfalso; omega) | skip
 repeat' split
 all_goals rfl
theorem SX.addL_den (x : SX) (y : Int) : (SX.addL x y).den S ρ = .int ((x.den S ρ).tI + y) := by
 unfold SX.addL
 cases h : ibq y 0
 ·rfl
 ·cases hx : x.isI
  ·rfl
  ·have := ZeY h; subst this
   simp only [cond_true]; rw [Int.add_zero, SX.isI_toInt S ρ hx]
theorem SX.mkAdd_den (a b : SX) : (SX.mkAdd a b).den S ρ = .int ((a.den S ρ).tI + (b.den S ρ).tI) := by
 unfold SX.mkAdd
 split
 ·rfl
 ·rw [SX.addL_den]; simp only [SX.den, ap2, U.tI]; congr 1; omega
 ·rw [SX.addL_den]; rfl
 ·rw [SX.addL_den]; simp only [SX.den, U.tI]; congr 1; omega
 ·simp only [SX.den, ap2, U.tI]; congr 1; omega
 ·rfl
theorem SX.mk2_den (f : Nat) (a b : SX) : (SX.mk2 f a b).den S ρ = (SX.f2 f a b).den S ρ := by
 unfold SX.mk2
 split
 ·rw [SX.mkAdd_den]; rfl
 ·split
  ·rfl
  ·rw [SX.mkAdd_den]; simp only [SX.den, ap2, U.tI]; congr 1
  ·rfl
 ·split <;> rfl
 ·split <;> rfl
 ·split <;> rfl
 ·split
  ·simp only [SX.den, ap2, U.tI, Zbd]
  ·rfl
 ·split <;> rfl
 ·split <;> rfl
 ·split <;> first | rfl | simp [SX.den, ap2, U.toBool]
 ·split <;> first | rfl | simp [SX.den, ap2, U.toBool]
 ·split
  ·rename_i x y; simp only [SX.den, ap2, U.toBool]; cases x <;> cases y <;> rfl
  ·rfl
 ·split
  ·simp only [SX.den, ap2, U.tB]; rw [Zw8]
  ·rfl
 ·split <;> rfl
 ·split
  ·rename_i x y
   cases h : (bif Nat.ble 51 f then Nat.ble f 107 else false)
   ·rfl
   ·simp only [ZJr] at h
    split at h
    ·rename_i h1
     have e1 := ZJA h1; have e2 := ZJA h
     simp only [cond_true, SX.den]
     exact ZFh _ _ _ e1 e2
    ·cases h
  ·rfl
theorem SX.mkLen30_den : ∀ (a : SX), (SX.mkLen 30 a).den S ρ = (SX.f1 30 a).den S ρ := by
 intro a
 induction a with
 | f1 g a ih =>
  unfold SX.mkLen; cases h : Nat.beq g (30 + 122)
  ·rfl
  ·rw [ZJo h]; rfl
 | f2 g a b ih ih' =>
  unfold SX.mkLen
  cases h : Nat.beq g (30 + 89)
  ·cases h2 : Nat.beq g (30 + 92)
   ·cases h3 : Nat.beq g (30 + 95)
    ·rfl
    ·rw [ZJo h3]; cases a <;> simp [SX.den, ap1, ap2, U.tI, U.tN]
   ·rw [ZJo h2]; simp only [cond_false, cond_true]; rw [SX.mkAdd_den, ih']; simp [SX.den, ap1, ap2, U.tI, U.tN]
  ·rw [ZJo h]; simp only [cond_true]; rw [SX.mkAdd_den, ih, ih']; simp [SX.den, ap1, ap2, U.tI, U.tN]
 | f3 g a b c ih ih' ih'' =>
  unfold SX.mkLen
  cases h : Nat.beq g (30 + 100)
  ·rfl
  ·rw [ZJo h]; simp only [cond_true]; rw [ih]; simp [SX.den, ap1, ap3, U.tN]
 | _ => rfl
theorem SX.mkLen31_den : ∀ (a : SX), (SX.mkLen 31 a).den S ρ = (SX.f1 31 a).den S ρ := by
 intro a
 induction a with
 | f1 g a ih =>
  unfold SX.mkLen; cases h : Nat.beq g (31 + 122)
  ·rfl
  ·rw [ZJo h]; rfl
 | f2 g a b ih ih' =>
  unfold SX.mkLen
  cases h : Nat.beq g (31 + 89)
  ·cases h2 : Nat.beq g (31 + 92)
   ·cases h3 : Nat.beq g (31 + 95)
    ·rfl
    ·rw [ZJo h3]; cases a <;> simp [SX.den, ap1, ap2, U.tI, U.tB]
   ·rw [ZJo h2]; simp only [cond_false, cond_true]; rw [SX.mkAdd_den, ih']; simp [SX.den, ap1, ap2, U.tI, U.tB]
  ·rw [ZJo h]; simp only [cond_true]; rw [SX.mkAdd_den, ih, ih']; simp [SX.den, ap1, ap2, U.tI, U.tB]
 | f3 g a b c ih ih' ih'' =>
  unfold SX.mkLen
  cases h : Nat.beq g (31 + 100)
  ·rfl
  ·rw [ZJo h]; simp only [cond_true]; rw [ih]; simp [SX.den, ap1, ap3, U.tB]
 | _ => rfl
theorem SX.mkLen32_den : ∀ (a : SX), (SX.mkLen 32 a).den S ρ = (SX.f1 32 a).den S ρ := by
 intro a
 induction a with
 | f1 g a ih =>
  unfold SX.mkLen; cases h : Nat.beq g (32 + 122)
  ·rfl
  ·rw [ZJo h]; rfl
 | f2 g a b ih ih' =>
  unfold SX.mkLen
  cases h : Nat.beq g (32 + 89)
  ·cases h2 : Nat.beq g (32 + 92)
   ·cases h3 : Nat.beq g (32 + 95)
    ·rfl
    ·rw [ZJo h3]; cases a <;> simp [SX.den, ap1, ap2, U.tI, U.tR]
   ·rw [ZJo h2]; simp only [cond_false, cond_true]; rw [SX.mkAdd_den, ih']; simp [SX.den, ap1, ap2, U.tI, U.tR]
  ·rw [ZJo h]; simp only [cond_true]; rw [SX.mkAdd_den, ih, ih']; simp [SX.den, ap1, ap2, U.tI, U.tR]
 | f3 g a b c ih ih' ih'' =>
  unfold SX.mkLen
  cases h : Nat.beq g (32 + 100)
  ·rfl
  ·rw [ZJo h]; simp only [cond_true]; rw [ih]; simp [SX.den, ap1, ap3, U.tR]
 | _ => rfl
theorem SX.mk1I_den (f : Nat) (n : Int) : (SX.mk1I f n).den S ρ = (SX.f1 f (.int n)).den S ρ := by
 unfold SX.mk1I
 cases h : Nat.beq f 1
 ·cases h1 : Nat.ble 10 f
  ·rfl
  ·cases h2 : Nat.ble f 17
   ·cases h3 : Nat.ble 20 f
    ·rfl
    ·cases h4 : Nat.ble f 27
     ·rfl
     ·have e3 := ZJA h3; have e4 := ZJA h4
      simp only [cond_true, cond_false, SX.den]
      unfold ap1
      split <;> first | omega | skip
      rw [if_neg (by omega), if_pos (by omega)]; rfl
   ·have e1 := ZJA h1; have e2 := ZJA h2
    simp only [cond_true, cond_false, SX.den]
    unfold ap1
    split <;> first | omega | skip
    rw [if_pos (by omega)]; rfl
 ·rw [ZJo h]; rfl
theorem SX.mk1_den (f : Nat) (a : SX) : (SX.mk1 f a).den S ρ = (SX.f1 f a).den S ρ := by
 unfold SX.mk1
 split
 ·exact SX.mkLen30_den S ρ a
 ·exact SX.mkLen31_den S ρ a
 ·exact SX.mkLen32_den S ρ a
 ·split <;> rfl
 ·split
  ·rename_i b; cases b <;> rfl
  ·rfl
 ·split <;> rfl
 ·split
  ·exact SX.mk1I_den S ρ _ _
  ·rfl
theorem SX.mk3_den (f : Nat) (a b c : SX) : (SX.mk3 f a b c).den S ρ = (SX.f3 f a b c).den S ρ := by
 unfold SX.mk3
 split
 ·cases h : Nat.beq f 133
  ·cases h2 : Nat.beq f 134
   ·rfl
   ·rw [ZJo h2]; simp only [cond_true, cond_false]; split <;> rfl
  ·rw [ZJo h]; simp only [cond_true]
   cases hb : b.isI
   ·rfl
   ·simp only [cond_true]; rw [<- SX.isI_toInt S ρ hb]; rfl
 ·cases h : Nat.beq f 133
  ·cases h2 : Nat.beq f 134
   ·rfl
   ·rw [ZJo h2]; simp only [cond_true, cond_false]; split <;> rfl
  ·rw [ZJo h]; simp only [cond_true]
   cases hb : c.isI
   ·rfl
   ·simp only [cond_true]; rw [<- SX.isI_toInt S ρ hb]; rfl
 ·rfl
end
/-! ### Contents that stand written out -/
def Zun : List SX -> SX
 | [] => .f1 152 (.int 0)
 | e :: l => .f2 122 e (Zun l)
def nilT (t : Nat) : SX := .f1 (152 + t) (.int 0)
def SX.appT (t : Nat) : SX -> SX -> SX
 | .byt l, b => bif Nat.beq t 1 then (match b with
   | .byt m => .byt (l ++ m)
   | b => .f2 (119 + t) (.byt l) b) else .f2 (119 + t) (.byt l) b
 | .f1 g z, b => bif Nat.beq g (152 + t) then b else .f2 (119 + t) (.f1 g z) b
 | .f2 g x l, b => bif (bif Nat.beq g (122 + t) then true else Nat.beq g (119 + t)) then .f2 g x (SX.appT t l b) else .f2 (119 + t) (.f2 g x l) b
 | a, b => .f2 (119 + t) a b
def SX.consT (t : Nat) (el l : SX) : SX :=
 match el, l with
 | .int n, .byt m => bif Nat.beq t 1 then .byt (UInt8.ofNat n.toNat :: m) else .f2 (122 + t) el l
 | .int n, .f1 g _ => bif (bif Nat.beq t 1 then Nat.beq g (152 + t) else false) then .byt [UInt8.ofNat n.toNat] else .f2 (122 + t) el l
 | el, l => .f2 (122 + t) el l
def SX.takeT (t : Nat) : SX -> Nat -> SX
 | .byt l, k => bif Nat.beq t 1 then .byt (l.take k) else .f2 (113 + t) (.byt l) (.int (.ofNat k))
 | .f1 g z, k => bif Nat.beq g (152 + t) then .f1 g z else .f2 (113 + t) (.f1 g z) (.int (.ofNat k))
 | .f2 g x l, k => bif Nat.beq g (122 + t) then (match k with | 0 => nilT t | k + 1 => .f2 g x (SX.takeT t l k)) else
   bif Nat.beq g (119 + t) then (match SX.mkLen (30 + t) x with
    | .int (.ofNat n) => bif Nat.ble k n then SX.takeT t x k else .f2 g x (SX.takeT t l (k - n))
    | _ => .f2 (113 + t) (.f2 g x l) (.int (.ofNat k))) else .f2 (113 + t) (.f2 g x l) (.int (.ofNat k))
 | a, k => .f2 (113 + t) a (.int (.ofNat k))
def SX.dropT (t : Nat) : SX -> Nat -> SX
 | .byt l, k => bif Nat.beq t 1 then .byt (l.drop k) else .f2 (116 + t) (.byt l) (.int (.ofNat k))
 | .f1 g z, k => bif Nat.beq g (152 + t) then .f1 g z else .f2 (116 + t) (.f1 g z) (.int (.ofNat k))
 | .f2 g x l, k => bif Nat.beq g (122 + t) then (match k with | 0 => .f2 g x l | k + 1 => SX.dropT t l k) else
   bif Nat.beq g (119 + t) then (match SX.mkLen (30 + t) x with
    | .int (.ofNat n) => bif Nat.ble n k then SX.dropT t l (k - n) else .f2 g (SX.dropT t x k) l
    | _ => .f2 (116 + t) (.f2 g x l) (.int (.ofNat k))) else .f2 (116 + t) (.f2 g x l) (.int (.ofNat k))
 | a, k => .f2 (116 + t) a (.int (.ofNat k))
def SX.setT (t : Nat) (el : SX) : SX -> Nat -> SX
 | .byt l, k => bif Nat.beq t 1 then (match el with
   | .int v => .byt (l.set k (UInt8.ofNat v.toNat))
   | el => bif Nat.blt k l.length then .f2 120 (.byt (l.take k)) (.f2 123 el (.byt (l.drop (k + 1)))) else .byt l) else .f3 (130 + t) (.byt l) (.int (.ofNat k)) el
 | .f1 g z, k => bif Nat.beq g (152 + t) then .f1 g z else .f3 (130 + t) (.f1 g z) (.int (.ofNat k)) el
 | .f2 g x l, k => bif Nat.beq g (122 + t) then (match k with | 0 => .f2 g el l | k + 1 => .f2 g x (SX.setT t el l k)) else
   bif Nat.beq g (119 + t) then (match SX.mkLen (30 + t) x with
    | .int (.ofNat n) => bif Nat.ble n k then .f2 g x (SX.setT t el l (k - n)) else .f2 g (SX.setT t el x k) l
    | _ => .f3 (130 + t) (.f2 g x l) (.int (.ofNat k)) el) else .f3 (130 + t) (.f2 g x l) (.int (.ofNat k)) el
 | a, k => .f3 (130 + t) a (.int (.ofNat k)) el
def SX.consN (t : Nat) (el : SX) : Nat -> SX
 | 0 => nilT t
 | n + 1 => .f2 (122 + t) el (SX.consN t el n)
def SX.repT (t : Nat) (n el : SX) : SX :=
 match n with
 | .int (.ofNat k) => bif Nat.beq t 1 then (match el with | .int v => .byt (List.replicate k (UInt8.ofNat v.toNat)) | el => .f2 (125 + t) n el)
   else bif Nat.ble k 5000 then SX.consN t el k else .f2 (125 + t) n el
 | n => .f2 (125 + t) n el
def Zmu : SX -> Nat -> SX
 | .f2 g x l, k => bif Nat.beq g 122 then (match k with | 0 => bif x.isI then x else .f2 110 (.f2 g x l) (.int (.ofNat 0)) | k + 1 => Zmu l k)
   else bif Nat.beq g 119 then (match SX.mkLen 30 x with
    | .int (.ofNat n) => bif Nat.ble n k then Zmu l (k - n) else Zmu x k
    | _ => .f2 110 (.f2 g x l) (.int (.ofNat k)))
   else .f2 110 (.f2 g x l) (.int (.ofNat k))
 | x, k => .f2 110 x (.int (.ofNat k))
def ZI5 (x i : SX) : SX := match i with | .int (.ofNat k) => Zmu x k | i => .f2 110 x i
def asByte : SX -> Option SX
 | .int (.ofNat n) => bif Nat.ble n 255 then some (.int (.ofNat n)) else none
 | .f1 14 a => some (.f1 14 a)
 | .f2 111 a b => some (.f2 111 a b)
 | _ => none
def ZqX : SX -> Nat -> SX
 | .byt l, k => .int (.ofNat (l.getD k 0).toNat)
 | .f2 g x l, k => bif Nat.beq g 123 then (match k with | 0 => (match asByte x with | some x => x | none => .f2 111 (.f2 g x l) (.int (.ofNat 0))) | k + 1 => ZqX l k)
   else bif Nat.beq g 120 then (match SX.mkLen 31 x with
    | .int (.ofNat n) => bif Nat.ble n k then ZqX l (k - n) else ZqX x k
    | _ => .f2 111 (.f2 g x l) (.int (.ofNat k)))
   else .f2 111 (.f2 g x l) (.int (.ofNat k))
 | x, k => .f2 111 x (.int (.ofNat k))
def ZGx (x i : SX) : SX := match i with | .int (.ofNat k) => ZqX x k | i => .f2 111 x i
def ZqW (p : SX) : SX -> Nat -> SX
 | .f2 g x l, k => bif Nat.beq g 124 then (match k with | 0 => (match p with | .int (.ofNat q) => Zmu x q | p => .f3 112 (.f2 g x l) (.int (.ofNat 0)) p) | k + 1 => ZqW p l k)
   else bif Nat.beq g 121 then (match SX.mkLen 32 x with
    | .int (.ofNat n) => bif Nat.ble n k then ZqW p l (k - n) else ZqW p x k
    | _ => .f3 112 (.f2 g x l) (.int (.ofNat k)) p)
   else .f3 112 (.f2 g x l) (.int (.ofNat k)) p
 | x, k => .f3 112 x (.int (.ofNat k)) p
def Zdg (x i p : SX) : SX := match i with | .int (.ofNat k) => ZqW p x k | i => .f3 112 x i p
section
variable {G : Type} (S : Sig G) (ρ : Env G)
def YY (t : Nat) (u : U G) : List (U G) :=
 match t with
 | 0 => u.tN.map U.int
 | 1 => u.tB.map fun b => U.int (b.toNat : Nat)
 | _ => u.tR.map U.ints
def ZqG (t : Nat) (u : U G) : U G :=
 match t with
 | 0 => .int u.tI
 | 1 => .int ((UInt8.ofNat u.tI.toNat).toNat : Nat)
 | _ => .ints u.tN
theorem Zgw : ∀ (l : List SX), (Zun l).den S ρ = .ints (l.map fun e => (e.den S ρ).tI)
 | [] => rfl
 | e :: l => by simp only [Zun, SX.den, ap2, Zgw l, U.tNi, ZJw]
theorem Zf1 {t : Nat} (h : t <= 2) : t = 0 \/ t = 1 \/ t = 2 := by omega
theorem ZQ {t : Nat} (h : t <= 2) (a b : SX) : YY t ((SX.f2 (119 + t) a b).den S ρ) = YY t (a.den S ρ) ++ YY t (b.den S ρ) := by
 rcases Zf1 h with rfl | rfl | rfl
 ·simp only [YY, SX.den, ap2, U.tNi, ZJD]
 ·simp only [YY, SX.den, ap2, U.tBi, ZJD]
 ·simp only [YY, SX.den, ap2, U.tRi, ZJD]
theorem ZM {t : Nat} (h : t <= 2) (a b : SX) : YY t ((SX.f2 (122 + t) a b).den S ρ) = ZqG t (a.den S ρ) :: YY t (b.den S ρ) := by
 rcases Zf1 h with rfl | rfl | rfl <;> rfl
theorem ZcH {t : Nat} (h : t <= 2) (z : SX) : YY t ((SX.f1 (152 + t) z).den S ρ) = [] := by
 rcases Zf1 h with rfl | rfl | rfl <;> rfl
theorem ZaE {t : Nat} (h : t <= 2) (a n : SX) : YY t ((SX.f2 (113 + t) a n).den S ρ) = (YY t (a.den S ρ)).take (n.den S ρ).tI.toNat := by
 rcases Zf1 h with rfl | rfl | rfl
 ·simp only [YY, SX.den, ap2, U.tNi, List.map_take]
 ·simp only [YY, SX.den, ap2, U.tBi, List.map_take]
 ·simp only [YY, SX.den, ap2, U.tRi, List.map_take]
theorem ZaM {t : Nat} (h : t <= 2) (a n : SX) : YY t ((SX.f2 (116 + t) a n).den S ρ) = (YY t (a.den S ρ)).drop (n.den S ρ).tI.toNat := by
 rcases Zf1 h with rfl | rfl | rfl
 ·simp only [YY, SX.den, ap2, U.tNi, List.map_drop]
 ·simp only [YY, SX.den, ap2, U.tBi, List.map_drop]
 ·simp only [YY, SX.den, ap2, U.tRi, List.map_drop]
theorem ZjD {t : Nat} (h : t <= 2) (n el : SX) : YY t ((SX.f2 (125 + t) n el).den S ρ) = List.replicate (n.den S ρ).tI.toNat (ZqG t (el.den S ρ)) := by
 rcases Zf1 h with rfl | rfl | rfl
 ·simp only [YY, SX.den, ap2, U.tNi, ZqG, List.map_replicate]
 ·simp only [YY, SX.den, ap2, U.tBi, ZqG, List.map_replicate]
 ·simp only [YY, SX.den, ap2, U.tRi, ZqG, List.map_replicate]
theorem ZcD {t : Nat} (h : t <= 2) (x i el : SX) : YY t ((SX.f3 (130 + t) x i el).den S ρ) = (YY t (x.den S ρ)).set (i.den S ρ).tI.toNat (ZqG t (el.den S ρ)) := by
 rcases Zf1 h with rfl | rfl | rfl
 ·simp only [YY, SX.den, ap3, U.tNi, ZqG, List.map_set]
 ·simp only [YY, SX.den, ap3, U.tBi, ZqG, List.map_set]
 ·simp only [YY, SX.den, ap3, U.tRi, ZqG, List.map_set]
theorem ZAj {t : Nat} (h : t <= 2) (x : SX) : (SX.mkLen (30 + t) x).den S ρ = .int ((YY t (x.den S ρ)).length : Nat) := by
 rcases Zf1 h with rfl | rfl | rfl
 ·rw [SX.mkLen30_den]; simp [SX.den, ap1, YY]
 ·rw [SX.mkLen31_den]; simp [SX.den, ap1, YY]
 ·rw [SX.mkLen32_den]; simp [SX.den, ap1, YY]
theorem Zau (l : List UInt8) : YY 1 ((SX.byt l).den S ρ) = l.map fun b => U.int (b.toNat : Nat) := rfl
theorem ZhF {t : Nat} (h : t <= 2) {x : SX} {n : Nat} (hl : SX.mkLen (30 + t) x = .int (.ofNat n)) : (YY t (x.den S ρ)).length = n := by
 have := ZAj S ρ h x
 rw [hl] at this
 simp only [SX.den, U.int.injEq] at this
 exact (Int.ofNat.inj this).symm
theorem SX.appT_els {t : Nat} (h : t <= 2) : ∀ (a b : SX), YY t ((SX.appT t a b).den S ρ) = YY t (a.den S ρ) ++ YY t (b.den S ρ) := by
 intro a
 induction a with
 | byt l =>
  intro b; unfold SX.appT
  cases h1 : Nat.beq t 1
  ·exact ZQ S ρ h _ _
  ·rw [ZJo h1] at h ⊢
   simp only [cond_true]
   split
   ·simp only [Zau, ZJD]
   ·exact ZQ S ρ (t := 1) h _ _
 | f1 g z =>
  intro b; unfold SX.appT
  cases h1 : Nat.beq g (152 + t)
  ·exact ZQ S ρ h _ _
  ·rw [ZJo h1, ZcH S ρ h]; rfl
 | f2 g x l _ ih =>
  intro b; unfold SX.appT
  cases h1 : Nat.beq g (122 + t)
  ·cases h2 : Nat.beq g (119 + t)
   ·exact ZQ S ρ h _ _
   ·have := ZJo h2; subst this
    simp only [cond_true, cond_false]
    rw [ZQ S ρ h, ZQ S ρ h, ih, ZJL]
  ·have := ZJo h1; subst this
   simp only [cond_true]
   rw [ZM S ρ h, ZM S ρ h, ih]; rfl
 | _ => intro b; exact ZQ S ρ h _ _
theorem SX.consT_els {t : Nat} (h : t <= 2) (a b : SX) : YY t ((SX.consT t a b).den S ρ) = ZqG t (a.den S ρ) :: YY t (b.den S ρ) := by
 unfold SX.consT
 split
 ·cases h1 : Nat.beq t 1
  ·exact ZM S ρ h _ _
  ·rw [ZJo h1]; rfl
 ·rename_i n g z
  cases h1 : Nat.beq t 1
  ·exact ZM S ρ h _ _
  ·have := ZJo h1; subst this
   cases h2 : Nat.beq g (152 + 1)
   ·exact ZM S ρ h _ _
   ·rw [ZJo h2]; rfl
 ·exact ZM S ρ h _ _
theorem SX.takeT_els {t : Nat} (h : t <= 2) : ∀ (a : SX) (k : Nat), YY t ((SX.takeT t a k).den S ρ) = (YY t (a.den S ρ)).take k := by
 intro a
 induction a with
 | byt l =>
  intro k; unfold SX.takeT
  cases h1 : Nat.beq t 1
  ·exact ZaE S ρ h _ _
  ·rw [ZJo h1]; simp only [cond_true, Zau, List.map_take]
 | f1 g z =>
  intro k; unfold SX.takeT
  cases h1 : Nat.beq g (152 + t)
  ·exact ZaE S ρ h _ _
  ·rw [ZJo h1]; simp only [cond_true]; rw [ZcH S ρ h]; simp
 | f2 g x l ihx ih =>
  intro k; unfold SX.takeT
  cases h1 : Nat.beq g (122 + t)
  ·cases h2 : Nat.beq g (119 + t)
   ·exact ZaE S ρ h _ _
   ·have := ZJo h2; subst this
    simp only [cond_true, cond_false]
    split
    ·rename_i n hl
     have hn := ZhF S ρ h hl
     cases h3 : Nat.ble k n
     ·have : ¬ k <= n := fun hh => by rw [Nat.ble_eq_true_of_le hh] at h3; cases h3
      simp only [cond_false]
      rw [ZQ S ρ h, ZQ S ρ h, ih, List.take_append, hn, ZJz (l := YY t (SX.den S ρ x)) (by omega)]
     ·have := ZJA h3
      simp only [cond_true]
      rw [ihx, ZQ S ρ h, List.take_append_of_le_length (by omega)]
    ·exact ZaE S ρ h _ _
  ·have := ZJo h1; subst this
   simp only [cond_true]
   cases k with
   | zero => simp only [nilT]; rw [ZcH S ρ h]; simp
   | succ k => simp only []; rw [ZM S ρ h, ZM S ρ h, ih]; rfl
 | _ => intro k; exact ZaE S ρ h _ _
theorem SX.dropT_els {t : Nat} (h : t <= 2) : ∀ (a : SX) (k : Nat), YY t ((SX.dropT t a k).den S ρ) = (YY t (a.den S ρ)).drop k := by
 intro a
 induction a with
 | byt l =>
  intro k; unfold SX.dropT
  cases h1 : Nat.beq t 1
  ·exact ZaM S ρ h _ _
  ·rw [ZJo h1]; simp only [cond_true, Zau, List.map_drop]
 | f1 g z =>
  intro k; unfold SX.dropT
  cases h1 : Nat.beq g (152 + t)
  ·exact ZaM S ρ h _ _
  ·rw [ZJo h1]; simp only [cond_true]; rw [ZcH S ρ h]; simp
 | f2 g x l ihx ih =>
  intro k; unfold SX.dropT
  cases h1 : Nat.beq g (122 + t)
  ·cases h2 : Nat.beq g (119 + t)
   ·exact ZaM S ρ h _ _
   ·have := ZJo h2; subst this
    simp only [cond_true, cond_false]
    split
    ·rename_i n hl
     have hn := ZhF S ρ h hl
     cases h3 : Nat.ble n k
     ·have : ¬ n <= k := fun hh => by rw [Nat.ble_eq_true_of_le hh] at h3; cases h3
      simp only [cond_false]
      rw [ZQ S ρ h, ZQ S ρ h, ihx, List.drop_append_of_le_length (by omega)]
     ·have := ZJA h3
      simp only [cond_true]
      rw [ih, ZQ S ρ h, List.drop_append, hn, List.drop_of_length_le (l := YY t (SX.den S ρ x)) (by omega), List.nil_append]
    ·exact ZaM S ρ h _ _
  ·have := ZJo h1; subst this
   simp only [cond_true]
   cases k with
   | zero => rfl
   | succ k => simp only []; rw [ZM S ρ h, ih]; rfl
 | _ => intro k; exact ZaM S ρ h _ _
theorem SX.setT_els {t : Nat} (h : t <= 2) (el : SX) : ∀ (a : SX) (k : Nat), YY t ((SX.setT t el a k).den S ρ) = (YY t (a.den S ρ)).set k (ZqG t (el.den S ρ)) := by
 intro a
 induction a with
 | byt l =>
  intro k; unfold SX.setT
  cases h1 : Nat.beq t 1
  ·exact ZcD S ρ h _ _ _
  ·rw [ZJo h1]
   simp only [cond_true]
   split
   ·simp only [Zau, List.map_set]; rfl
   ·cases h2 : Nat.blt k l.length
    ·have : l.length <= k := by
      apply Nat.le_of_not_lt; intro hh
      have : Nat.blt k l.length = true := by rw [Nat.blt_eq]; exact hh
      rw [h2] at this; cases this
     simp only [cond_false]
     rw [List.set_eq_of_length_le]
     rw [Zau, ZJx]; exact this
    ·rw [Nat.blt_eq] at h2
     simp only [cond_true]
     have e1 := ZQ S ρ (t := 1) (by omega) (.byt (l.take k)) (.f2 123 el (.byt (l.drop (k + 1))))
     have e2 := ZM S ρ (t := 1) (by omega) el (.byt (l.drop (k + 1)))
     rw [e1, e2, Zau, Zau, Zau, List.set_eq_take_append_cons_drop, if_pos (by rw [ZJx]; exact h2), List.map_take, List.map_drop]
 | f1 g z =>
  intro k; unfold SX.setT
  cases h1 : Nat.beq g (152 + t)
  ·exact ZcD S ρ h _ _ _
  ·rw [ZJo h1]; simp only [cond_true]; rw [ZcH S ρ h]; rfl
 | f2 g x l ihx ih =>
  intro k; unfold SX.setT
  cases h1 : Nat.beq g (122 + t)
  ·cases h2 : Nat.beq g (119 + t)
   ·exact ZcD S ρ h _ _ _
   ·have := ZJo h2; subst this
    simp only [cond_true, cond_false]
    split
    ·rename_i n hl
     have hn := ZhF S ρ h hl
     cases h3 : Nat.ble n k
     ·have : ¬ n <= k := fun hh => by rw [Nat.ble_eq_true_of_le hh] at h3; cases h3
      simp only [cond_false]
      rw [ZQ S ρ h, ZQ S ρ h, ihx, List.set_append_left _ _ (by omega)]
     ·have := ZJA h3
      simp only [cond_true]
      rw [ZQ S ρ h, ZQ S ρ h, ih, List.set_append_right _ _ (by omega), hn]
    ·exact ZcD S ρ h _ _ _
  ·have := ZJo h1; subst this
   simp only [cond_true]
   cases k with
   | zero => simp only []; rw [ZM S ρ h, ZM S ρ h]; rfl
   | succ k => simp only []; rw [ZM S ρ h, ZM S ρ h, ih]; rfl
 | _ => intro k; exact ZcD S ρ h _ _ _
theorem SX.consN_els {t : Nat} (h : t <= 2) (el : SX) : ∀ n, YY t ((SX.consN t el n).den S ρ) = List.replicate n (ZqG t (el.den S ρ))
 | 0 => ZcH S ρ h _
 | n + 1 => by simp only [SX.consN]; rw [ZM S ρ h, SX.consN_els h el n]; rfl
theorem SX.repT_els {t : Nat} (h : t <= 2) (n el : SX) : YY t ((SX.repT t n el).den S ρ) = List.replicate (n.den S ρ).tI.toNat (ZqG t (el.den S ρ)) := by
 unfold SX.repT
 split
 ·rename_i k
  cases h1 : Nat.beq t 1
  ·simp only [cond_false]
   cases h2 : Nat.ble k 5000
   ·exact ZjD S ρ h _ _
   ·exact SX.consN_els S ρ h el k
  ·rw [ZJo h1]
   simp only [cond_true]
   split
   ·simp only [Zau, List.map_replicate]; rfl
   ·exact ZjD S ρ (t := 1) (by omega) _ _
 ·exact ZjD S ρ h _ _
theorem SX.consN_lt {m t : Nat} {el : SX} (h : el.lt m = true) : ∀ n, (SX.consN t el n).lt m = true
 | 0 => rfl
 | n + 1 => by simp only [SX.consN, SX.lt_f2]; rw [h, SX.consN_lt h n]; rfl
theorem SX.repT_lt {m t : Nat} {n el : SX} (hn : n.lt m = true) (h : el.lt m = true) : (SX.repT t n el).lt m = true := by
 have raw : (SX.f2 (125 + t) n el).lt m = true := by simp only [SX.lt_f2]; rw [hn, h]; rfl
 unfold SX.repT
 split
 ·rename_i k
  cases Nat.beq t 1
  ·simp only [cond_false]
   cases Nat.ble k 5000
   ·exact raw
   ·exact SX.consN_lt h k
  ·simp only [cond_true]
   split
   ·rfl
   ·exact raw
 ·exact raw
theorem ZCC {x : SX} {n : Nat} (hl : SX.mkLen 30 x = .int (.ofNat n)) : (x.den S ρ).tN.length = n := by
 have := ZhF S ρ (t := 0) (by omega) hl
 simpa [YY] using this
theorem ZCx {x : SX} {n : Nat} (hl : SX.mkLen 31 x = .int (.ofNat n)) : (x.den S ρ).tB.length = n := by
 have := ZhF S ρ (t := 1) (by omega) hl
 simpa [YY] using this
theorem ZCc {x : SX} {n : Nat} (hl : SX.mkLen 32 x = .int (.ofNat n)) : (x.den S ρ).tR.length = n := by
 have := ZhF S ρ (t := 2) (by omega) hl
 simpa [YY] using this
theorem ZiC {α : Type} (a b : List α) (k : Nat) (d : α) : (a ++ b).getD k d = if a.length <= k then b.getD (k - a.length) d else a.getD k d := by
 simp only [ZJn]
 split
 ·rw [ZJG (by omega)]
 ·rw [ZJF (by omega)]
theorem Zlp : ∀ (x : SX) (k : Nat), (Zmu x k).den S ρ = .int ((x.den S ρ).tN.getD k 0) := by
 intro x
 induction x with
 | f2 g x l ihx ih =>
  intro k; unfold Zmu
  cases h1 : Nat.beq g 122
  ·cases h2 : Nat.beq g 119
   ·rfl
   ·have := ZJo h2; subst this
    simp only [cond_true, cond_false]
    have e : ((SX.f2 119 x l).den S ρ).tN = (x.den S ρ).tN ++ (l.den S ρ).tN := rfl
    split
    ·rename_i n hl
     have hn := ZCC S ρ hl
     rw [e, ZiC, hn]
     cases h3 : Nat.ble n k
     ·have : ¬ n <= k := fun hh => by rw [Nat.ble_eq_true_of_le hh] at h3; cases h3
      rw [if_neg this]; exact ihx k
     ·rw [if_pos (ZJA h3)]; exact ih _
    ·rfl
  ·have := ZJo h1; subst this
   simp only [cond_true]
   cases k with
   | zero =>
    simp only []
    cases hx : x.isI
    ·rfl
    ·simp only [cond_true]; rw [<- SX.isI_toInt S ρ hx]; rfl
   | succ k => simp only []; rw [ih]; rfl
 | _ => intro k; rfl
theorem ZjB (x i : SX) : (ZI5 x i).den S ρ = .int ((x.den S ρ).tN.getD (i.den S ρ).tI.toNat 0) := by
 unfold ZI5
 split
 ·rw [Zlp]; rfl
 ·rfl
theorem ZEx (n : Int) : 0 <= IntKind.u8.wrap n /\ IntKind.u8.wrap n < 256 := by
 have : IntKind.u8.wrap n = n % 256 := by
  unfold IntKind.wrap
  simp [IntKind.bits, IntKind.signed]
  try omega
 omega
theorem Zq2 {x y : SX} (h : asByte x = some y) : y.den S ρ = .int ((UInt8.ofNat (x.den S ρ).tI.toNat).toNat : Nat) := by
 unfold asByte at h
 split at h
 ·rename_i n
  cases hn : Nat.ble n 255
  ·rw [hn] at h; cases h
  ·rw [hn] at h; cases h
   have := ZJA hn
   simp only [SX.den, U.tI]
   congr 1
   simp only [Int.ofNat_eq_natCast, ZJu, UInt8.toNat_ofNat']
   omega
 ·cases h
  simp only [SX.den]
  show U.int _ = U.int _
  congr 1
  simp only [U.tIi, UInt8.toNat_ofNat', ap1]
  simp
  have := ZEx ((SX.den S ρ ‹_›).tI)
  simp only [kc]
  omega
 ·cases h
  simp only [SX.den, ap2, U.tIi, ZJu]
  congr 1
  simp
 ·cases h
theorem Zuq : ∀ (x : SX) (k : Nat), (ZqX x k).den S ρ = .int (((x.den S ρ).tB.getD k 0).toNat : Nat) := by
 intro x
 induction x with
 | byt l => intro k; rfl
 | f2 g x l ihx ih =>
  intro k; unfold ZqX
  cases h1 : Nat.beq g 123
  ·cases h2 : Nat.beq g 120
   ·rfl
   ·have := ZJo h2; subst this
    simp only [cond_true, cond_false]
    have e : ((SX.f2 120 x l).den S ρ).tB = (x.den S ρ).tB ++ (l.den S ρ).tB := rfl
    split
    ·rename_i n hl
     have hn := ZCx S ρ hl
     rw [e, ZiC, hn]
     cases h3 : Nat.ble n k
     ·have : ¬ n <= k := fun hh => by rw [Nat.ble_eq_true_of_le hh] at h3; cases h3
      rw [if_neg this]; exact ihx k
     ·rw [if_pos (ZJA h3)]; exact ih _
    ·rfl
  ·have := ZJo h1; subst this
   simp only [cond_true]
   cases k with
   | zero =>
    simp only []
    split
    ·rename_i y hy; rw [Zq2 S ρ hy]; rfl
    ·rfl
   | succ k => simp only []; rw [ih]; rfl
 | _ => intro k; rfl
theorem ZiK (x i : SX) : (ZGx x i).den S ρ = (SX.f2 111 x i).den S ρ := by
 unfold ZGx
 split
 ·rw [Zuq]; rfl
 ·rfl
theorem Zvp (p : SX) : ∀ (x : SX) (k : Nat), (ZqW p x k).den S ρ = .int (((x.den S ρ).tR.getD k []).getD (p.den S ρ).tI.toNat 0) := by
 intro x
 induction x with
 | f2 g x l ihx ih =>
  intro k; unfold ZqW
  cases h1 : Nat.beq g 124
  ·cases h2 : Nat.beq g 121
   ·rfl
   ·have := ZJo h2; subst this
    simp only [cond_true, cond_false]
    have e : ((SX.f2 121 x l).den S ρ).tR = (x.den S ρ).tR ++ (l.den S ρ).tR := rfl
    split
    ·rename_i n hl
     have hn := ZCc S ρ hl
     rw [e, ZiC, hn]
     cases h3 : Nat.ble n k
     ·have : ¬ n <= k := fun hh => by rw [Nat.ble_eq_true_of_le hh] at h3; cases h3
      rw [if_neg this]; exact ihx k
     ·rw [if_pos (ZJA h3)]; exact ih _
    ·rfl
  ·have := ZJo h1; subst this
   simp only [cond_true]
   cases k with
   | zero =>
    simp only []
    split
    ·rw [Zlp]; rfl
    ·rfl
   | succ k => simp only []; rw [ih]; rfl
 | _ => intro k; rfl
theorem ZbP (x i p : SX) : (Zdg x i p).den S ρ = .int (((x.den S ρ).tR.getD (i.den S ρ).tI.toNat []).getD (p.den S ρ).tI.toNat 0) := by
 unfold Zdg
 split
 ·rw [Zvp]; rfl
 ·rfl
/-! ### Exactly -/
def coT (t : Nat) (u : U G) : U G :=
 match t with
 | 0 => .ints u.tN
 | 1 => .bytes u.tB
 | _ => .rows u.tR
theorem ZwB {t : Nat} (h : t <= 2) {u v : U G} (hu : coT t u = u) (hv : coT t v = v) (he : YY t u = YY t v) : u = v := by
 rw [<- hu, <- hv]
 rcases Zf1 h with rfl | rfl | rfl
 ·simp only [YY] at he
  simp only [coT]
  rw [List.map_inj_right (fun a b h => by injection h)] at he
  rw [he]
 ·simp only [YY] at he
  simp only [coT]
  rw [List.map_inj_right (fun a b h => by injection h with h; exact UInt8.toNat_inj.1 (Int.ofNat.inj h))] at he
  rw [he]
 ·simp only [YY] at he
  simp only [coT]
  rw [List.map_inj_right (fun a b h => by injection h)] at he
  rw [he]
theorem Zak {t : Nat} (h : t <= 2) (g : Nat) (hg : g = 119 + t \/ g = 122 + t \/ g = 113 + t \/ g = 116 + t \/ g = 125 + t) (a b : SX) : coT t ((SX.f2 g a b).den S ρ) = (SX.f2 g a b).den S ρ := by
 rcases Zf1 h with rfl | rfl | rfl <;> rcases hg with rfl | rfl | rfl | rfl | rfl <;> rfl
theorem ZyN {t : Nat} (h : t <= 2) (a : SX) : coT t ((SX.f1 (152 + t) a).den S ρ) = (SX.f1 (152 + t) a).den S ρ := by
 rcases Zf1 h with rfl | rfl | rfl <;> rfl
theorem SX.takeT_co {t : Nat} (h : t <= 2) : ∀ (a : SX) (k : Nat), coT t ((SX.takeT t a k).den S ρ) = (SX.takeT t a k).den S ρ := by
 intro a
 induction a with
 | byt l =>
  intro k; unfold SX.takeT
  cases h1 : Nat.beq t 1
  ·exact Zak S ρ h _ (by simp) _ _
  ·rw [ZJo h1]; rfl
 | f1 g z =>
  intro k; unfold SX.takeT
  cases h1 : Nat.beq g (152 + t)
  ·exact Zak S ρ h _ (by simp) _ _
  ·rw [ZJo h1]; exact ZyN S ρ h _
 | f2 g x l ihx ih =>
  intro k; unfold SX.takeT
  cases h1 : Nat.beq g (122 + t)
  ·cases h2 : Nat.beq g (119 + t)
   ·exact Zak S ρ h _ (by simp) _ _
   ·have := ZJo h2; subst this
    simp only [cond_true, cond_false]
    split
    ·rename_i n _
     cases Nat.ble k n
     ·exact Zak S ρ h _ (by simp) _ _
     ·exact ihx k
    ·exact Zak S ρ h _ (by simp) _ _
  ·have := ZJo h1; subst this
   simp only [cond_true]
   cases k with
   | zero => exact ZyN S ρ h _
   | succ k => exact Zak S ρ h _ (by simp) _ _
 | _ => intro k; exact Zak S ρ h _ (by simp) _ _
theorem SX.dropT_co {t : Nat} (h : t <= 2) : ∀ (a : SX) (k : Nat), coT t ((SX.dropT t a k).den S ρ) = (SX.dropT t a k).den S ρ := by
 intro a
 induction a with
 | byt l =>
  intro k; unfold SX.dropT
  cases h1 : Nat.beq t 1
  ·exact Zak S ρ h _ (by simp) _ _
  ·rw [ZJo h1]; rfl
 | f1 g z =>
  intro k; unfold SX.dropT
  cases h1 : Nat.beq g (152 + t)
  ·exact Zak S ρ h _ (by simp) _ _
  ·rw [ZJo h1]; exact ZyN S ρ h _
 | f2 g x l ihx ih =>
  intro k; unfold SX.dropT
  cases h1 : Nat.beq g (122 + t)
  ·cases h2 : Nat.beq g (119 + t)
   ·exact Zak S ρ h _ (by simp) _ _
   ·have := ZJo h2; subst this
    simp only [cond_true, cond_false]
    split
    ·rename_i n _
     cases Nat.ble n k
     ·exact Zak S ρ h _ (by simp) _ _
     ·exact ih _
    ·exact Zak S ρ h _ (by simp) _ _
  ·have := ZJo h1; subst this
   simp only [cond_true]
   cases k with
   | zero => exact Zak S ρ h _ (by simp) _ _
   | succ k => exact ih k
 | _ => intro k; exact Zak S ρ h _ (by simp) _ _
theorem SX.takeT_den {t : Nat} (h : t <= 2) (a : SX) (k : Nat) : (SX.takeT t a k).den S ρ = (SX.f2 (113 + t) a (.int (.ofNat k))).den S ρ :=
 ZwB h (SX.takeT_co S ρ h a k) (Zak S ρ h _ (by simp) _ _) (by rw [SX.takeT_els S ρ h, ZaE S ρ h]; rfl)
theorem SX.dropT_den {t : Nat} (h : t <= 2) (a : SX) (k : Nat) : (SX.dropT t a k).den S ρ = (SX.f2 (116 + t) a (.int (.ofNat k))).den S ρ :=
 ZwB h (SX.dropT_co S ρ h a k) (Zak S ρ h _ (by simp) _ _) (by rw [SX.dropT_els S ρ h, ZaM S ρ h]; rfl)
def SX.mkS2 (f : Nat) (a b : SX) : SX :=
 match f with
 | 110 => ZI5 a b
 | 111 => ZGx a b
 | 113 => (match b with | .int (.ofNat k) => SX.takeT 0 a k | b => .f2 113 a b)
 | 114 => (match b with | .int (.ofNat k) => SX.takeT 1 a k | b => .f2 114 a b)
 | 115 => (match b with | .int (.ofNat k) => SX.takeT 2 a k | b => .f2 115 a b)
 | 116 => (match b with | .int (.ofNat k) => SX.dropT 0 a k | b => .f2 116 a b)
 | 117 => (match b with | .int (.ofNat k) => SX.dropT 1 a k | b => .f2 117 a b)
 | 118 => (match b with | .int (.ofNat k) => SX.dropT 2 a k | b => .f2 118 a b)
 | f => SX.mk2 f a b
theorem SX.mkS2_den (f : Nat) (a b : SX) : (SX.mkS2 f a b).den S ρ = (SX.f2 f a b).den S ρ := by
 unfold SX.mkS2
 split
 ·exact ZjB S ρ a b
 ·exact ZiK S ρ a b
 ·split
  ·exact SX.takeT_den S ρ (t := 0) (by omega) _ _
  ·rfl
 ·split
  ·exact SX.takeT_den S ρ (t := 1) (by omega) _ _
  ·rfl
 ·split
  ·exact SX.takeT_den S ρ (t := 2) (by omega) _ _
  ·rfl
 ·split
  ·exact SX.dropT_den S ρ (t := 0) (by omega) _ _
  ·rfl
 ·split
  ·exact SX.dropT_den S ρ (t := 1) (by omega) _ _
  ·rfl
 ·split
  ·exact SX.dropT_den S ρ (t := 2) (by omega) _ _
  ·rfl
 ·exact SX.mk2_den S ρ f a b
def SX.mkS3 (f : Nat) (a b c : SX) : SX :=
 match f with
 | 112 => Zdg a b c
 | f => SX.mk3 f a b c
theorem SX.mkS3_den (f : Nat) (a b c : SX) : (SX.mkS3 f a b c).den S ρ = (SX.f3 f a b c).den S ρ := by
 unfold SX.mkS3
 split
 ·exact ZbP S ρ a b c
 ·exact SX.mk3_den S ρ f a b c
/-! ### Maps that stand written out -/
theorem Zlx (d : Int) : ∀ (m : List (Int × Int)) (k v k' : Int), Zhb d (Za4 m k v) k' = if k = k' then v else Zhb d m k'
 | [], k, v, k' => rfl
 | (a, b) :: m, k, v, k' => by
  simp only [Za4]
  by_cases h : a = k
  ·rw [if_pos h]; simp only [Zhb]; subst h; by_cases h2 : a = k' <;> simp [h2]
  ·rw [if_neg h]; simp only [Zhb]
   by_cases h2 : a = k'
   ·subst h2; rw [if_pos rfl, if_neg (fun e => h e.symm), if_pos rfl]
   ·rw [if_neg h2, if_neg h2]; exact Zlx d m k v k'
theorem ZkX : ∀ (m : List (Int × Int)) (k v k' : Int), Zbs (Za4 m k v) k' = if k = k' then true else Zbs m k'
 | [], k, v, k' => rfl
 | (a, b) :: m, k, v, k' => by
  simp only [Za4]
  by_cases h : a = k
  ·rw [if_pos h]; simp only [Zbs]; subst h; by_cases h2 : a = k' <;> simp [h2]
  ·rw [if_neg h]; simp only [Zbs]
   by_cases h2 : a = k'
   ·subst h2; rw [if_pos rfl, if_neg (fun e => h e.symm), if_pos rfl]
   ·rw [if_neg h2, if_neg h2]; exact ZkX m k v k'
theorem ZjY : ∀ (m : List (Int × Int)) (k v v' : Int), Za4 (Za4 m k v) k v' = Za4 m k v'
 | [], k, v, v' => by simp [Za4]
 | (a, b) :: m, k, v, v' => by
  simp only [Za4]
  by_cases h : a = k
  ·simp [h, Za4]
  ·rw [if_neg h, if_neg h]; simp only [Za4]; rw [if_neg h, ZjY m k v v']
theorem Zk6 : ∀ (m : List (Int × Int)) (k v k' v' : Int), k ≠ k' -> Zbs m k' = true -> Za4 (Za4 m k v) k' v' = Za4 (Za4 m k' v') k v
 | [], k, v, k', v', _, h => by cases h
 | (a, b) :: m, k, v, k', v', hne, h => by
  simp only [Za4]
  by_cases h1 : a = k
  ·subst h1
   have h2 : ¬ a = k' := hne
   simp only [Zbs] at h
   simp [h2, Za4]
  ·by_cases h2 : a = k'
   ·subst h2
    simp [h1, Za4]
   ·simp only [Zbs] at h
    rw [if_neg h2] at h
    simp only [if_neg h1, if_neg h2, Za4]
    rw [Zk6 m k v k' v' hne h]
theorem ZcQ : ∀ (m : List (Int × Int)) (k v : Int), Zee (Za4 m k v) k = Zee m k
 | [], k, v => by simp [Za4, Zee]
 | (a, b) :: m, k, v => by
  simp only [Za4]
  by_cases h : a = k
  ·simp [h, Zee]
  ·rw [if_neg h]; simp only [Zee]; rw [if_neg h, if_neg h, ZcQ m k v]
theorem Zkr : ∀ (m : List (Int × Int)) (k v k' : Int), k ≠ k' -> Zee (Za4 m k v) k' = Za4 (Zee m k') k v
 | [], k, v, k', hne => by simp [Za4, Zee, hne]
 | (a, b) :: m, k, v, k', hne => by
  simp only [Za4, Zee]
  by_cases h1 : a = k
  ·subst h1; simp [hne, Za4, Zee]
  ·by_cases h2 : a = k'
   ·subst h2; simp [h1, Zee]
   ·simp only [if_neg h1, if_neg h2, Za4, Zee]
    rw [Zkr m k v k' hne]
theorem Zmj : ∀ (m : List (Int × Int)) (k v : Int), (Za4 m k v).length = if Zbs m k then m.length else m.length + 1
 | [], k, v => rfl
 | (a, b) :: m, k, v => by
  by_cases h : a = k
  ·simp [Za4, Zbs, h]
  ·have e : Zbs ((a, b) :: m) k = Zbs m k := by simp [Zbs, h]
   have e2 : Za4 ((a, b) :: m) k v = (a, b) :: Za4 m k v := by simp [Za4, h]
   rw [e2, ZJH, Zmj m k v, e, ZJH]; split <;> rfl
def Zm9 (d : Int) (k' : SX) : SX -> SX
 | .f1 f z => bif Nat.beq f 155 then .int d else .f3 140 (.int d) (.f1 f z) k'
 | .f3 f m k v => bif Nat.beq f 142 then (match k, k' with
   | .int a, .int b => bif ibq a b then (bif v.isI then v else .f3 140 (.int d) (.f3 f m k v) k') else Zm9 d k' m
   | _, _ => .f3 140 (.int d) (.f3 f m k v) k') else .f3 140 (.int d) (.f3 f m k v) k'
 | m => .f3 140 (.int d) m k'
def ZgY (k' : SX) : SX -> SX
 | .f1 f z => bif Nat.beq f 155 then .bool false else .f2 141 (.f1 f z) k'
 | .f3 f m k v => bif Nat.beq f 142 then (match k, k' with
   | .int a, .int b => bif ibq a b then .bool true else ZgY k' m
   | _, _ => .f2 141 (.f3 f m k v) k') else .f2 141 (.f3 f m k v) k'
 | m => .f2 141 m k'
def Zzb (k' v' : SX) : SX -> SX
 | .f3 f m k v => bif Nat.beq f 142 then (match k, k' with
   | .int a, .int b => bif ibq a b then .f3 142 m k v' else (match ZgY k' m with
    | .bool true => .f3 142 (Zzb k' v' m) k v
    | _ => .f3 142 (.f3 f m k v) k' v')
   | _, _ => .f3 142 (.f3 f m k v) k' v') else .f3 142 (.f3 f m k v) k' v'
 | m => .f3 142 m k' v'
def ZnH (k' : SX) : SX -> SX
 | .f1 f z => bif Nat.beq f 155 then .f1 f z else .f2 143 (.f1 f z) k'
 | .f3 f m k v => bif Nat.beq f 142 then (match k, k' with
   | .int a, .int b => bif ibq a b then ZnH k' m else .f3 142 (ZnH k' m) k v
   | _, _ => .f2 143 (.f3 f m k v) k') else .f2 143 (.f3 f m k v) k'
 | m => .f2 143 m k'
def ZdX : SX -> SX
 | .f1 f z => bif Nat.beq f 155 then .int 0 else .f1 33 (.f1 f z)
 | .f3 f m k v => bif Nat.beq f 142 then (match ZgY k m with
   | .bool true => ZdX m
   | .bool false => SX.mkAdd (ZdX m) (.int 1)
   | _ => .f1 33 (.f3 f m k v)) else .f1 33 (.f3 f m k v)
 | m => .f1 33 m
theorem Y7 (m k v : SX) : ((SX.f3 142 m k v).den S ρ) = .amap (Za4 (m.den S ρ).tM (k.den S ρ).tI (v.den S ρ).tI) := rfl
theorem ZpR {a b : Int} (h : ibq a b = false) : a ≠ b := fun e => by rw [e, Zfv] at h; cases h
theorem ZaD (d : Int) (k' : SX) : ∀ (m : SX), (Zm9 d k' m).den S ρ = (SX.f3 140 (.int d) m k').den S ρ := by
 intro m
 induction m with
 | f1 f z _ =>
  unfold Zm9
  cases h : Nat.beq f 155
  ·rfl
  ·rw [ZJo h]; rfl
 | f3 f m k v ih ihk ihv =>
  unfold Zm9
  cases h : Nat.beq f 142
  ·rfl
  ·have := ZJo h; subst this
   simp only [cond_true]
   have e : (SX.f3 140 (.int d) (.f3 142 m k v) k').den S ρ = .int (if (k.den S ρ).tI = (k'.den S ρ).tI then (v.den S ρ).tI else Zhb d (m.den S ρ).tM (k'.den S ρ).tI) := by
    rw [<- Zlx]; rfl
   split
   ·rename_i a b
    have e : (SX.f3 140 (.int d) (.f3 142 m (.int a) v) (.int b)).den S ρ = .int (if a = b then (v.den S ρ).tI else Zhb d (m.den S ρ).tM b) := e
    cases h1 : ibq a b
    ·simp only [cond_false]
     rw [ih, e, if_neg (ZpR h1)]; rfl
    ·simp only [cond_true]
     cases hv : v.isI
     ·rfl
     ·simp only [cond_true]
      rw [e, if_pos (ZeY h1), SX.isI_toInt S ρ hv]
   ·rfl
 | _ => rfl
theorem ZdW (k' : SX) : ∀ (m : SX), (ZgY k' m).den S ρ = (SX.f2 141 m k').den S ρ := by
 intro m
 induction m with
 | f1 f z _ =>
  unfold ZgY
  cases h : Nat.beq f 155
  ·rfl
  ·rw [ZJo h]; rfl
 | f3 f m k v ih ihk ihv =>
  unfold ZgY
  cases h : Nat.beq f 142
  ·rfl
  ·have := ZJo h; subst this
   simp only [cond_true]
   have e : (SX.f2 141 (.f3 142 m k v) k').den S ρ = .bool (if (k.den S ρ).tI = (k'.den S ρ).tI then true else Zbs (m.den S ρ).tM (k'.den S ρ).tI) := by
    rw [<- ZkX _ _ (v.den S ρ).tI]; rfl
   split
   ·rename_i a b
    have e : (SX.f2 141 (.f3 142 m (.int a) v) (.int b)).den S ρ = .bool (if a = b then true else Zbs (m.den S ρ).tM b) := e
    cases h1 : ibq a b
    ·simp only [cond_false]
     rw [ih, e, if_neg (ZpR h1)]; rfl
    ·simp only [cond_true]
     rw [e, if_pos (ZeY h1)]; rfl
   ·rfl
 | _ => rfl
theorem ZxA (k' v' : SX) : ∀ (m : SX), (Zzb k' v' m).den S ρ = (SX.f3 142 m k' v').den S ρ := by
 intro m
 induction m with
 | f3 f m k v ih ihk ihv =>
  unfold Zzb
  cases h : Nat.beq f 142
  ·rfl
  ·have := ZJo h; subst this
   simp only [cond_true]
   split
   ·rename_i a b
    cases h1 : ibq a b
    ·simp only [cond_false]
     split
     ·rename_i hh
      have := ZdW S ρ (.int b) m
      rw [hh] at this
      have hm : Zbs (m.den S ρ).tM b = true := by
       have : (U.bool true : U G) = .bool (Zbs (m.den S ρ).tM b) := this
       injection this with this; exact this.symm
      rw [Y7, ih, Y7, Y7, Y7]
      simp only [U.tMi]
      exact congrArg U.amap (Zk6 _ _ _ _ _ (ZpR h1) hm).symm
     ·rfl
    ·simp only [cond_true]
     rw [Y7, Y7, Y7]
     have e2 := ZeY h1
     subst e2
     simp only [U.tMi]
     rw [ZjY]
   ·rfl
 | _ => rfl
theorem Zj9 (k' : SX) : ∀ (m : SX), ((ZnH k' m).den S ρ).tM = Zee (m.den S ρ).tM (k'.den S ρ).tI := by
 intro m
 induction m with
 | f1 f z _ =>
  unfold ZnH
  cases h : Nat.beq f 155
  ·rfl
  ·rw [ZJo h]; rfl
 | f3 f m k v ih ihk ihv =>
  unfold ZnH
  cases h : Nat.beq f 142
  ·rfl
  ·have := ZJo h; subst this
   simp only [cond_true]
   split
   ·rename_i a b
    cases h1 : ibq a b
    ·simp only [cond_false]
     rw [Y7, Y7]
     simp only [U.tMi]
     rw [ih]
     exact (Zkr _ _ _ _ (ZpR h1)).symm
    ·simp only [cond_true]
     rw [ih, Y7]
     have e2 := ZeY h1
     subst e2
     simp only [U.tMi]
     exact (ZcQ _ _ _).symm
   ·rfl
 | _ => rfl
theorem ZlC : ∀ (m : SX), (ZdX m).den S ρ = (SX.f1 33 m).den S ρ := by
 intro m
 induction m with
 | f1 f z _ =>
  unfold ZdX
  cases h : Nat.beq f 155
  ·rfl
  ·rw [ZJo h]; rfl
 | f3 f m k v ih ihk ihv =>
  unfold ZdX
  cases h : Nat.beq f 142
  ·rfl
  ·have := ZJo h; subst this
   simp only [cond_true]
   have e : (SX.f1 33 (.f3 142 m k v)).den S ρ = .int ((if Zbs (m.den S ρ).tM (k.den S ρ).tI then (m.den S ρ).tM.length else (m.den S ρ).tM.length + 1 : Nat) : Int) := by
    rw [<- Zmj _ _ (v.den S ρ).tI]; rfl
   have hh := ZdW S ρ k m
   have e3 : (SX.f2 141 m k).den S ρ = .bool (Zbs (m.den S ρ).tM (k.den S ρ).tI) := rfl
   rw [e3] at hh
   split
   ·rename_i h2
    rw [h2] at hh
    have : true = Zbs (m.den S ρ).tM (k.den S ρ).tI := by
     have : (U.bool true : U G) = .bool _ := hh
     injection this
    rw [ih, e, <- this]; rfl
   ·rename_i h2
    rw [h2] at hh
    have : false = Zbs (m.den S ρ).tM (k.den S ρ).tI := by
     have : (U.bool false : U G) = .bool _ := hh
     injection this
    rw [SX.mkAdd_den, ih, e, <- this]
    simp [SX.den, ap1]
   ·rfl
 | _ => rfl
end
end
end Go.Eng
namespace Go.Eng
noncomputable section
open Go.RowKit (Below)
inductive SC where
 | int (k : IntKind) (e : SX) | bool (e : SX)
 | ptr (b : SX) (o : Nat)
 | ep (b o i : SX) (s j : Nat)
 | slice (b o k z l c : SX) (s : Nat)
 | str (e : SX) | map (b : SX)
 | fn (f : Nat) | cap (g x : SC)
 | nilfn | nilif | ifc (t : Nat) (v : SC)
 | opq (x i : SX) (p : Nat)
 deriving Inhabited
inductive SV where
 | junk | one (c : SC) | agg (cs : List SC) | tup (vs : List (Bool × List SC))
 deriving Inhabited
inductive Fd where
 | int (k : IntKind) | bool | ptr | slice (s : Nat) | map | slo (s : Nat) | str
 deriving DecidableEq, Repr, Inhabited
def Fd.width : Fd -> Nat | .slice _ => 3 | .slo _ => 5 | _ => 1
def opqV (r : List Int) : Value := .slice (if r.getD 0 0 < 0 then none else some ⟨(r.getD 0 0).toNat, (r.getD 1 0).toNat, if r.getD 2 0 < 0 then none else some (r.getD 2 0).toNat⟩) (r.getD 3 0).toNat (r.getD 4 0).toNat
inductive MV where
 | one (f : Fd) | sb
 deriving DecidableEq, Repr, Inhabited
inductive MK where
 | int (k : IntKind) | str
 deriving DecidableEq, Repr, Inhabited
def MK.val : MK -> Int -> Value
 | .int k, n => .int k n
 | .str, n => .string ⟨(decB n.toNat).toArray⟩
def MK.ok : MK -> Int -> Prop
 | .int _, _ => True
 | .str, n => ∃ l, n = (Zed l : Nat)
def MK.bq : MK -> MK -> Bool
 | .int a, .int b => Nat.beq (kn a) (kn b)
 | .str, .str => true
 | _, _ => false
theorem MK.bq_eq : ∀ {a b : MK}, MK.bq a b = true -> a = b
 | .int a, .int b, h => by rw [<- ZjP a, <- ZjP b, ZJo h]
 | .str, .str, _ => rfl
 | .int _, .str, h => by cases h
 | .str, .int _, h => by cases h
theorem MK.val_inj {kk : MK} {a b : Int} (ha : kk.ok a) (hb : kk.ok b) (h : kk.val a = kk.val b) : a = b := by
 cases kk with
 | int k => injection h
 | str =>
  obtain ⟨l, rfl⟩ := ha
  obtain ⟨m, rfl⟩ := hb
  simp only [MK.val, ZJu, Yd, Value.string.injEq, ByteArray.mk.injEq] at h
  rw [show l = m from by simpa using h]
inductive En where
 | ints (k : IntKind) | bytes | rows (fs : List Fd)
 deriving DecidableEq, Repr, Inhabited
def En.stride : En -> Nat | .rows fs => fs.length | _ => 1
def En.t : En -> Nat | .ints _ => 0 | .bytes => 1 | .rows _ => 2
inductive Ch where
 | cel (b : SX) (o : Nat) (cs : List SC)
 | arr (e : En) (b x cap : SX)
 | ro (e : En) (b o x : SX)
 | rd (i : Nat) (e : En) (b o x cap : SX)
 | map (kk : MK) (v : MV) (b m : SX)
 | prd (p : Nat) (k x : SX)
 | itr (kk : MK) (v : MV) (b m r left cur : SX)
 deriving Inhabited
inductive VC where
 | tt | ff (why : Nat)
 | and (a b : VC)
 | imp (e : SX) (a : VC)
 | need (e : SX) (a : VC)
 | all (n : Nat) (s : Srt) (a : VC)
 deriving Repr, Inhabited
structure St where
 fr : List SV
 hp : List Ch
 n : Nat
 asm : List SX
 deriving Inhabited
section
variable {G : Type} (S : Sig G) (ρ : Env G)
def SX.I (e : SX) : Int := (e.den S ρ).tI
def SX.N (e : SX) : Nat := (e.den S ρ).tI.toNat
def SX.P (e : SX) : Prop := (e.den S ρ).tP
def SC.den : SC -> Value
 | .int k e => .int k (e.den S ρ).tI
 | .bool e => .bool (e.den S ρ).toBool
 | .ptr b o => if (b.den S ρ).tI < 0 then .pointer none else .pointer (some ⟨(b.den S ρ).tI.toNat, o, none⟩)
 | .ep b o i s j => .pointer (some ⟨(b.den S ρ).tI.toNat, (o.den S ρ).tI.toNat + (i.den S ρ).tI.toNat * s + j, none⟩)
 | .slice b o k z l c s => .slice (if (b.den S ρ).tI < 0 then none else
   some ⟨(b.den S ρ).tI.toNat, (o.den S ρ).tI.toNat + (if (c.den S ρ).tI = 0 then (z.den S ρ).tI else (k.den S ρ).tI).toNat * s, none⟩)
   (l.den S ρ).tI.toNat (c.den S ρ).tI.toNat
 | .str e => .string ⟨(e.den S ρ).tB.toArray⟩
 | .map b => .map (if (b.den S ρ).tI < 0 then none else some (b.den S ρ).tI.toNat)
 | .fn f => .func (.func f) #[] #[]
 | .cap g x => match SC.den g with | .func f a c => .func f a (c.push (SC.den x)) | v => v
 | .nilfn => .nilFunc | .nilif => .nilIface
 | .opq x i p => opqV ((((x.den S ρ).tR.getD (i.den S ρ).tI.toNat []).drop p))
 | .ifc t v => .iface t (SC.den v)
def Zdx (p : Bool × List SC) : Value :=
 match p with
 | (false, [c]) => c.den S ρ
 | (_, cs) => .agg (cs.map (SC.den S ρ)).toArray
def SV.den : SV -> Value
 | .junk => undef
 | .one c => c.den S ρ
 | .agg cs => .agg (cs.map (SC.den S ρ)).toArray
 | .tup vs => .tuple (vs.map (Zdx S ρ)).toArray
def SV.isJunk : SV -> Bool | .junk => true | _ => false
def SV.R (sv : SV) (v : Value) : Prop := sv.isJunk = true \/ v = sv.den S ρ
def Fd.val : Fd -> List Int -> Value
 | .int k, r => .int k (r.getD 0 0)
 | .bool, r => .bool (r.getD 0 0 != 0)
 | .ptr, r => if r.getD 0 0 < 0 then .pointer none else .pointer (some ⟨(r.getD 0 0).toNat, 0, none⟩)
 | .slice _, r => .slice (if r.getD 0 0 < 0 then none else some ⟨(r.getD 0 0).toNat, 0, none⟩) (r.getD 1 0).toNat (r.getD 2 0).toNat
 | .map, r => .map (if r.getD 0 0 < 0 then none else some (r.getD 0 0).toNat)
 | .slo _, r => opqV r
 | .str, r => .string ⟨(decB (r.getD 0 0).toNat).toArray⟩
def MV.val : MV -> List Int -> Value
 | .one f, r => f.val r
 | .sb, r => .agg #[.string ⟨(decB ((r.getD 0 0).tdiv 2).toNat).toArray⟩, .bool ((r.getD 0 0).tmod 2 != 0)]
def Zs : List Fd -> List Int -> List Value
 | [], _ => []
 | f :: fs, r => f.val r :: Zs fs (r.drop f.width)
theorem YC : ∀ (fs : List Fd) (r : List Int), (Zs fs r).length = fs.length
 | [], _ => rfl
 | f :: fs, r => by simp [Zs, YC fs]
def En.vals : En -> U G -> List Value
 | .ints k, u => u.tN.map (Value.int k)
 | .bytes, u => u.tB.map (fun b => Value.int .u8 (b.toNat : Nat))
 | .rows fs, u => u.tR.flatMap (Zs fs)
def En.len : En -> U G -> Nat
 | .ints _, u => u.tN.length
 | .bytes, u => u.tB.length
 | .rows _, u => u.tR.length
def Zhi (kk : MK) (v : MV) (es : Array MapEntry) (clock : Nat) (m : List (Int × Int)) : Prop :=
 es.toList.map (fun e => (e.key, e.val)) = m.map (fun p => (kk.val p.1, v.val [p.2])) /\ (m.map (·.1)).Nodup /\ (∀ p ∈ m, kk.ok p.1) ∧
  (es.toList.map (·.born)).Nodup /\ (∀ e ∈ es.toList, e.born < clock)
def ZzD (kk : MK) (v : MV) (es : Array MapEntry) (clock : Nat) (m left : List (Int × Int)) (cur : List Int) (seen : Array Nat) : Prop :=
 Zhi kk v es clock m /\ (es.toList.filter (fun e => !seen.contains e.born)).map (fun e => (e.key, e.val)) = left.map (fun p => (kk.val p.1, v.val [p.2])) /\ (∀ p ∈ left, kk.ok p.1) ∧
  ∀ k, cur = [k] -> ∃ e ∈ es.toList, (∃ s : Array Nat, seen = s.push e.born) /\ e.key = kk.val k /\ kk.ok k
def Zlm (kk : MK) (v : MV) (b m r left cur : U G) : Zd := fun h => 0 <= b.tI /\ 0 <= r.tI /\ ∃ (es : Array MapEntry) (clock : Nat) (seen : Array Nat), ZzD kk v es clock m.tM left.tM cur.tN seen ∧
  Zg (Zf7 b.tI.toNat (.map es clock)) (Zf7 r.tI.toNat (.mapIter (some b.tI.toNat) clock seen clock)) h
def En.nf : En -> Bool | .bytes => false | _ => true
def ZO (S : Sig G) (e : En) (b x cap : U G) : Zd := fun h => ∃ spare : List Value, (e.vals x).length + spare.length = cap.tI.toNat * e.stride /\ 0 <= cap.tI ∧
   (0 <= b.tI \/ cap.tI = 0) /\ row b.tI.toNat 0 (e.vals x ++ spare) e.nf h
def Zq4 (S : Sig G) (w0 : World) (e : En) (b o x : U G) : Zd := Zd.pure ((0 <= b.tI \/ e.vals x = []) /\ (∀ i v, (e.vals x)[i]? = some v -> b.tI.toNat < w0.heap.size ∧
   w0.cell? ⟨b.tI.toNat, o.tI.toNat + i, none⟩ = some v))
def Ch.den (w0 : World) : Ch -> Zd
 | .cel b o cs => fun h => (0 <= (b.den S ρ).tI \/ cs = []) /\ row (b.den S ρ).tI.toNat o (cs.map (SC.den S ρ)) true h
 | .arr e b x cap => ZO S e (b.den S ρ) (x.den S ρ) (cap.den S ρ)
 | .ro e b o x => Zq4 S w0 e (b.den S ρ) (o.den S ρ) (x.den S ρ)
 | .rd i e b o x cap => if S.ch i then Zq4 S w0 e (b.den S ρ) (o.den S ρ) (x.den S ρ) else fun h => (o.den S ρ).tI = 0 /\ ZO S e (b.den S ρ) (x.den S ρ) (cap.den S ρ) h
 | .map kk v b m => fun h => 0 <= (b.den S ρ).tI /\ ∃ es clock, Zhi kk v es clock (m.den S ρ).tM /\ Zf7 (b.den S ρ).tI.toNat (.map es clock) h
 | .prd p k x => S.prd p w0 (k.den S ρ) (x.den S ρ)
 | .itr kk v b m r l c => Zlm kk v (b.den S ρ) (m.den S ρ) (r.den S ρ) (l.den S ρ) (c.den S ρ)
def Ze (w0 : World) (l : List Ch) : Zd := big (l.map (Ch.den S ρ w0))
def FrR : List SV -> List Value -> Prop
 | [], [] => True
 | s :: l, v :: m => s.R S ρ v /\ FrR l m
 | _, _ => False
structure Den (w0 : World) (F : Zd) (st : St) (a : Act) (w : World) : Prop where
 fr : FrR S ρ st.fr a.tmps.toList
 df : a.defers = []
 hp : Sat w0 (Zg (Ze S ρ w0 st.hp) F) w
 asm : ∀ e ∈ st.asm, (e.den S ρ).tP
end
section
variable {G : Type} (S : Sig G)
def Env.upd (ρ : Env G) (n : Nat) (u : U G) : Env G := fun i => if i = n then u else ρ i
def VC.den : VC -> Env G -> Prop
 | .tt, _ => True
 | .ff _, _ => False
 | .and a b, ρ => a.den ρ /\ b.den ρ
 | .imp e a, ρ => (e.den S ρ).tP -> a.den ρ
 | .need e a, ρ => (e.den S ρ).tP /\ a.den ρ
 | .all n .int a, ρ => ∀ x : Int, a.den (ρ.upd n (.int x))
 | .all n .bool a, ρ => ∀ x : Bool, a.den (ρ.upd n (.bool x))
 | .all n .ints a, ρ => ∀ x : List Int, a.den (ρ.upd n (.ints x))
 | .all n .bytes a, ρ => ∀ x : List UInt8, a.den (ρ.upd n (.bytes x))
 | .all n .rows a, ρ => ∀ x : List (List Int), a.den (ρ.upd n (.rows x))
 | .all n .amap a, ρ => ∀ x : List (Int × Int), a.den (ρ.upd n (.amap x))
 | .all n .g a, ρ => ∀ x : G, a.den (ρ.upd n (.g x))
end
/-! ### Equality and scope of values and chunks -/
def SC.bq : SC -> SC -> Bool
 | .int k a, .int k' b => bif Nat.beq (kn k) (kn k') then SX.bq a b else false
 | .bool a, .bool b => SX.bq a b
 | .ptr b o, .ptr b' o' => bif Nat.beq o o' then SX.bq b b' else false
 | .ep b o i s j, .ep b' o' i' s' j' => bif Nat.beq s s' then (bif Nat.beq j j' then (bif SX.bq b b' then (bif SX.bq o o' then SX.bq i i' else false) else false) else false) else false
 | .slice b o k z l c s, .slice b' o' k' z' l' c' s' => bif Nat.beq s s' then (bif SX.bq b b' then (bif SX.bq o o' then (bif SX.bq k k' then (bif SX.bq z z' then (bif SX.bq l l' then SX.bq c c' else false) else false) else false) else false) else false) else false
 | .str a, .str b => SX.bq a b
 | .map a, .map b => SX.bq a b
 | .fn f, .fn g => Nat.beq f g
 | .cap g x, .cap g' x' => bif SC.bq g g' then SC.bq x x' else false
 | .nilfn, .nilfn => true
 | .nilif, .nilif => true
 | .opq x i p, .opq x' i' p' => bif Nat.beq p p' then (bif SX.bq x x' then SX.bq i i' else false) else false
 | .ifc t v, .ifc t' v' => bif Nat.beq t t' then SC.bq v v' else false
 | _, _ => false
theorem Zb6 {a b : IntKind} (h : kn a = kn b) : a = b := by rw [<- ZjP a, <- ZjP b, h]
theorem SC.bq_eq : ∀ {a b : SC}, SC.bq a b = true -> a = b := by
 intro a
 induction a with
 | int k e => intro b h; cases b <;> simp [SC.bq, ZJr] at h; rw [Zb6 h.1, SX.bq_eq h.2]
 | bool e => intro b h; cases b <;> simp [SC.bq] at h; rw [SX.bq_eq h]
 | ptr b o => intro c h; cases c <;> simp [SC.bq, ZJr] at h; rw [h.1, SX.bq_eq h.2]
 | ep b o i s j => intro c h; cases c <;> simp [SC.bq, ZJr] at h; obtain ⟨h1, h2, h3, h4, h5⟩ := h; rw [h1, h2, SX.bq_eq h3, SX.bq_eq h4, SX.bq_eq h5]
 | slice b o k z l c s => intro d h; cases d <;> simp [SC.bq, ZJr] at h; obtain ⟨h1, h2, h3, h4, h5, h6, h7⟩ := h; rw [h1, SX.bq_eq h2, SX.bq_eq h3, SX.bq_eq h4, SX.bq_eq h5, SX.bq_eq h6, SX.bq_eq h7]
 | str e => intro b h; cases b <;> simp [SC.bq] at h; rw [SX.bq_eq h]
 | map e => intro b h; cases b <;> simp [SC.bq] at h; rw [SX.bq_eq h]
 | fn f => intro b h; cases b <;> simp [SC.bq] at h; rw [h]
 | cap g x ih ih' => intro b h; cases b <;> simp [SC.bq, ZJr] at h; rw [ih h.1, ih' h.2]
 | nilfn => intro b h; cases b <;> simp [SC.bq] at h; rfl
 | nilif => intro b h; cases b <;> simp [SC.bq] at h; rfl
 | opq x i p => intro b h; cases b <;> simp [SC.bq, ZJr] at h; rw [h.1, SX.bq_eq h.2.1, SX.bq_eq h.2.2]
 | ifc t v ih => intro b h; cases b <;> simp [SC.bq, ZJr] at h; rw [h.1, ih h.2]
def SCs.bq : List SC -> List SC -> Bool
 | [], [] => true
 | a :: l, b :: m => bif SC.bq a b then SCs.bq l m else false
 | _, _ => false
theorem SCs.bq_eq : ∀ {a b : List SC}, SCs.bq a b = true -> a = b
 | [], [], _ => rfl
 | a :: l, b :: m, h => by simp [SCs.bq, ZJr] at h; rw [SC.bq_eq h.1, SCs.bq_eq h.2]
 | [], _ :: _, h => by cases h
 | _ :: _, [], h => by cases h
def SV.bq : SV -> SV -> Bool
 | .one a, .one b => SC.bq a b
 | .agg a, .agg b => SCs.bq a b
 | _, _ => false
theorem SV.bq_eq {a b : SV} (h : SV.bq a b = true) : a = b := by
 cases a <;> cases b <;> simp [SV.bq] at h
 ·rw [SC.bq_eq h]
 ·rw [SCs.bq_eq h]
def SC.lt (n : Nat) : SC -> Bool
 | .int _ e | .bool e | .str e | .map e => e.lt n
 | .ptr b _ => b.lt n
 | .ep b o i _ _ => bif b.lt n then (bif o.lt n then i.lt n else false) else false
 | .slice b o k z l c _ => bif b.lt n then (bif o.lt n then (bif k.lt n then (bif z.lt n then (bif l.lt n then c.lt n else false) else false) else false) else false) else false
 | .fn _ | .nilfn | .nilif => true
 | .opq x i _ => bif x.lt n then i.lt n else false
 | .cap g x => bif g.lt n then x.lt n else false
 | .ifc _ v => v.lt n
def SCs.lt (n : Nat) : List SC -> Bool
 | [] => true
 | c :: l => bif c.lt n then SCs.lt n l else false
def SV.lt (n : Nat) : SV -> Bool
 | .junk => true
 | .one c => c.lt n
 | .agg cs => SCs.lt n cs
 | .tup vs => vs.all fun p => SCs.lt n p.2
def Ch.lt (n : Nat) : Ch -> Bool
 | .cel b _ cs => bif b.lt n then SCs.lt n cs else false
 | .arr _ b x c => bif b.lt n then (bif x.lt n then c.lt n else false) else false
 | .ro _ b o x => bif b.lt n then (bif o.lt n then x.lt n else false) else false
 | .rd _ _ b o x c => bif b.lt n then (bif o.lt n then (bif x.lt n then c.lt n else false) else false) else false
 | .map _ _ b m => bif b.lt n then m.lt n else false
 | .prd _ k x => bif k.lt n then x.lt n else false
 | .itr _ _ b m r l c => bif b.lt n then (bif m.lt n then (bif r.lt n then (bif l.lt n then c.lt n else false) else false) else false) else false
def St.ok (st : St) : Bool :=
 bif st.fr.all (SV.lt st.n) then (bif st.hp.all (Ch.lt st.n) then st.asm.all (SX.lt st.n) else false) else false
section
variable {G : Type} (S : Sig G)
theorem SC.den_ext {n : Nat} {ρ ρ' : Env G} (h : Ext n ρ ρ') : ∀ {e : SC}, e.lt n = true -> e.den S ρ' = e.den S ρ := by
 intro e
 induction e with
 | int k e => intro hl; simp only [SC.den]; rw [SX.den_ext S h hl]
 | bool e => intro hl; simp only [SC.den]; rw [SX.den_ext S h hl]
 | str e => intro hl; simp only [SC.den]; rw [SX.den_ext S h hl]
 | map e => intro hl; simp only [SC.den]; rw [SX.den_ext S h hl]
 | ptr b o => intro hl; simp only [SC.den]; rw [SX.den_ext S h hl]
 | ep b o i s j => intro hl; simp [SC.lt, ZJr] at hl; simp only [SC.den]; rw [SX.den_ext S h hl.1, SX.den_ext S h hl.2.1, SX.den_ext S h hl.2.2]
 | slice b o k z l c s => intro hl; simp [SC.lt, ZJr] at hl; obtain ⟨h1, h2, h3, h4, h5, h6⟩ := hl; simp only [SC.den]; rw [SX.den_ext S h h1, SX.den_ext S h h2, SX.den_ext S h h3, SX.den_ext S h h4, SX.den_ext S h h5, SX.den_ext S h h6]
 | fn f => intro _; rfl
 | nilfn => intro _; rfl
 | nilif => intro _; rfl
 | opq x i p => intro hl; simp [SC.lt, ZJr] at hl; simp only [SC.den]; rw [SX.den_ext S h hl.1, SX.den_ext S h hl.2]
 | cap g x ih ih' => intro hl; simp [SC.lt, ZJr] at hl; simp only [SC.den]; rw [ih hl.1, ih' hl.2]
 | ifc t v ih => intro hl; simp only [SC.den]; rw [ih hl]
theorem SCs.den_ext {n : Nat} {ρ ρ' : Env G} (h : Ext n ρ ρ') : ∀ {l : List SC}, SCs.lt n l = true -> l.map (SC.den S ρ') = l.map (SC.den S ρ)
 | [], _ => rfl
 | c :: l, hl => by simp [SCs.lt, ZJr] at hl; simp [SC.den_ext S h hl.1, SCs.den_ext h hl.2]
theorem SV.den_ext {n : Nat} {ρ ρ' : Env G} (h : Ext n ρ ρ') {e : SV} (hl : e.lt n = true) : e.den S ρ' = e.den S ρ := by
 cases e with
 | junk => rfl
 | one c => exact SC.den_ext S h hl
 | agg cs => simp only [SV.den]; rw [SCs.den_ext S h hl]
 | tup vs =>
  simp only [SV.den]
  congr 2
  apply List.map_congr_left
  intro p hp
  have hq : SCs.lt n p.2 = true := by unfold SV.lt at hl; exact List.all_eq_true.1 hl p hp
  obtain ⟨b, cs⟩ := p
  simp only at hq
  unfold Zdx
  split
  ·rename_i c heq; cases heq; simp [SCs.lt, ZJr] at hq; exact SC.den_ext S h hq
  ·rename_i b' cs' _ heq; cases heq; rw [SCs.den_ext S h hq]
theorem Ch.den_ext {n : Nat} {ρ ρ' : Env G} (h : Ext n ρ ρ') (w0 : World) {e : Ch} (hl : e.lt n = true) : e.den S ρ' w0 = e.den S ρ w0 := by
 cases e with
 | cel b o cs => simp [Ch.lt, ZJr] at hl; simp only [Ch.den]; rw [SX.den_ext S h hl.1, SCs.den_ext S h hl.2]
 | arr e b x c => simp [Ch.lt, ZJr] at hl; simp only [Ch.den]; rw [SX.den_ext S h hl.1, SX.den_ext S h hl.2.1, SX.den_ext S h hl.2.2]
 | ro e b o x => simp [Ch.lt, ZJr] at hl; simp only [Ch.den]; rw [SX.den_ext S h hl.1, SX.den_ext S h hl.2.1, SX.den_ext S h hl.2.2]
 | rd i e b o x c => simp [Ch.lt, ZJr] at hl; simp only [Ch.den]; rw [SX.den_ext S h hl.1, SX.den_ext S h hl.2.1, SX.den_ext S h hl.2.2.1, SX.den_ext S h hl.2.2.2]
 | map kk v b m => simp [Ch.lt, ZJr] at hl; simp only [Ch.den]; rw [SX.den_ext S h hl.1, SX.den_ext S h hl.2]
 | prd p k x => simp [Ch.lt, ZJr] at hl; simp only [Ch.den]; rw [SX.den_ext S h hl.1, SX.den_ext S h hl.2]
 | itr kk v b m r l c => simp [Ch.lt, ZJr] at hl; simp only [Ch.den]; rw [SX.den_ext S h hl.1, SX.den_ext S h hl.2.1, SX.den_ext S h hl.2.2.1, SX.den_ext S h hl.2.2.2.1, SX.den_ext S h hl.2.2.2.2]
theorem Zb8 {n : Nat} {ρ ρ' : Env G} (h : Ext n ρ ρ') (w0 : World) {l : List Ch} (hl : l.all (Ch.lt n) = true) : Ze S ρ' w0 l = Ze S ρ w0 l := by
 unfold Ze
 congr 1
 apply List.map_congr_left
 intro c hc
 exact Ch.den_ext S h w0 (List.all_eq_true.1 hl c hc)
theorem ZgD {n : Nat} {ρ ρ' : Env G} (h : Ext n ρ ρ') : ∀ {l : List SV} {m : List Value}, l.all (SV.lt n) = true -> FrR S ρ l m -> FrR S ρ' l m
 | [], [], _, _ => trivial
 | s :: l, v :: m, hl, hf => by
  simp at hl
  refine ⟨?_, ZgD h (by simpa using hl.2) hf.2⟩
  rcases hf.1 with hj | he
  ·exact .inl hj
  ·exact .inr (by rw [SV.den_ext S h hl.1]; exact he)
 | [], _ :: _, _, hf => hf.elim
 | _ :: _, [], _, hf => hf.elim
theorem Den.ext {ρ ρ' : Env G} {w0 : World} {F : Zd} {st : St} {a : Act} {w : World} (hd : Den S ρ w0 F st a w) (hok : st.ok = true) (h : Ext st.n ρ ρ') : Den S ρ' w0 F st a w := by
 simp [St.ok, ZJr] at hok
 refine ⟨ZgD S h (by simpa using hok.1) hd.fr, hd.df, ?_, fun e he => ?_⟩
 ·rw [Zb8 S h w0 (by simpa using hok.2.1)]; exact hd.hp
 ·rw [SX.den_ext S h (hok.2.2 e he)]; exact hd.asm e he
theorem Ext.upd {ρ : Env G} (n : Nat) (u : U G) : Ext n ρ (ρ.upd n u) := fun i hi => by unfold Env.upd; rw [if_neg (by omega)]
end
end
end Go.Eng
namespace Go.Eng
noncomputable section
def Zrd : Value -> Option SC
 | .bool b => some (.bool (.bool b))
 | .int k n => some (.int k (.int n))
 | .string s => some (.str (.byt s.data.toList))
 | .pointer none => some (.ptr (.int (-1)) 0)
 | .slice none 0 0 => some (.slice (.int (-1)) (.int 0) (.int 0) (.int 0) (.int 0) (.int 0) 1)
 | .map none => some (.map (.int (-1)))
 | .nilFunc => some .nilfn
 | .nilIface => some .nilif
 | _ => none
def Zl7 : List Value -> Option (List SC)
 | [] => some []
 | v :: l => match Zrd v, Zl7 l with | some c, some cs => some (c :: cs) | _, _ => none
def ZBU : Option SC -> SV | some c => .one c | none => .junk
def ZE9 (v : Value) : SV :=
 match v with
 | .agg cs => (match Zl7 cs.toList with | some l => .agg l | none => .junk)
 | .tuple vs => (bif Nat.beq vs.size 0 then .tup [] else .junk)
 | v => ZBU (Zrd v)
def Zdj (l : List SV) : Nat -> SV := @List.rec SV (fun _ => Nat -> SV) (fun _ => .junk) (fun s _ ih n => @Nat.rec (fun _ => SV) s (fun m _ => ih m) n) l
def ZrI (l : List SV) : Nat -> SV -> List SV := @List.rec SV (fun _ => Nat -> SV -> List SV) (fun _ _ => []) (fun s t ih n v => @Nat.rec (fun _ => List SV) (v :: t) (fun m _ => s :: ih m v) n) l
theorem ZrC (s : SV) (l : List SV) (n : Nat) : Zdj (s :: l) (n + 1) = Zdj l n := rfl
theorem ZuL (n : Nat) (v : SV) : ZrI [] n v = [] := rfl
def lk (fr : List SV) : Operand -> SV
 | .tmp t => Zdj fr t
 | .const v => ZE9 v
 | .global g => .one (.ptr (.int (g : Nat)) 0)
 | .func f => .one (.fn f)
def ZaP (e : SX) : List SX -> Bool
 | [] => false
 | x :: l => bif SX.bq x e then true else ZaP e l
def triv : SX -> Bool
 | .f2 47 (.int 0) x => (match x with | .f1 30 _ | .f1 31 _ | .f1 32 _ | .f1 33 _ | .f2 111 _ _ => true | _ => false)
 | _ => false
def need (asm : List SX) (e : SX) (ns : List SX) : List SX :=
 match e with
 | .bool true => ns
 | e => bif triv e then ns else bif ZaP e asm then ns else (bif ZaP e ns then ns else e :: ns)
def eLe (a b : SX) : SX := SX.mk2 47 a b
def eLt (a b : SX) : SX := SX.mk2 46 a b
def eEq (a b : SX) : SX := bif SX.bq a b then .bool true else SX.mk2 45 a b
def Zef (a : SX) : SX :=
 match a with
 | .f2 46 x y => SX.mk2 47 y x
 | .f2 47 x y => SX.mk2 46 y x
 | .f1 2 x => (match x with | .f2 45 a b => .f2 45 a b | x => .f1 2 (.f1 2 x))
 | x => SX.mk1 2 x
def Zmm (b : SX) : List Ch -> Bool
 | [] => false
 | .cel b' _ (_ :: _) :: l => bif SX.bq b' b then true else Zmm b l
 | .map _ _ b' _ :: l => bif SX.bq b' b then true else Zmm b l
 | _ :: l => Zmm b l
def ZbM (hp : List Ch) (asm : List SX) (b : SX) (ns : List SX) : List SX :=
 bif Zmm b hp then ns else need asm (eLe (.int 0) b) ns
def Zcq (b : SX) (lo n : Nat) : List Ch -> Option (List SC)
 | [] => none
 | .cel b' o cs :: l => bif SX.bq b' b then (bif Nat.ble o lo then (bif Nat.ble (lo + n) (o + cs.length) then some ((cs.drop (lo - o)).take n) else Zcq b lo n l) else Zcq b lo n l) else Zcq b lo n l
 | _ :: l => Zcq b lo n l
def ZU (b o : SX) (s : Nat) : List Ch -> Option (En × SX)
 | [] => none
 | .arr e b' x _ :: l => bif SX.bq b' b then (bif SX.bq o (.int 0) then (bif Nat.beq s e.stride then some (e, x) else ZU b o s l) else ZU b o s l) else ZU b o s l
 | .ro e b' o' x :: l => bif SX.bq b' b then (bif SX.bq o o' then (bif Nat.beq s e.stride then some (e, x) else ZU b o s l) else ZU b o s l) else ZU b o s l
 | .rd _ e b' o' x _ :: l => bif SX.bq b' b then (bif SX.bq o o' then (bif Nat.beq s e.stride then some (e, x) else ZU b o s l) else ZU b o s l) else ZU b o s l
 | _ :: l => ZU b o s l
def Zdh (b : SX) : List Ch -> Option (MK × MV × SX)
 | [] => none
 | .map kk v b' m :: l => bif SX.bq b' b then some (kk, v, m) else Zdh b l
 | _ :: l => Zdh b l
def MK.enc : MK -> SC -> Option SX
 | .int k, .int k' e => bif Nat.beq (kn k) (kn k') then some e else none
 | .str, .str e => some (SX.mk1 35 e)
 | _, _ => none
def MK.fits : MK -> TypeDesc -> Bool
 | .int _, .int _ => true
 | .str, .string => true
 | _, _ => false
def sbSC (e : SX) : List SC := [.str (SX.mk1 36 (SX.mk2 43 e (.int 2))), .bool (SX.mk1 2 (SX.mk2 45 (SX.mk2 44 e (.int 2)) (.int 0)))]
def ZBt (c : Bool × List SC) : SV := match c with | (false, [c]) => .one c | (_, cs) => .agg cs
def zSb (cs : Array Value) : Bool := match cs.toList with | [.string s, .bool false] => Nat.beq s.data.size 0 | _ => false
def mapZ (v : MV) (z : Value) (g : Int -> SX) : Option (Bool × List SC) :=
 match v, z with
 | .one (.int k), .int k' n => bif Nat.beq (kn k) (kn k') then some (false, [.int k (g n)]) else none
 | .one .bool, .bool false => some (false, [.bool (SX.mk1 2 (SX.mk2 45 (g 0) (.int 0)))])
 | .one .ptr, .pointer none => some (false, [.ptr (g (-1)) 0])
 | .one .map, .map none => some (false, [.map (g (-1))])
 | .sb, .agg cs => bif zSb cs then some (true, sbSC (g 0)) else none
 | _, _ => none
def En.lenX (e : En) (x : SX) : SX := SX.mk1 (30 + e.t) x
def Zy9 (x i : SX) (p f : Nat) (X I : SX) (q : Nat) : Bool :=
 bif Nat.beq f 112 then (bif SX.bq (Zdg x i (.int (.ofNat (p + 1)))) (.f3 112 X I (.int (.ofNat (q + 1)))) then
   (bif SX.bq (Zdg x i (.int (.ofNat (p + 2)))) (.f3 112 X I (.int (.ofNat (q + 2)))) then (bif SX.bq (Zdg x i (.int (.ofNat (p + 3)))) (.f3 112 X I (.int (.ofNat (q + 3)))) then
    SX.bq (Zdg x i (.int (.ofNat (p + 4)))) (.f3 112 X I (.int (.ofNat (q + 4)))) else false) else false) else false) else false
def ZCN (x i : SX) (p : Nat) : SC :=
 match Zdg x i (.int (.ofNat p)) with
 | .f3 f X I (.int (.ofNat q)) => bif Zy9 x i p f X I q then .opq X I q else .opq x i p
 | _ => .opq x i p
def Fd.sc (f : Fd) (x i : SX) (p : Nat) : SC :=
 let g (q : Nat) : SX := Zdg x i (.int (.ofNat q))
 match f with
 | .int k => .int k (g p)
 | .bool => .bool (SX.mk1 2 (SX.mk2 45 (g p) (.int 0)))
 | .ptr => .ptr (g p) 0
 | .slice s => .slice (g p) (.int 0) (.int 0) (.int 0) (g (p + 1)) (g (p + 2)) s
 | .map => .map (g p)
 | .slo _ => ZCN x i p
 | .str => .str (SX.mk1 36 (g p))
def ZrH : List Fd -> SX -> SX -> Nat -> List SC
 | [], _, _, _ => []
 | f :: fs, x, i, p => f.sc x i p :: ZrH fs x i (p + f.width)
def En.get (e : En) (x i : SX) : List SC :=
 match e with
 | .ints k => [.int k (ZI5 x i)]
 | .bytes => [.int .u8 (ZGx x i)]
 | .rows fs => ZrH fs x i 0
def Zir (agg : Bool) : List SC -> Option SV
 | [c] => some (bif agg then .agg [c] else .one c)
 | cs => bif agg then some (.agg cs) else none
def YV (d : TypeDesc) : Bool := match d with | .struct _ | .array _ _ => true | _ => false
section
variable (P : Program)
def Za9 (t : TypeId) : Option Nat := match P.info? t with | some i => some i.size | none => none
def Zjr (k : IntKind) : List SC -> Option (List SX)
 | [] => some []
 | .int k' e :: l => bif Nat.beq (kn k) (kn k') then (match Zjr k l with | some r => some (e :: r) | none => none) else none
 | _ :: _ => none
def ZbL (b : SX) (lo : Nat) : List Ch -> Option (IntKind × List SX)
 | [] => none
 | .cel b' o cs :: l => bif SX.bq b' b then (bif Nat.ble o lo then (match cs.drop (lo - o) with
   | .int k e :: r => (match Zjr k r with | some q => some (k, e :: q) | none => ZbL b lo l)
   | _ => ZbL b lo l) else ZbL b lo l) else ZbL b lo l
 | _ :: l => ZbL b lo l
def loadAt (hp : List Ch) (asm : List SX) (agg : Bool) (n : Nat) : SC -> Option (List SX × SV)
 | .ptr b o => bif Nat.ble 1 n then (match Zcq b o n hp with
  | some cs => (match Zir agg cs with | some v => some ([], v) | none => none)
  | none => none) else none
 | .ep b o i s j => match ZU b o s hp with
  | some (e, x) => (match Zir agg (((e.get x i).drop j).take n) with
   | some v => bif Nat.ble (j + n) s then some (need asm (eLe (.int 0) i) (need asm (eLt i (e.lenX x)) []), v) else none
   | none => none)
  | none => (match o with
   | .int (.ofNat lo) => bif (bif agg then false else (bif Nat.beq s 1 then Nat.beq j 0 else false)) then (match ZbL b lo hp with
    | some (k, es) => some (need asm (eLe (.int 0) i) (need asm (eLt i (.int (.ofNat es.length))) []), .one (.int k (ZI5 (Zun es) i)))
    | none => none) else none
   | _ => none)
 | _ => none
def ZzN (asm : List SX) (k : IntKind) (e : SX) : List SX := need asm (SX.mk1 (20 + kn k) e) []
def YO (asm : List SX) (k : IntKind) (e : SX) : List SX × SV :=
 bif k.signed then (ZzN asm k e, .one (.int k e)) else ([], .one (.int k (SX.mk1 (10 + kn k) e)))
def Zim : SX -> Bool | .f2 111 _ _ => true | .int (.ofNat n) => Nat.ble n 255 | _ => false
def Zvb (asm : List SX) (op : BinOp) (k : IntKind) (a b : SX) : Option (List SX × SV) :=
 match op with
 | .add => some (YO asm k (SX.mk2 40 a b))
 | .sub => some (YO asm k (SX.mk2 41 a b))
 | .mul => some (YO asm k (SX.mk2 42 a b))
 | .quo => let w := YO asm k (SX.mk2 43 a b); some (need asm (Zef (eEq b (.int 0))) w.1, w.2)
 | .rem => some (need asm (Zef (eEq b (.int 0))) [], .one (.int k (SX.mk2 44 a b)))
 | .and => some ([], .one (.int k (SX.mk2 (60 + kn k) a b)))
 | .or => some ([], .one (.int k (SX.mk2 (68 + kn k) a b)))
 | .xor => some ([], .one (.int k (SX.mk2 (76 + kn k) a b)))
 | .andNot => some ([], .one (.int k (SX.mk2 (84 + kn k) a b)))
 | .eql => some ([], .one (.bool (eEq a b)))
 | .neq => some ([], .one (.bool (Zef (eEq a b))))
 | .lss => some ([], .one (.bool (eLt a b)))
 | .leq => some ([], .one (.bool (eLe a b)))
 | .gtr => some ([], .one (.bool (eLt b a)))
 | .geq => some ([], .one (.bool (eLe b a)))
 | _ => none
def Zn : SX -> Bool | .int (.negSucc _) => true | _ => false
def ZfE (b : SX) (o : Nat) : List Ch -> Bool
 | [] => false
 | .cel b' o' cs :: l => bif SX.bq b' b then (bif Nat.ble o' o then (bif Nat.blt o (o' + cs.length) then true else ZfE b o l) else ZfE b o l) else ZfE b o l
 | _ :: l => ZfE b o l
def Zhe (hp : List Ch) (d : TypeDesc) (a b : SC) : Option SX :=
 match d, a, b with
 | .bool, .bool x, .bool y => some (match x, y with | .bool a, .bool b => .bool (bbq a b) | x, y => .f2 48 x y)
 | .pointer el, .ptr x o, .ptr y o' =>
  (bif Zn x then some (eLt y (.int 0)) else (bif Zn y then some (eLt x (.int 0)) else
   (match Za9 P el with
   | some (_ + 1) => bif ZfE x o hp then (bif ZfE y o' hp then (bif SX.bq x y then some (.bool (Nat.beq o o')) else some (.bool false)) else none) else none
   | _ => none)))
 | .pointer _, .ep .., .ptr y _ => bif Zn y then some (.bool false) else none
 | .slice _, .slice x _ _ _ _ _ _, .slice y _ _ _ _ _ _ => (bif Zn x then some (eLt y (.int 0)) else (bif Zn y then some (eLt x (.int 0)) else none))
 | .slice _, .opq x i p, .slice y _ _ _ _ _ _ => (bif Zn y then some (eLt (Zdg x i (.int (.ofNat p))) (.int 0)) else none)
 | .map _ _, .map x, .map y => (bif Zn x then some (eLt y (.int 0)) else (bif Zn y then some (eLt x (.int 0)) else none))
 | .func _ _ _, .nilfn, .nilfn => some (.bool true)
 | .func _ _ _, .fn _, .nilfn => some (.bool false)
 | .func _ _ _, .nilfn, .fn _ => some (.bool false)
 | _, _, _ => none
def ZGh (a e : SX) : SX := match a, e with | .bool true, e => e | .bool false, _ => .bool false | a, .bool true => a | a, e => .f2 49 a e
def Zel (x y : List SC) : List Field -> Option SX
 | [] => some (.bool true)
 | f :: fs => bif f.name == "_" then none else (match P.underlying f.type, x.drop f.offset, y.drop f.offset with
  | some (.int _), .int k a :: _, .int k' b :: _ => bif Nat.beq (kn k) (kn k') then (match Zel x y fs with | some e => some (ZGh (eEq a b) e) | none => none) else none
  | some .bool, .bool a :: _, .bool b :: _ => (match Zel x y fs with | some e => some (ZGh (SX.mk2 48 a b) e) | none => none)
  | some .string, .str a :: _, .str b :: _ => (match Zel x y fs with | some e => some (ZGh (SX.mk2 150 a b) e) | none => none)
  | _, _, _ => none)
def ZzG (t : TypeId) (x y : List SC) : Option SX :=
 match P.underlying t with
 | some (.struct fs) => bif (bif P.stoodInHeld t then true else P.eqGuardType P.depth t) then none else Zel P x y fs.toList
 | _ => none
def Zum (op : BinOp) (a b : SX) : Option SV :=
 match op with
 | .eql => some (.one (.bool (SX.mk2 150 a b)))
 | .neq => some (.one (.bool (SX.mk1 2 (SX.mk2 150 a b))))
 | .lss => some (.one (.bool (SX.mk2 151 a b)))
 | .gtr => some (.one (.bool (SX.mk1 2 (SX.mk2 50 (SX.mk2 151 a b) (SX.mk2 150 a b)))))
 | .leq => some (.one (.bool (SX.mk2 50 (SX.mk2 151 a b) (SX.mk2 150 a b))))
 | .geq => some (.one (.bool (SX.mk1 2 (SX.mk2 151 a b))))
 | _ => none
def Zi8 (hp : List Ch) (asm : List SX) (d : TypeDesc) (a b : SC) : Option (List SX × Bool) :=
 match d, a, b with
 | .pointer el, .ptr x o, .ptr y o' => (match Za9 P el with
  | some (_ + 1) => bif (bif Nat.beq o o' then ZaP (.f2 45 x y) asm else false) then some (need asm (.f2 45 x y) (ZbM hp asm x []), true) else
    bif ZaP (.f2 46 x (.int 0)) asm then some (need asm (.f2 46 x (.int 0)) (ZbM hp asm y []), false) else
    bif ZaP (.f2 46 y (.int 0)) asm then some (need asm (.f2 46 y (.int 0)) (ZbM hp asm x []), false) else none
  | _ => none)
 | _, _, _ => none
def Zsr (hp : List Ch) (asm : List SX) (op : BinOp) (t : TypeId) (a b : SV) : Option (List SX × SV) :=
 match op, a, b with
 | .shl, .one (.int k x), .one (.int _ y) => some (need asm (eLe (.int 0) y) [], .one (.int k (SX.mk2 (92 + kn k) x y)))
 | .shr, .one (.int k x), .one (.int _ y) => some (need asm (eLe (.int 0) y) [], .one (.int k (SX.mk2 (100 + kn k) x y)))
 | op, .one (.int k x), .one (.int k' y) => bif Nat.beq (kn k) (kn k') then Zvb asm op k x y else none
 | op, .one (.str x), .one (.str y) => (match Zum op x y with | some v => some ([], v) | none => none)
 | .eql, .one x, .one y => (match P.underlying t with
  | some d => (match Zhe P hp d x y with | some e => some ([], .one (.bool e)) | none => (match Zi8 P hp asm d x y with | some (ns, e) => some (ns, .one (.bool (.bool e))) | none => none))
  | none => none)
 | .neq, .one x, .one y => (match P.underlying t with
  | some d => (match Zhe P hp d x y with | some e => some ([], .one (.bool (Zef e))) | none => (match Zi8 P hp asm d x y with | some (ns, e) => some (ns, .one (.bool (.bool (!e)))) | none => none))
  | none => none)
 | .eql, .agg x, .agg y => (match ZzG P t x y with | some e => some ([], .one (.bool e)) | none => none)
 | .neq, .agg x, .agg y => (match ZzG P t x y with | some e => some ([], .one (.bool (Zef e))) | none => none)
 | _, _, _ => none
def Zav : List SC -> Nat -> List SC -> Option (List SC)
 | cs, 0, [] => some cs
 | cs, 0, p :: ps => (match cs with | _ :: cs => (match Zav cs 0 ps with | some r => some (p :: r) | none => none) | [] => none)
 | c :: cs, n + 1, ps => (match Zav cs n ps with | some r => some (c :: r) | none => none)
 | [], _ + 1, _ => none
def Zdr : SV -> Option (List SC)
 | .one c => some [c]
 | .agg cs => some cs
 | _ => none
def Zsx (place : Nat -> Option (Nat × Nat)) (L : Operand -> SV) : List SC -> List (Nat × Operand) -> Option (List SC)
 | cs, [] => some cs
 | cs, (i, x) :: rest => match place i, Zdr (L x) with
  | some (off, size), some ps => bif Nat.beq ps.length size then (match Zav cs off ps with | some cs' => Zsx place L cs' rest | none => none) else none
  | _, _ => none
def Zdt (fs : Array Field) (i : Nat) : Option (Nat × Nat) :=
 match fs[i]? with | some f => (match Za9 P f.type with | some n => some (f.offset, n) | none => none) | none => none
def ZbX (t : TypeId) : Option (List SC) :=
 match P.info? t with | some i => (match i.zero with | some z => Zl7 z.cells.toList | none => none) | none => none
def ZvK (L : Operand -> SV) (t : TypeId) (parts : Array (Nat × Operand)) : Option SV :=
 match P.underlying t, ZbX P t with
 | some (.struct fs), some z => (bif fs.all (fun f => (Za9 P f.type).isSome) then (match Zsx (Zdt P fs) L z parts.toList with | some cs => some (.agg cs) | none => none) else none)
 | some (.array _ e), some z => (match Za9 P e with
  | some s => (match Zsx (fun i => some (i * s, s)) L z parts.toList with | some cs => some (.agg cs) | none => none)
  | none => none)
 | _, _ => none
def ite0 (c z k : SX) : SX := bif SX.bq z k then k else SX.mk3 133 (SX.mk2 45 c (.int 0)) z k
def bnd (asm : List SX) (x : Option SX) (up : SX) (ns : List SX) : List SX :=
 match x with | some x => need asm (eLe (.int 0) x) (need asm (eLe x up) ns) | none => ns
def orE (x : Option SX) (d : SX) : SX := match x with | some x => x | none => d
def ZjX (asm : List SX) (b o k z l c : SX) (s : Nat) (lo hi mx : Option SX) : List SX × SV :=
 (need asm (eLe (.int 0) l) (need asm (eLe (.int 0) c) (need asm (eLe (.int 0) k) (bnd asm lo (orE hi l) (bnd asm hi (orE mx c) (bnd asm mx c (match hi with | some _ => [] | none => need asm (eLe l c) [])))))),
  .one (.slice b o (SX.mk2 40 k (orE lo (.int 0))) (ite0 c z k) (SX.mk2 41 (orE hi l) (orE lo (.int 0))) (SX.mk2 41 (orE mx c) (orE lo (.int 0))) s))
def ZB8 (lo : Option SX) (e : SX) : SX := match lo with | some l => SX.mkS2 117 e l | none => e
def Zdi : SV -> Option SX | .one (.int _ e) => some e | _ => none
def Ze6 (L : Operand -> SV) : Option Operand -> Option (Option SX)
 | none => some none
 | some x => (match Zdi (L x) with | some e => some (some e) | none => none)
def ZwU (x i : SX) : SX := ZGx x i
def Zth (hp : List Ch) (asm : List SX) : SV -> Option (List SX × SV)
 | .one (.slice b o k z l c s) => bif Zn b then some ([], .one (.str (.byt []))) else (match ZU b o 1 hp with
  | some (.bytes, x) => bif Nat.beq s 1 then some (need asm (eLe (.int 0) k) (need asm (eLe (.int 0) l) (need asm (eLe (SX.mk2 40 k l) (SX.mk1 31 x)) (need asm (eLe l c) []))),
    .one (.str (bif SX.bq k (.int 0) then (bif SX.bq l (SX.mk1 31 x) then x else .f2 114 x l) else .f2 114 (.f2 117 x k) l)))
   else none
  | _ => none)
 | _ => none
def qev (hp : List Ch) (asm : List SX) (L : Operand -> SV) (o : Op) : Option (List SX × SV) :=
 match o with
 | .move x => some ([], L x)
 | .assign x => some ([], L x)
 | .pick c a b => (match L c with
  | .one (.bool (.bool true)) => some ([], L a)
  | .one (.bool (.bool false)) => some ([], L b)
  | .one (.bool e) => (match L a, L b with
   | .one (.bool x), .one (.bool y) => some ([], .one (.bool (SX.mk3 134 e x y)))
   | _, _ => none)
  | _ => none)
 | .nilCheck x => (match L x with
  | .one (.ptr b o) => some (ZbM hp asm b [], .one (.ptr b o))
  | .one (.ep b o i s j) => some ([], .one (.ep b o i s j))
  | .one (.fn f) => some ([], .one (.fn f))
  | .one (.slice b o k z l c s) => some ([], .one (.slice b o k z l c s))
  | .one (.map b) => some ([], .one (.map b))
  | _ => none)
 | .binOp op t x y _ => Zsr P hp asm op t (L x) (L y)
 | .unOp op _ x => (match op, L x with
  | .not, .one (.bool e) => some ([], .one (.bool (Zef e)))
  | .neg, .one (.int k e) => some (YO asm k (SX.mk2 41 (.int 0) e))
  | .xor, .one (.int k e) => some ([], .one (.int k (SX.mk2 (76 + kn k) (.int (if k.signed then -1 else k.max)) e)))
  | _, _ => none)
 | .convert src dst x => (match P.underlying src, P.underlying dst, L x with
  | some _, some (.int k), .one (.int _ e) => some (bif Zim e then ([], .one (.int k (bif Nat.beq (kn k) 0 then SX.mk1 10 e else e))) else YO asm k e)
  | some _, some .string, .one (.str e) => some ([], .one (.str e))
  | some (.slice t), some .string, v => (match P.underlying t with | some (.int .u8) => Zth hp asm v | _ => none)
  | _, _, _ => none)
 | .fieldAddr s x f => (match P.underlying s, L x with
  | some (.struct fs), .one c => (match fs[f]? with
   | some fd => (match Za9 P fd.type with
    | some (_ + 1) => (match c with
     | .ptr b o => some (ZbM hp asm b [], .one (.ptr b (o + fd.offset)))
     | .ep b o i s j => some ([], .one (.ep b o i s (j + fd.offset)))
     | _ => none)
    | _ => none)
   | none => none)
  | _, _ => none)
 | .field t x f => (match P.underlying t, L x with
  | some (.struct fs), .agg cs => (match fs[f]? with
   | some fd => (match Za9 P fd.type, P.underlying fd.type with
    | some n, some d => bif Nat.ble (fd.offset + n) cs.length then (bif YV d then some ([], .agg ((cs.drop fd.offset).take n)) else
      (match (cs.drop fd.offset) with | c :: _ => some ([], .one c) | [] => none)) else none
    | _, _ => none)
   | none => none)
  | _, _ => none)
 | .indexAddr t x ix => (match P.underlying t, L x, Zdi (L ix) with
  | some (.slice e), .one (.slice b o k z l c s), some i => (match Za9 P e, ZU b o s hp with
   | some n, some (en, xs) => bif (bif Nat.ble 1 n then Nat.beq n s else false) then
     some (need asm (eLe (.int 0) i) (need asm (eLt i l) (need asm (eLe (.int 0) k) (need asm (eLt (SX.mk2 40 k i) (en.lenX xs)) (bif SX.bq z k then [] else need asm (eLt (.int 0) c) [])))),
      .one (.ep b o (SX.mk2 40 k i) s 0)) else none
   | _, _ => none)
  | some (.array n e), .one (.ptr b o), some (.int (.ofNat i)) => (match Za9 P e with
   | some s => bif Nat.blt i n then some (ZbM hp asm b [], .one (.ptr b (o + i * s))) else none
   | none => none)
  | some (.array n e), .one (.ptr b o), some i => (match Za9 P e with
   | some s => some (ZbM hp asm b (need asm (eLe (.int 0) i) (need asm (eLt i (.int (.ofNat n))) [])), .one (.ep b (.int (.ofNat o)) i s 0))
   | none => none)
  | some (.slice e), .one (.opq y j p), some i => (match Za9 P e with
   | some s => bif Nat.ble 1 s then some (need asm (eLe (.int 0) i) (need asm (eLt i (Zdg y j (.int (.ofNat (p + 3))))) (need asm (eLe (.int 0) (Zdg y j (.int (.ofNat p)))) (need asm (eLt (Zdg y j (.int (.ofNat (p + 2)))) (.int 0)) []))),
     .one (.ep (Zdg y j (.int (.ofNat p))) (Zdg y j (.int (.ofNat (p + 1)))) i s 0)) else none
   | none => none)
  | _, _, _ => none)
 | .index t x ix => (match P.underlying t, L x, Zdi (L ix) with
  | some .string, .one (.str e), some i => some (need asm (eLe (.int 0) i) (need asm (eLt i (SX.mk1 31 e)) []), .one (.int .u8 (ZwU e i)))
  | some (.array n e), .agg cs, some (.int (.ofNat i)) => (match Za9 P e, P.underlying e with
   | some s, some d => bif Nat.blt i n then (bif Nat.ble (i * s + s) cs.length then (bif YV d then some ([], .agg ((cs.drop (i * s)).take s)) else
     (match cs.drop (i * s) with | c :: _ => some ([], .one c) | [] => none)) else none) else none
   | _, _ => none)
  | _, _, _ => none)
 | .slice t x lo hi mx => (match P.underlying t, L x, Ze6 L lo, Ze6 L hi, Ze6 L mx with
  | some (.slice e), .one (.slice b o k z l c s), some lo, some hi, some mx => (match Za9 P e, (match mx, hi with | some _, none => false | _, _ => true) with
   | some n, true => bif Nat.beq n s then some (ZjX asm b o k z l c s lo hi mx) else none
   | _, _ => none)
  | some .string, .one (.str e), some lo, some hi, some none =>
   some (bnd asm lo (orE hi (SX.mk1 31 e)) (bnd asm hi (SX.mk1 31 e) []),
    .one (.str (SX.mkS2 114 (ZB8 lo e) (SX.mk2 41 (orE hi (SX.mk1 31 e)) (orE lo (.int 0))))))
  | _, _, _, _, _ => none)
 | .lookup t x ix ok => (match P.underlying t, L x, L ix with
  | some (.map kt et), .one (.map b), .one ic => (match Zdh b hp, P.underlying kt, (match P.info? et with | some i => i.zero | none => none) with
   | some (kk, v, m), some kd, some z => (match kk.fits kd, kk.enc ic with
    | true, some i =>
     (match mapZ v z (fun d => Zm9 d i m) with
     | some c => some ([], bif ok then .tup [c, (false, [.bool (ZgY i m)])] else ZBt c)
     | none => none)
    | _, _ => none)
   | _, _, _ => none)
  | _, _, _ => none)
 | .load t a => (match P.underlying t, Za9 P t, L a with
  | some d, some n, .one c => loadAt hp asm (YV d) (bif YV d then n else 1) c
  | _, _, _ => none)
 | .extract t ix => (match L t with
  | .tup vs => (match vs[ix]? with
   | some (false, [c]) => some ([], .one c)
   | some (true, cs) => some ([], .agg cs)
   | _ => none)
  | _ => none)
 | .makeInterface t x => (match P.underlying t, L x with
  | some (.interface _), _ => none
  | some _, .one c => some ([], .one (.ifc t c))
  | _, _ => none)
 | .makeFunc (.func f) first captured => bif Nat.beq first.size 0 then
   (let r := captured.toList.foldl (fun (acc : Option SC) x => match acc, L x with | some g, .one c => some (SC.cap g c) | _, _ => none) (some (.fn f))
   match r with | some g => some ([], .one g) | none => none) else none
 | .build t parts => (match ZvK P L t parts with | some v => some ([], v) | none => none)
 | .call c => (match c.callee, c.args.toList, c.argTypes.toList with
  | .builtin .len, [x], t :: _ => (match P.underlying t, L x with
   | some (.slice _), .one (.slice _ _ _ _ l _ _) => some (need asm (eLe (.int 0) l) [], .one (.int .i64 l))
   | some .string, .one (.str e) => some ([], .one (.int .i64 (SX.mk1 31 e)))
   | some (.map _ _), .one (.map b) => (match Zdh b hp with | some (_, _, m) => some ([], .one (.int .i64 (ZdX m))) | none => none)
   | some (.slice _), .one (.opq y j p) => some (need asm (eLe (.int 0) (Zdg y j (.int (.ofNat (p + 3))))) [], .one (.int .i64 (Zdg y j (.int (.ofNat (p + 3))))))
   | _, _ => none)
  | .builtin .cap, [x], t :: _ => (match P.underlying t, L x with
   | some (.slice _), .one (.slice _ _ _ _ _ c _) => some (need asm (eLe (.int 0) c) [], .one (.int .i64 c))
   | _, _ => none)
  | .builtin .max, [x, y], _ => (match L x, L y with
   | .one (.int k a), .one (.int k' b) => bif Nat.beq (kn k) (kn k') then some ([], .one (.int k (.f2 52 a b))) else none
   | _, _ => none)
  | .builtin .min, [x, y], _ => (match L x, L y with
   | .one (.int k a), .one (.int k' b) => bif Nat.beq (kn k) (kn k') then some ([], .one (.int k (.f2 51 a b))) else none
   | _, _ => none)
  | _, _, _ => none)
 | _ => none
end
def ZCU : Op -> Bool
 | .move _ | .assign _ | .pick .. | .nilCheck _ | .binOp .. | .unOp .. | .fieldAddr .. | .field .. | .indexAddr .. | .index .. | .slice .. | .lookup .. | .load .. | .extract .. | .makeInterface .. | .makeFunc .. | .build .. => true
 | .convert .. => true
 | .call { callee := .builtin .len, .. } | .call { callee := .builtin .cap, .. } | .call { callee := .builtin .max, .. } | .call { callee := .builtin .min, .. } => true
 | _ => false
end
end Go.Eng
namespace Go.Eng
noncomputable section
open Go.RowKit (Below)
section
variable {G : Type} (S : Sig G) (ρ : Env G) (w0 : World)
theorem Zaf {hp : List Ch} {c : Ch} (h : c ∈ hp) : ∃ H, ∀ F, Zg (Ze S ρ w0 hp) F = Zg (c.den S ρ w0) (Zg H F) := by
 obtain ⟨l, m, rfl⟩ := List.append_of_mem h
 refine ⟨big ((l ++ m).map (Ch.den S ρ w0)), fun F => ?_⟩
 unfold Ze
 rw [ZJD, ZJw, Zjz, Zc, ZJD]
theorem Zt {w0 w : World} {p : Prop} {A H : Zd} (h : Sat w0 (Zg (fun x => p /\ A x) H) w) : p /\ Sat w0 (Zg A H) w := by
 obtain ⟨x, ⟨a, b, d, rfl, ⟨hp, ha⟩, hb⟩, hi⟩ := h
 exact ⟨hp, _, ⟨a, b, d, rfl, ha, hb⟩, hi⟩
theorem ZqK {w0 w : World} {p : Prop} {A H : Zd} (hp : p) (h : Sat w0 (Zg A H) w) : Sat w0 (Zg (fun x => p /\ A x) H) w := by
 obtain ⟨x, ⟨a, b, d, rfl, ha, hb⟩, hi⟩ := h
 exact ⟨_, ⟨a, b, d, rfl, ⟨hp, ha⟩, hb⟩, hi⟩
theorem ZaB {w0 w : World} {α : Type} {A : α -> Zd} {H : Zd} (h : Sat w0 (Zg (fun x => ∃ i, A i x) H) w) : ∃ i, Sat w0 (Zg (A i) H) w := by
 obtain ⟨x, ⟨a, b, d, rfl, ⟨i, ha⟩, hb⟩, hi⟩ := h
 exact ⟨i, _, ⟨a, b, d, rfl, ha, hb⟩, hi⟩
theorem ZAC {w0 w : World} {p : Prop} {H : Zd} (h : Sat w0 (Zg (Zd.pure p) H) w) : p /\ Sat w0 H w := by
 obtain ⟨x, hx, hi⟩ := h
 rw [star_pure] at hx
 exact ⟨hx.1, x, hx.2, hi⟩
theorem Zd8 {b : SX} {lo n : Nat} : ∀ {hp : List Ch} {cs : List SC}, Zcq b lo n hp = some cs →
  ∃ o cs', Ch.cel b o cs' ∈ hp /\ o <= lo /\ lo + n <= o + cs'.length /\ cs = (cs'.drop (lo - o)).take n
 | [], cs, h => by cases h
 | c :: l, cs, h => by
  have ih := fun h => Zd8 (b := b) (lo := lo) (n := n) (hp := l) (cs := cs) h
  have lift : (∃ o cs', Ch.cel b o cs' ∈ l /\ o <= lo /\ lo + n <= o + cs'.length /\ cs = (cs'.drop (lo - o)).take n) →
   (∃ o cs', Ch.cel b o cs' ∈ c :: l /\ o <= lo /\ lo + n <= o + cs'.length /\ cs = (cs'.drop (lo - o)).take n) := fun ⟨o, cs', h1, h2⟩ => ⟨o, cs', ZJt _ h1, h2⟩
  cases c with
  | cel b' o cs' =>
   simp only [Zcq, ZJr] at h
   split at h
   ·rename_i hb
    split at h
    ·rename_i h1
     split at h
     ·rename_i h2
      cases h
      rw [<- SX.bq_eq hb]
      exact ⟨o, cs', ZJv, ZJA h1, ZJA h2, rfl⟩
     ·exact lift (ih h)
    ·exact lift (ih h)
   ·exact lift (ih h)
  | _ => simp only [Zcq] at h; exact lift (ih h)
theorem Zn9 : ∀ (l : List UInt8), lbq l l = true
 | [] => rfl
 | a :: l => by unfold lbq; rw [show Nat.beq a.toNat a.toNat = true by rw [Nat.beq_eq], Zn9 l]; rfl
theorem SX.bq_refl : ∀ (e : SX), SX.bq e e = true := by
 intro e
 induction e with
 | int n => exact Zfv n
 | bool b => cases b <;> rfl
 | byt l => exact Zn9 l
 | «at» s i => simp [SX.bq]
 | f1 f a ih => simp [SX.bq, ih]
 | f2 f a b ih ih' => simp [SX.bq, ih, ih']
 | f3 f a b c ih ih' ih'' => simp [SX.bq, ih, ih', ih'']
 | us s f a b c d ih ih' ih'' ih3 => simp [SX.bq, ih, ih', ih'', ih3]
theorem Zdc {b : SX} {o : Nat} : ∀ {hp : List Ch}, ZfE b o hp = true -> ∃ o' cs, Ch.cel b o' cs ∈ hp /\ o' <= o /\ o < o' + cs.length
 | [], h => nomatch h
 | c :: l, h => by
  have lift : ZfE b o l = true -> ∃ o' cs, Ch.cel b o' cs ∈ c :: l /\ o' <= o /\ o < o' + cs.length := fun h =>
   let ⟨o', cs, h1, h2⟩ := Zdc h; ⟨o', cs, ZJt _ h1, h2⟩
  cases c with
  | cel b' o' cs =>
   simp only [ZfE] at h
   cases h1 : SX.bq b' b
   ·rw [h1] at h; exact lift h
   cases h2 : Nat.ble o' o
   ·rw [h1, h2] at h; exact lift h
   cases h3 : Nat.blt o (o' + cs.length)
   ·rw [h1, h2, h3] at h; exact lift h
   have e := SX.bq_eq h1
   subst e
   rw [Nat.blt_eq] at h3
   exact ⟨o', cs, ZJv, ZJA h2, h3⟩
  | _ => exact lift h
theorem ZDF {hp : List Ch} {c1 c2 : Ch} (h1 : c1 ∈ hp) (h2 : c2 ∈ hp) (hne : c1 ≠ c2) : ∃ H, ∀ F, Zg (Ze S ρ w0 hp) F = Zg (c1.den S ρ w0) (Zg (c2.den S ρ w0) (Zg H F)) := by
 obtain ⟨l, m, rfl⟩ := List.append_of_mem h1
 have h2' : c2 ∈ l ++ m := by
  rcases List.mem_append.1 h2 with h | h
  ·exact List.mem_append.2 (.inl h)
  ·rcases List.mem_cons.1 h with h | h
   ·exact absurd h.symm hne
   ·exact List.mem_append.2 (.inr h)
 obtain ⟨H, hH⟩ := Zaf S ρ w0 h2'
 refine ⟨H, fun F => ?_⟩
 rw [<- hH F, <- Zc]
 congr 1
 unfold Ze
 rw [ZJD, ZJw, Zjz, ZJD]
theorem Zk3 {F : Zd} {w : World} {hp : List Ch} {b : SX} {o : Nat} {cs : List SC} (hm : Ch.cel b o cs ∈ hp) (hne : cs ≠ []) (hs : Sat w0 (Zg (Ze S ρ w0 hp) F) w) :
  0 <= (b.den S ρ).tI /\ ∃ c e, w.heap[(b.den S ρ).tI.toNat]? = some (.cells c e (0, 0)) := by
 obtain ⟨H, hH⟩ := Zaf S ρ w0 hm
 rw [hH] at hs
 obtain ⟨h1, h2⟩ := Zt hs
 refine ⟨h1.resolve_right hne, Sat.load_strict h2 (fun h => hne (List.map_eq_nil_iff.1 h))⟩
theorem ZxO {F : Zd} {w : World} {hp : List Ch} {b b' : SX} {o o' p p' : Nat} {cs cs' : List SC} (hm : Ch.cel b o cs ∈ hp) (hm' : Ch.cel b' o' cs' ∈ hp) (hne : Ch.cel b o cs ≠ Ch.cel b' o' cs') (hs : Sat w0 (Zg (Ze S ρ w0 hp) F) w)
  (h1 : o <= p) (h2 : p < o + cs.length) (h3 : o' <= p') (h4 : p' < o' + cs'.length) : (b.den S ρ).tI.toNat ≠ (b'.den S ρ).tI.toNat \/ p ≠ p' := by
 obtain ⟨H, hH⟩ := ZDF S ρ w0 hm hm' hne
 rw [hH] at hs
 obtain ⟨x, ⟨a, r, d, rfl, ⟨_, ha⟩, a2, r2, d2, rfl, ⟨_, ha2⟩, _⟩, _⟩ := hs
 apply Decidable.byContradiction
 intro hcon
 have hb : (b.den S ρ).tI.toNat = (b'.den S ρ).tI.toNat := Decidable.byContradiction fun h => hcon (.inl h)
 have hp : p = p' := Decidable.byContradiction fun h => hcon (.inr h)
 subst hp
 unfold row at ha ha2
 subst ha; subst ha2
 have e1 : Zbu (b.den S ρ).tI.toNat o (cs.map (SC.den S ρ)) true (b.den S ρ).tI.toNat p ≠ none := by
  unfold Zbu
  rw [if_pos ⟨rfl, h1⟩]
  have : p - o < (cs.map (SC.den S ρ)).length := by rw [ZJx]; omega
  rw [ZJq this]; simp
 have e2 : Zbu (b'.den S ρ).tI.toNat o' (cs'.map (SC.den S ρ)) true (b.den S ρ).tI.toNat p ≠ none := by
  unfold Zbu
  rw [if_pos ⟨hb, h3⟩]
  have : p - o' < (cs'.map (SC.den S ρ)).length := by rw [ZJx]; omega
  rw [ZJq this]; simp
 rcases d (b.den S ρ).tI.toNat p with e | e
 ·exact e1 e
 ·unfold Hl.un at e
  cases hq : Zbu (b'.den S ρ).tI.toNat o' (cs'.map (SC.den S ρ)) true (b.den S ρ).tI.toNat p with
  | none => exact e2 hq
  | some q => rw [hq] at e; cases e
theorem Zgj {k : IntKind} : ∀ {l : List SC} {es : List SX}, Zjr k l = some es -> es.length = l.length /\ ∀ (i : Nat) (c : SC), l[i]? = some c -> ∃ e, es[i]? = some e /\ c = SC.int k e
 | [], es, h => by cases h; exact ⟨rfl, fun i c h => by simp at h⟩
 | c :: l, es, h => by
  cases c <;> simp only [Zjr, reduceCtorEq] at h
  rename_i k' e
  cases hk : Nat.beq (kn k) (kn k')
  ·rw [hk] at h; cases h
  ·rw [hk] at h
   have := Zb6 (ZJo hk)
   subst this
   simp only [cond_true] at h
   split at h
   ·rename_i r hr
    cases h
    obtain ⟨h1, h2⟩ := Zgj hr
    refine ⟨by simp [h1], fun i c hc => ?_⟩
    cases i with
    | zero => simp at hc; exact ⟨e, by simp, hc.symm⟩
    | succ i => simpa using h2 i c (by simpa using hc)
   ·cases h
theorem Zd5 {b : SX} {lo : Nat} : ∀ {hp : List Ch} {k : IntKind} {es : List SX}, ZbL b lo hp = some (k, es) →
  ∃ o cs, Ch.cel b o cs ∈ hp /\ o <= lo /\ es.length = (cs.drop (lo - o)).length /\ ∀ (i : Nat) (c : SC), (cs.drop (lo - o))[i]? = some c -> ∃ e, es[i]? = some e /\ c = SC.int k e
 | [], _, _, h => nomatch h
 | c :: l, k, es, h => by
  have lift : ZbL b lo l = some (k, es) -> ∃ o cs, Ch.cel b o cs ∈ c :: l /\ o <= lo /\ es.length = (cs.drop (lo - o)).length /\ ∀ (i : Nat) (c : SC), (cs.drop (lo - o))[i]? = some c -> ∃ e, es[i]? = some e /\ c = SC.int k e := fun h =>
   let ⟨o, cs, h1, h2⟩ := Zd5 h; ⟨o, cs, ZJt _ h1, h2⟩
  cases c with
  | cel b' o cs =>
   simp only [ZbL] at h
   cases h1 : SX.bq b' b
   ·rw [h1] at h; exact lift h
   cases h2 : Nat.ble o lo
   ·rw [h1, h2] at h; exact lift h
   rw [h1, h2] at h
   simp only [cond_true] at h
   have hb := SX.bq_eq h1
   subst hb
   split at h
   ·rename_i k' e r hd
    split at h
    ·rename_i q hq
     cases h
     obtain ⟨g1, g2⟩ := Zgj hq
     refine ⟨o, cs, ZJv, ZJA h2, by rw [hd]; simp [g1], fun i c hc => ?_⟩
     rw [hd] at hc
     cases i with
     | zero => simp at hc; exact ⟨e, by simp, hc.symm⟩
     | succ i => simpa using g2 i c (by simpa using hc)
    ·exact lift h
   ·exact lift h
  | _ => exact lift h
theorem ZfX {F : Zd} {w : World} {hp : List Ch} {b : SX} {o : Nat} {cs : List SC} (hm : Ch.cel b o cs ∈ hp) (hs : Sat w0 (Zg (Ze S ρ w0 hp) F) w) :
  (cs ≠ [] -> 0 <= (b.den S ρ).tI) /\ ∀ i c, cs[i]? = some c -> w.cell? ⟨(b.den S ρ).tI.toNat, o + i, none⟩ = some (c.den S ρ) /\ w.frozen? ⟨(b.den S ρ).tI.toNat, o + i, none⟩ = false := by
 obtain ⟨H, hH⟩ := Zaf S ρ w0 hm
 rw [hH] at hs
 obtain ⟨h1, h2⟩ := Zt hs
 refine ⟨fun hne => h1.resolve_right hne, fun i c hc => ?_⟩
 have hlt : i < (cs.map (SC.den S ρ)).length := by
  rw [ZJx]
  exact (List.getElem?_eq_some_iff.1 hc).1
 have := h2.load hlt
 rw [List.getElem_map] at this
 rw [(List.getElem?_eq_some_iff.1 hc).2] at this
 exact this
theorem Zc4 {α : Type} (f : α -> List Value) (s : Nat) (hf : ∀ a, (f a).length = s) : ∀ (l : List α) (i j : Nat), j < s -> (l.flatMap f)[i * s + j]? = (l[i]?).bind fun a => (f a)[j]?
 | [], i, j, _ => by simp
 | a :: l, 0, j, hj => by
  simp [List.flatMap_cons, ZJF (show j < (f a).length by rw [hf]; exact hj)]
 | a :: l, i + 1, j, hj => by
  rw [List.flatMap_cons, ZJG (by rw [hf, Nat.succ_mul]; omega), hf, show (i + 1) * s + j - s = i * s + j by rw [Nat.succ_mul]; omega, Zc4 f s hf l i j hj]
  simp
theorem Zbc {α : Type} (f : α -> List Value) (s : Nat) (hf : ∀ a, (f a).length = s) : ∀ (l : List α), (l.flatMap f).length = l.length * s
 | [] => by simp
 | a :: l => by rw [List.flatMap_cons, ZJs, hf, Zbc f s hf l, ZJH, Nat.succ_mul, Nat.add_comm]
theorem En.vals_length (e : En) (u : U G) : (e.vals u).length = e.len u * e.stride := by
 cases e with
 | ints k => simp [En.vals, En.len, En.stride]
 | bytes => simp [En.vals, En.len, En.stride]
 | rows fs => exact Zbc (Zs fs) fs.length (YC fs) _
theorem En.lenX_den (e : En) (x : SX) : ((e.lenX x).den S ρ) = .int (e.len (x.den S ρ)) := by
 unfold En.lenX
 rw [SX.mk1_den]
 cases e <;> rfl
theorem Zpf {a b : List Int} (h0 : a.getD 0 0 = b.getD 0 0) (h1 : a.getD 1 0 = b.getD 1 0) (h2 : a.getD 2 0 = b.getD 2 0) (h3 : a.getD 3 0 = b.getD 3 0) (h4 : a.getD 4 0 = b.getD 4 0) : opqV a = opqV b := by
 unfold opqV; rw [h0, h1, h2, h3, h4]
theorem Zbq (X I : SX) (k : Nat) : ((SX.f3 112 X I (.int (.ofNat k))).den S ρ).tI = (((X.den S ρ).tR.getD (I.den S ρ).tI.toNat []).getD k 0) := rfl
theorem ZmA {x i : SX} {p f : Nat} {X I : SX} {q : Nat} (hc : Zy9 x i p f X I q = true) : f = 112 /\ Zdg x i (.int (.ofNat (p + 1))) = .f3 112 X I (.int (.ofNat (q + 1))) /\ Zdg x i (.int (.ofNat (p + 2))) = .f3 112 X I (.int (.ofNat (q + 2))) ∧
  Zdg x i (.int (.ofNat (p + 3))) = .f3 112 X I (.int (.ofNat (q + 3))) /\ Zdg x i (.int (.ofNat (p + 4))) = .f3 112 X I (.int (.ofNat (q + 4))) := by
 unfold Zy9 at hc
 rw [ZJr] at hc
 split at hc
 ·rename_i hf
  rw [ZJr] at hc
  split at hc
  ·rename_i h1
   rw [ZJr] at hc
   split at hc
   ·rename_i h2
    rw [ZJr] at hc
    split at hc
    ·rename_i h3
     exact ⟨ZJo hf, SX.bq_eq h1, SX.bq_eq h2, SX.bq_eq h3, SX.bq_eq hc⟩
    ·exact absurd hc (by decide)
   ·exact absurd hc (by decide)
  ·exact absurd hc (by decide)
 ·exact absurd hc (by decide)
theorem ZwN (x i : SX) (p : Nat) : (ZCN x i p).den S ρ = opqV (((x.den S ρ).tR.getD (i.den S ρ).tI.toNat []).drop p) := by
 have g : ∀ q, ((Zdg x i (.int (.ofNat (p + q)))).den S ρ).tI = (((x.den S ρ).tR.getD (i.den S ρ).tI.toNat []).drop p).getD q 0 := fun q => by
  rw [ZbP]
  have e : (SX.den S ρ (.int (.ofNat (p + q)))).tI.toNat = p + q := rfl
  rw [e]; simp [ZJn]
 have g0 := g 0
 rw [Nat.add_zero] at g0
 unfold ZCN
 split
 ·rename_i f X I q h0
  rw [h0] at g0
  cases hc : Zy9 x i p f X I q
  ·rfl
  ·obtain ⟨rfl, h1, h2, h3, h4⟩ := ZmA hc
   have g1 := g 1
   have g2 := g 2
   have g3 := g 3
   have g4 := g 4
   rw [h1, Zbq] at g1
   rw [h2, Zbq] at g2
   rw [h3, Zbq] at g3
   rw [h4, Zbq] at g4
   rw [Zbq] at g0
   have d : ∀ (l : List Int) (a b : Nat), (l.drop a).getD b 0 = l.getD (a + b) 0 := fun l a b => by simp [ZJn]
   show opqV _ = _
   refine Zpf ?_ ?_ ?_ ?_ ?_
   ·rw [<- g0, d]; rfl
   ·rw [<- g1, d]
   ·rw [<- g2, d]
   ·rw [<- g3, d]
   ·rw [<- g4, d]
 ·rfl
theorem Fd.sc_den (f : Fd) (x i : SX) (p : Nat) :
  (f.sc x i p).den S ρ = f.val (((x.den S ρ).tR.getD (i.den S ρ).tI.toNat []).drop p) := by
 have g : ∀ q, ((Zdg x i (.int (.ofNat (p + q)))).den S ρ).tI = (((x.den S ρ).tR.getD (i.den S ρ).tI.toNat []).drop p).getD q 0 := fun q => by
  rw [ZbP]
  have e : (SX.den S ρ (.int (.ofNat (p + q)))).tI.toNat = p + q := rfl
  rw [e]; simp [ZJn]
 have g0 := g 0
 rw [Nat.add_zero] at g0
 cases f with
 | int k => simp only [Fd.sc, SC.den, Fd.val]; rw [g0]
 | bool =>
  simp only [Fd.sc, SC.den, Fd.val]
  rw [SX.mk1_den]
  simp only [SX.den, ap1]
  rw [SX.mk2_den]
  simp only [SX.den, ap2, U.tQi, U.tIi]
  rw [g0]; rfl
 | ptr => simp only [Fd.sc, SC.den, Fd.val]; rw [g0]
 | slice s => simp only [Fd.sc, SC.den, Fd.val]; rw [g0, g 1, g 2]; simp [SX.den]
 | map => simp only [Fd.sc, SC.den, Fd.val]; rw [g0]
 | slo s => exact ZwN S ρ x i p
 | str =>
  simp only [Fd.sc, SC.den, Fd.val]
  rw [SX.mk1_den]
  simp only [SX.den, ap1, U.tBi]
  rw [g0]
theorem ZlA : ∀ (fs : List Fd) (x i : SX) (p : Nat), (ZrH fs x i p).map (SC.den S ρ) = Zs fs (((x.den S ρ).tR.getD (i.den S ρ).tI.toNat []).drop p)
 | [], _, _, _ => rfl
 | f :: fs, x, i, p => by
  simp only [ZrH, ZJw, Zs]
  rw [Fd.sc_den, ZlA fs x i (p + f.width), List.drop_drop]
theorem En.get_den (e : En) (x i : SX) (hi : (i.den S ρ).tI.toNat < e.len (x.den S ρ)) (j : Nat) (hj : j < e.stride) :
  ((e.get x i).map (SC.den S ρ))[j]? = (e.vals (x.den S ρ))[(i.den S ρ).tI.toNat * e.stride + j]? := by
 cases e with
 | ints k =>
  simp only [En.stride] at hj
  have : j = 0 := by omega
  subst this
  simp only [En.len] at hi
  simp only [En.get, En.vals, En.stride, Nat.mul_one, Nat.add_zero, ZJw, List.map_nil, List.getElem?_cons_zero, SC.den]
  rw [ZjB, ZJj, ZJq hi]
  simp [ZJn, ZJq hi]
 | bytes =>
  simp only [En.stride] at hj
  have : j = 0 := by omega
  subst this
  simp only [En.len] at hi
  simp only [En.get, En.vals, En.stride, Nat.mul_one, Nat.add_zero, ZJw, List.map_nil, List.getElem?_cons_zero, SC.den]
  rw [ZiK]
  simp only [SX.den, ap2]
  rw [ZJj, ZJq hi]
  simp [ZJn, ZJq hi]
 | rows fs =>
  simp only [En.stride] at hj
  simp only [En.len] at hi
  simp only [En.get, En.vals, En.stride]
  rw [ZlA, Zc4 (Zs fs) fs.length (YC fs) _ _ _ hj, ZJq hi]
  simp [ZJn, ZJq hi]
theorem En.get_length (e : En) (x i : SX) : (e.get x i).length = e.stride := by
 cases e with
 | ints k => rfl
 | bytes => rfl
 | rows fs =>
  have h : ∀ (fs : List Fd) p, (ZrH fs x i p).length = fs.length := by
   intro fs; induction fs with
   | nil => intro p; rfl
   | cons f fs ih => intro p; simp [ZrH, ih]
  exact h fs 0
theorem Zd0 {b o : SX} {s : Nat} : ∀ {hp : List Ch} {e : En} {x : SX}, ZU b o s hp = some (e, x) →
  e.stride = s /\ ((∃ c, Ch.arr e b x c ∈ hp /\ o = .int 0) \/ Ch.ro e b o x ∈ hp \/ ∃ j c, Ch.rd j e b o x c ∈ hp)
 | [], e, x, h => by cases h
 | c :: l, e, x, h => by
  have ih := fun h => Zd0 (b := b) (o := o) (s := s) (hp := l) (e := e) (x := x) h
  have lift : (e.stride = s /\ ((∃ c, Ch.arr e b x c ∈ l /\ o = .int 0) \/ Ch.ro e b o x ∈ l \/ ∃ j c, Ch.rd j e b o x c ∈ l)) →
   (e.stride = s /\ ((∃ c', Ch.arr e b x c' ∈ c :: l /\ o = .int 0) \/ Ch.ro e b o x ∈ c :: l \/ ∃ j c', Ch.rd j e b o x c' ∈ c :: l)) :=
   fun ⟨h0, h1⟩ => ⟨h0, h1.imp (fun ⟨c, h2, h3⟩ => ⟨c, ZJt _ h2, h3⟩) (fun h => h.imp (ZJt _) (fun ⟨j, c, h2⟩ => ⟨j, c, ZJt _ h2⟩))⟩
  cases c with
  | arr e' b' x' c' =>
   simp only [ZU, ZJr] at h
   split at h
   ·rename_i hb
    split at h
    ·rename_i h1
     split at h
     ·rename_i h2
      cases h
      rw [<- SX.bq_eq hb]
      exact ⟨(ZJo h2).symm, .inl ⟨c', ZJv, SX.bq_eq h1⟩⟩
     ·exact lift (ih h)
    ·exact lift (ih h)
   ·exact lift (ih h)
  | ro e' b' o' x' =>
   simp only [ZU, ZJr] at h
   split at h
   ·rename_i hb
    split at h
    ·rename_i h1
     split at h
     ·rename_i h2
      cases h
      rw [<- SX.bq_eq hb, SX.bq_eq h1]
      exact ⟨(ZJo h2).symm, .inr (.inl ZJv)⟩
     ·exact lift (ih h)
    ·exact lift (ih h)
   ·exact lift (ih h)
  | rd j' e' b' o' x' c' =>
   simp only [ZU, ZJr] at h
   split at h
   ·rename_i hb
    split at h
    ·rename_i h1
     split at h
     ·rename_i h2
      cases h
      rw [<- SX.bq_eq hb, SX.bq_eq h1]
      exact ⟨(ZJo h2).symm, .inr (.inr ⟨j', c', ZJv⟩)⟩
     ·exact lift (ih h)
    ·exact lift (ih h)
   ·exact lift (ih h)
  | _ => simp only [ZU] at h; exact lift (ih h)
theorem Ze9 {w : World} {H : Zd} {e : En} {b x c : U G} (hs : Sat w0 (Zg (ZO S e b x c) H) w) :
  (e.vals x ≠ [] -> 0 <= b.tI) /\ ∀ i v, (e.vals x)[i]? = some v -> w.cell? ⟨b.tI.toNat, i, none⟩ = some v := by
 obtain ⟨spare, hs⟩ := ZaB hs
 obtain ⟨e1, hs⟩ := Zt hs
 obtain ⟨e2, hs⟩ := Zt hs
 obtain ⟨e3, hs⟩ := Zt hs
 refine ⟨fun hne => e3.resolve_right fun hc => hne ?_, fun i v hv => ?_⟩
 ·rw [hc] at e1; simp at e1; exact e1.1
 ·have hlt : i < (e.vals x ++ spare).length := by
   have := (List.getElem?_eq_some_iff.1 hv).1
   simp; omega
  have := (hs.load hlt).1
  rw [Nat.zero_add] at this
  rw [this, List.getElem_append_left (List.getElem?_eq_some_iff.1 hv).1, (List.getElem?_eq_some_iff.1 hv).2]
theorem ZfT {w : World} {H : Zd} {e : En} {b o x : U G} (hs : Sat w0 (Zg (Zq4 S w0 e b o x) H) w) :
  (e.vals x ≠ [] -> 0 <= b.tI) /\ ∀ i v, (e.vals x)[i]? = some v -> w.cell? ⟨b.tI.toNat, o.tI.toNat + i, none⟩ = some v := by
 obtain ⟨hp1, hs⟩ := ZAC hs
 obtain ⟨hp0, hp⟩ := hp1
 refine ⟨fun hne => hp0.resolve_right hne, fun i v hv => ?_⟩
 have := hp i v hv
 rw [hs.below.cell this.1]; exact this.2
theorem Zcx {F : Zd} {w : World} {hp : List Ch} {b o x : SX} {s : Nat} {e : En} (hf : ZU b o s hp = some (e, x)) (hs : Sat w0 (Zg (Ze S ρ w0 hp) F) w) :
  e.stride = s /\ (e.vals (x.den S ρ) ≠ [] -> 0 <= (b.den S ρ).tI) /\ ∀ i v, (e.vals (x.den S ρ))[i]? = some v -> w.cell? ⟨(b.den S ρ).tI.toNat, (o.den S ρ).tI.toNat + i, none⟩ = some v := by
 obtain ⟨h0, h1⟩ := Zd0 hf
 refine ⟨h0, ?_⟩
 rcases h1 with ⟨c, hm, rfl⟩ | hm | ⟨j, c, hm⟩
 ·obtain ⟨H, hH⟩ := Zaf S ρ w0 hm
  rw [hH] at hs
  obtain ⟨h1, h2⟩ := Ze9 S w0 hs
  refine ⟨h1, fun i v hv => ?_⟩
  have := h2 i v hv
  rw [show (SX.den S ρ (.int 0)).tI.toNat = 0 from rfl, Nat.zero_add]; exact this
 ·obtain ⟨H, hH⟩ := Zaf S ρ w0 hm
  rw [hH] at hs
  exact ZfT S w0 hs
 ·obtain ⟨H, hH⟩ := Zaf S ρ w0 hm
  rw [hH] at hs
  simp only [Ch.den] at hs
  cases hc : S.ch j
  ·rw [hc] at hs
   obtain ⟨ho, hs⟩ := Zt hs
   obtain ⟨h1, h2⟩ := Ze9 S w0 hs
   refine ⟨h1, fun i v hv => ?_⟩
   rw [ho]; have := h2 i v hv; simpa using this
  ·rw [hc] at hs
   exact ZfT S w0 hs
theorem Zbi {e : SX} : ∀ {l : List SX}, ZaP e l = true -> e ∈ l
 | [], h => by cases h
 | x :: l, h => by
  simp only [ZaP, ZJr] at h
  split at h
  ·rename_i hb; rw [SX.bq_eq hb]; exact ZJv
  ·exact ZJt _ (Zbi h)
theorem Zrq {e : SX} (h : triv e = true) : (e.den S ρ).tP := by
 unfold triv at h
 split at h
 ·split at h <;> first | (cases h; done) | (simp only [SX.den, ap2, ap1, U.tPi, U.tIi]; simp)
 ·cases h
theorem Za {asm ns : List SX} {e : SX} (ha : ∀ x ∈ asm, (x.den S ρ).tP) (h : ∀ x ∈ need asm e ns, (x.den S ρ).tP) : (e.den S ρ).tP /\ ∀ x ∈ ns, (x.den S ρ).tP := by
 unfold need at h
 split at h
 ·exact ⟨rfl, h⟩
 ·cases ht : triv e
  case true => rw [ht] at h; exact ⟨Zrq S ρ ht, h⟩
  rw [ht] at h
  cases h1 : ZaP e asm
  ·rw [h1] at h
   cases h2 : ZaP e ns
   ·rw [h2] at h; exact ⟨h e ZJv, fun x hx => h x (ZJt _ hx)⟩
   ·rw [h2] at h; exact ⟨h e (Zbi h2), h⟩
  ·rw [h1] at h; exact ⟨ha e (Zbi h1), h⟩
theorem eLe_den (a b : SX) : ((eLe a b).den S ρ).tP ↔ (a.den S ρ).tI <= (b.den S ρ).tI := by
 unfold eLe; rw [SX.mk2_den]; simp [SX.den, ap2, U.tP]
theorem Yo (a b : SX) : ((eLt a b).den S ρ).tP ↔ (a.den S ρ).tI < (b.den S ρ).tI := by
 unfold eLt; rw [SX.mk2_den]; simp [SX.den, ap2, U.tP]
theorem Zfw (a b : SX) : ((eLe a b).den S ρ) = .bool (decide ((a.den S ρ).tI <= (b.den S ρ).tI)) := by
 unfold eLe; rw [SX.mk2_den]; simp [SX.den, ap2]
theorem Y5 (a b : SX) : ((eLt a b).den S ρ) = .bool (decide ((a.den S ρ).tI < (b.den S ρ).tI)) := by
 unfold eLt; rw [SX.mk2_den]; simp [SX.den, ap2]
theorem Za1 (a b : SX) : ((eEq a b).den S ρ) = .bool ((a.den S ρ).tI == (b.den S ρ).tI) := by
 unfold eEq
 cases h : SX.bq a b
 ·simp only [cond_false]; rw [SX.mk2_den]; simp [SX.den, ap2]
 ·rw [SX.bq_eq h]; simp [SX.den]
theorem Zl3 (a : SX) : ∃ b, (Zef a).den S ρ = .bool b /\ b = !((a.den S ρ).toBool) := by
 unfold Zef
 split
 ·rename_i x y
  refine ⟨_, by rw [SX.mk2_den]; rfl, ?_⟩
  simp only [SX.den, ap2, U.toBool]
  rw [Bool.eq_iff_iff]; simp
 ·rename_i x y
  refine ⟨_, by rw [SX.mk2_den]; rfl, ?_⟩
  simp only [SX.den, ap2, U.toBool]
  rw [Bool.eq_iff_iff]; simp
 ·split
  ·exact ⟨_, rfl, by simp [SX.den, ap1, ap2, U.toBool]⟩
  ·exact ⟨_, rfl, by simp [SX.den, ap1, U.toBool]⟩
 ·exact ⟨_, by rw [SX.mk1_den]; rfl, rfl⟩
theorem ZbG (a : SX) : ((Zef a).den S ρ).toBool = !((a.den S ρ).toBool) := by
 obtain ⟨b, h1, h2⟩ := Zl3 S ρ a; rw [h1]; exact h2
theorem ZaU (a : SX) : ((Zef a).den S ρ).tP ↔ (a.den S ρ).toBool = false := by
 obtain ⟨b, h1, h2⟩ := Zl3 S ρ a; rw [h1]; simp [U.tP, h2]
theorem Zhw {F : Zd} {w : World} {b : SX} : ∀ {hp : List Ch}, Zmm b hp = true -> Sat w0 (Zg (Ze S ρ w0 hp) F) w -> 0 <= (b.den S ρ).tI := by
 intro hp h hs
 have key : ∀ (l : List Ch), Zmm b l = true -> (∃ o c cs, Ch.cel b o (c :: cs) ∈ l) \/ ∃ kk v m, Ch.map kk v b m ∈ l := by
  intro l
  induction l with
  | nil => intro h; cases h
  | cons c l ih =>
   intro h
   have lift : ((∃ o c cs, Ch.cel b o (c :: cs) ∈ l) \/ ∃ kk v m, Ch.map kk v b m ∈ l) -> (∃ o c' cs, Ch.cel b o (c' :: cs) ∈ c :: l) \/ ∃ kk v m, Ch.map kk v b m ∈ c :: l :=
    fun h => h.imp (fun ⟨o, c', cs, hm⟩ => ⟨o, c', cs, ZJt _ hm⟩) (fun ⟨kk, v, m, hm⟩ => ⟨kk, v, m, ZJt _ hm⟩)
   cases c with
   | cel b' o cs =>
    cases cs with
    | nil => exact lift (ih (by simpa [Zmm] using h))
    | cons c cs =>
     simp only [Zmm, ZJr] at h
     split at h
     ·rename_i hb; rw [<- SX.bq_eq hb]; exact .inl ⟨o, c, cs, ZJv⟩
     ·exact lift (ih h)
   | map kk v b' m =>
    simp only [Zmm, ZJr] at h
    split at h
    ·rename_i hb; rw [<- SX.bq_eq hb]; exact .inr ⟨kk, v, m, ZJv⟩
    ·exact lift (ih h)
   | _ => exact lift (ih (by simpa [Zmm] using h))
 rcases key hp h with ⟨o, c, cs, hm⟩ | ⟨kk, v, m, hm⟩
 ·exact (ZfX S ρ w0 hm hs).1 (by simp)
 ·obtain ⟨H, hH⟩ := Zaf S ρ w0 hm
  rw [hH] at hs
  exact (Zt hs).1
theorem Z2 {F : Zd} {w : World} {b : SX} {hp : List Ch} {asm ns : List SX} (ha : ∀ x ∈ asm, (x.den S ρ).tP) (hs : Sat w0 (Zg (Ze S ρ w0 hp) F) w)
  (h : ∀ x ∈ ZbM hp asm b ns, (x.den S ρ).tP) : 0 <= (b.den S ρ).tI /\ ∀ x ∈ ns, (x.den S ρ).tP := by
 unfold ZbM at h
 cases hh : Zmm b hp
 ·rw [hh] at h
  obtain ⟨h1, h2⟩ := Za S ρ ha h
  exact ⟨(eLe_den S ρ _ _).1 h1, h2⟩
 ·rw [hh] at h; exact ⟨Zhw S ρ w0 hh hs, h⟩
end
end
end Go.Eng
namespace Go.Eng
noncomputable section
open Go.RowKit (Below)
section
variable {P : Program}
theorem ZH {s : Sem Value} {v : Value} {w w' : World} (h : s.run P w = .ok v w') : (do pure (Next.value (<- s)) : Sem Next).run P w = .ok (.value v) w' := by
 have : (do pure (Next.value (<- s)) : Sem Next) = s.bind (fun v => Sem.pure (Next.value v)) := rfl
 rw [this, Sem.run_bind', h]; rfl
theorem YW {t : TypeId} {n : Nat} (h : Za9 P t = some n) : ∃ i, P.info? t = some i /\ i.size = n := by
 unfold Za9 at h
 split at h
 ·rename_i i hi; cases h; exact ⟨i, hi, rfl⟩
 ·cases h
theorem Zm {t : TypeId} {n : Nat} (h : Za9 P t = some n) (w : World) : (sizeOf t).run P w = .ok n w := by
 obtain ⟨i, hi, rfl⟩ := YW h
 simp [sizeOf, typeInfo, hi]
theorem Zez {t : TypeId} {d : TypeDesc} (h : P.underlying t = some d) (w : World) : (isAgg t).run P w = .ok (YV d) w := by
 simp only [isAgg, go_sem, run_underlying h]
 cases d <;> simp [YV, run_underlying h]
theorem Y4 (a : Addr) (vs : List Value) (w : World) (h : ∀ j v, vs[j]? = some v -> w.cell? (a.add j) = some v) : (loadCells a vs.length).run P w = .ok vs.toArray w := by
 have key : ∀ (n i : Nat) (acc : Array Value), i + n = vs.length -> (loadCellsFrom a i n acc).run P w = .ok (acc ++ (vs.drop i).toArray) w := by
  intro n
  induction n with
  | zero => intro i acc h'; simp [loadCellsFrom, List.drop_eq_nil_of_le (show vs.length <= i by omega)]
  | succ n ih =>
   intro i acc h'
   have hlt : i < vs.length := by omega
   have hc := h i vs[i] (ZJq hlt)
   have e : (loadCellsFrom a i (n + 1) acc) = (load (a.add i)).bind (fun v => loadCellsFrom a (i + 1) n (acc.push v)) := rfl
   rw [e, Sem.run_bind']
   have e2 : (load (a.add i)).run P w = .ok vs[i] w := by simp [load, Sem.run, hc]
   rw [e2]
   simp only [Result.andThen]
   rw [ih (i + 1) _ (by omega)]
   congr 1
   rw [List.drop_eq_getElem_cons hlt]
   simp
 have := key vs.length 0 #[] (by omega)
 simpa [loadCells] using this
theorem Addr.add_eq (b o n : Nat) : Addr.add ⟨b, o, none⟩ n = ⟨b, o + n, none⟩ := by unfold Addr.add; split <;> simp_all
theorem Zcp {t : TypeId} {d : TypeDesc} {n : Nat} (hd : P.underlying t = some d) (hn : Za9 P t = some n) (b o : Nat) (vs : List Value) (w : World)
  (hl : YV d = true -> vs.length = n) (h : ∀ j v, vs[j]? = some v -> w.cell? ⟨b, o + j, none⟩ = some v) (v : Value) (hv : v = (if YV d then Value.agg vs.toArray else vs.getD 0 undef)) (h1 : YV d = false -> vs ≠ []) :
  (loadVar t ⟨b, o, none⟩).run P w = .ok v w := by
 subst hv
 have e : loadVar t ⟨b, o, none⟩ = (isAgg t).bind (fun x => if x then ((sizeOf t).bind fun k => (loadCells ⟨b, o, none⟩ k).bind fun vs => Sem.pure (Value.agg vs)) else load ⟨b, o, none⟩) := by
  unfold loadVar; rfl
 rw [e, Sem.run_bind', Zez hd]
 simp only [Result.andThen]
 cases hag : YV d
 ·simp only [Bool.false_eq_true, if_false]
  obtain ⟨v0, vs', rfl⟩ : ∃ v vs', vs = v :: vs' := by
   cases vs with
   | nil => exact absurd rfl (h1 hag)
   | cons v vs' => exact ⟨v, vs', rfl⟩
  have := h 0 v0 rfl
  simp only [Nat.add_zero] at this
  simp [load, Sem.run, this]
 ·simp only [if_true]
  rw [Sem.run_bind', Zm hn]
  simp only [Result.andThen]
  rw [Sem.run_bind', <- hl hag, Y4 _ vs w (fun j v hj => by rw [Addr.add_eq]; exact h j v hj)]
  rfl
theorem ZgR (op : BinOp) (t : TypeId) (k : IntKind) (a b : Int) (h1 : op ≠ .shl) (h2 : op ≠ .shr) : binOp op t (.int k a) (.int k b) =
  (match op with
  | .add | .sub | .mul => Op.intArith op k a b
  | .quo | .rem => Op.intDiv op k a b
  | .and | .or | .xor | .andNot => Op.intBits op k a b
  | _ => Op.intCmp op a b) := by
 cases op <;> first | rfl | contradiction | simp [binOp]
theorem Zcg {k : IntKind} {n : Int} (h : k.min <= n /\ n <= k.max) : k.wrap n = n := by
 cases k <;> simp only [IntKind.wrap, IntKind.min, IntKind.max, IntKind.bits, IntKind.signed] at * <;> simp at * <;> (try split) <;> omega
end
section
variable {G : Type} (S : Sig G) (ρ : Env G) (w0 : World) {P : Program}
theorem R_one {c : SC} {v : Value} (h : (SV.one c).R S ρ v) : v = c.den S ρ := by
 rcases h with h | h
 ·cases h
 ·exact h
theorem ZlQ {cs : List SC} {v : Value} (h : (SV.agg cs).R S ρ v) : v = .agg (cs.map (SC.den S ρ)).toArray := by
 rcases h with h | h
 ·cases h
 ·exact h
theorem ZbS (sv : SV) : sv.R S ρ (sv.den S ρ) := .inr rfl
theorem ZgJ {agg : Bool} {cs : List SC} {sv : SV} (h : Zir agg cs = some sv) :
  sv.den S ρ = (if agg then Value.agg (cs.map (SC.den S ρ)).toArray else (cs.map (SC.den S ρ)).getD 0 undef) /\ (agg = false -> cs ≠ []) := by
 unfold Zir at h
 split at h
 ·rename_i c
  cases agg <;> cases h <;> simp [SV.den]
 ·cases agg
  ·cases h
  ·cases h; simp [SV.den]
theorem ZeW {F : Zd} {w : World} {hp : List Ch} {asm : List SX} (ha : ∀ x ∈ asm, (x.den S ρ).tP) (hs : Sat w0 (Zg (Ze S ρ w0 hp) F) w)
  {t : TypeId} {d : TypeDesc} {n : Nat} (hd : P.underlying t = some d) (hn : Za9 P t = some n) {c : SC} {ns : List SX} {sv : SV}
  (h : loadAt hp asm (YV d) (bif YV d then n else 1) c = some (ns, sv)) (hns : ∀ e ∈ ns, (e.den S ρ).tP) :
  (Instr.loadAt t (c.den S ρ)).run P w = .ok (sv.den S ρ) w := by
 have hrun : ∀ a, Instr.loadAt t (.pointer (some a)) = loadVar t a := fun a => rfl
 unfold loadAt at h
 split at h
 ·rename_i b o
  cases hn1 : Nat.ble 1 (bif YV d then n else 1)
  ·rw [hn1] at h; cases h
  rw [hn1] at h
  have hn1' := ZJA hn1
  simp only [cond_true] at h
  split at h
  ·rename_i cs hfc
   split at h
   ·rename_i v hv
    cases h
    obtain ⟨o', cs', hm, h1, h2, rfl⟩ := Zd8 hfc
    obtain ⟨hb, hc⟩ := ZfX S ρ w0 hm hs
    have hne : cs' ≠ [] := by rintro rfl; simp only [List.length_nil] at h2; omega
    obtain ⟨hden, hne2⟩ := ZgJ S ρ hv
    by_cases hneg : (b.den S ρ).tI < 0
    ·exfalso; have := hb hne; omega
    ·simp only [SC.den]
     rw [if_neg hneg, hrun]
     refine Zcp hd hn _ _ (((cs'.drop (o - o')).take (bif YV d then n else 1)).map (SC.den S ρ)) w (fun hag => ?_) (fun j v hj => ?_) _ hden (fun hag => by simpa using hne2 hag)
     ·rw [hag]; simp only [cond_true, ZJx, ZJp, ZJB]
      rw [hag] at h2; simp only [cond_true] at h2; omega
     ·rw [ZJj, Option.map_eq_some_iff] at hj
      obtain ⟨c, hc1, rfl⟩ := hj
      rw [List.getElem?_take] at hc1
      split at hc1
      ·rw [ZJM] at hc1
       have := (hc _ _ hc1).1
       rw [show o + j = o' + (o - o' + j) by omega]; exact this
      ·cases hc1
   ·cases h
  ·cases h
 ·rename_i b o i s j
  split at h
  ·rename_i e x hfa
   split at h
   ·rename_i v hv
    cases hble : Nat.ble (j + (bif YV d then n else 1)) s
    ·rw [hble] at h; cases h
    ·rw [hble] at h
     cases h
     obtain ⟨hst, hb, hcells⟩ := Zcx S ρ w0 hfa hs
     obtain ⟨hi0, hns1⟩ := Za S ρ ha hns
     obtain ⟨hi1, _⟩ := Za S ρ ha hns1
     have hi0' := (eLe_den S ρ _ _).1 hi0
     have hi1' := (Yo S ρ _ _).1 hi1
     rw [En.lenX_den] at hi1'
     simp only [SX.den, U.tIi] at hi0' hi1'
     have hle := ZJA hble
     have hidx : (i.den S ρ).tI.toNat < e.len (x.den S ρ) := by omega
     obtain ⟨hden, hne2⟩ := ZgJ S ρ hv
     simp only [SC.den]
     rw [hrun]
     refine Zcp hd hn _ _ ((((e.get x i).drop j).take (bif YV d then n else 1)).map (SC.den S ρ)) w (fun hag => ?_) (fun q v hq => ?_) _ hden (fun hag => by simpa using hne2 hag)
     ·rw [hag]; simp only [cond_true, ZJx, ZJp, ZJB, En.get_length]
      rw [hag] at hle; simp only [cond_true] at hle; omega
     ·rw [ZJj, Option.map_eq_some_iff] at hq
      obtain ⟨c, hc1, rfl⟩ := hq
      rw [List.getElem?_take] at hc1
      split at hc1
      ·rename_i hqn
       rw [ZJM] at hc1
       have hg := En.get_den S ρ e x i hidx (j + q) (by omega)
       rw [ZJj, hc1] at hg
       have := hcells _ _ hg.symm
       rw [hst] at this
       rw [show (o.den S ρ).tI.toNat + (i.den S ρ).tI.toNat * s + j + q = (o.den S ρ).tI.toNat + ((i.den S ρ).tI.toNat * s + (j + q)) by omega]
       exact this
      ·cases hc1
   ·cases h
  ·split at h
   ·rename_i lo _
    cases hag : YV d
    ·rw [hag] at h
     cases hs1 : Nat.beq s 1
     ·rw [hs1] at h; cases h
     cases hj0 : Nat.beq j 0
     ·rw [hs1, hj0] at h; cases h
     rw [hs1, hj0] at h
     simp only [cond_true, cond_false] at h
     split at h
     ·rename_i k es hci
      cases h
      have e1 := ZJo hs1
      have e2 := ZJo hj0
      subst e1; subst e2
      obtain ⟨hi0, hns1⟩ := Za S ρ ha hns
      obtain ⟨hi1, _⟩ := Za S ρ ha hns1
      have hi0' := (eLe_den S ρ _ _).1 hi0
      have hi1' := (Yo S ρ _ _).1 hi1
      simp only [SX.den, U.tIi] at hi0' hi1'
      obtain ⟨o', cs', hm, ho, hlen, ZL⟩ := Zd5 hci
      obtain ⟨hb, hc⟩ := ZfX S ρ w0 hm hs
      have hil : (i.den S ρ).tI.toNat < es.length := by
       have : ((Int.ofNat es.length : Int)) = (es.length : Int) := rfl
       omega
      rw [hlen] at hil
      have hq := ZJq hil
      obtain ⟨e, he, hce⟩ := ZL _ _ hq
      rw [ZJM] at hq
      have hcell := (hc _ _ hq).1
      simp only [SC.den, SV.den]
      rw [hrun, ZjB, Zgw]
      refine Zcp hd hn _ _ [Value.int k (e.den S ρ).tI] w (fun hag' => by rw [hag] at hag'; cases hag') (fun q v hq' => ?_) _ ?_ (fun _ => by simp)
      ·cases q with
       | zero =>
        simp at hq'
        subst hq'
        rw [hce] at hcell
        simp only [SC.den] at hcell
        have hlo : ((SX.int (.ofNat lo)).den S ρ).tI.toNat = lo := rfl
        rw [hlo]
        rw [show lo + (i.den S ρ).tI.toNat * 1 + 0 + 0 = o' + (lo - o' + (i.den S ρ).tI.toNat) by omega]
        exact hcell
       | succ q => simp at hq'
      ·rw [hag]
       simp [ZJn, ZJj, he]
     ·cases h
    ·rw [hag] at h; cases h
   ·cases h
 ·cases h
theorem Yr {asm : List SX} (ha : ∀ x ∈ asm, (x.den S ρ).tP) {k : IntKind} {e : SX} {n : Int} (he : (e.den S ρ).tI = n) (hns : ∀ x ∈ (YO asm k e).1, (x.den S ρ).tP) :
  (YO asm k e).2.den S ρ = .int k (k.wrap n) := by
 unfold YO at *
 cases hk : k.signed
 ·simp only [hk, cond_false, SV.den, SC.den]
  rw [SX.mk1_den]
  have : ap1 (10 + kn k) (e.den S ρ) = (.int (k.wrap (e.den S ρ).tI) : U G) := by
   cases k <;> rfl
  simp only [SX.den]; rw [this, he]; rfl
 ·simp only [hk, cond_true] at hns ⊢
  simp only [SV.den, SC.den]
  have h1 := (Za S ρ ha (ns := []) hns).1
  rw [SX.mk1_den] at h1
  have : ap1 (20 + kn k) (e.den S ρ) = (.bool (decide (k.min <= (e.den S ρ).tI) && decide ((e.den S ρ).tI <= k.max)) : U G) := by
   cases k <;> rfl
  simp only [SX.den] at h1; rw [this] at h1
  simp at h1
  rw [he] at h1 ⊢
  rw [Zcg h1]
theorem Zaa (a b : SX) : ((SX.mk2 40 a b).den S ρ).tI = (a.den S ρ).tI + (b.den S ρ).tI := by rw [SX.mk2_den]; rfl
theorem Zae (a b : SX) : ((SX.mk2 41 a b).den S ρ).tI = (a.den S ρ).tI - (b.den S ρ).tI := by rw [SX.mk2_den]; rfl
theorem ZlN (a b : SX) : ((SX.mk2 42 a b).den S ρ).tI = (a.den S ρ).tI * (b.den S ρ).tI := by rw [SX.mk2_den]; rfl
theorem ZlG (a b : SX) : ((SX.mk2 43 a b).den S ρ).tI = (a.den S ρ).tI.tdiv (b.den S ρ).tI := by rw [SX.mk2_den]; rfl
theorem Zlr (a b : SX) : ((SX.mk2 44 a b).den S ρ).tI = (a.den S ρ).tI.tmod (b.den S ρ).tI := by rw [SX.mk2_den]; rfl
theorem ZdV (c : Nat) (op : BinOp) (k : IntKind) (a b : SX) (h : ∀ x y : U G, ap2 (c + kn k) x y = .int (Yb op k x.tI y.tI)) :
  ((SX.f2 (c + kn k) a b).den S ρ).tI = Yb op k (a.den S ρ).tI (b.den S ρ).tI := by
 simp only [SX.den]; rw [h]; rfl
theorem Zkk {asm : List SX} (ha : ∀ x ∈ asm, (x.den S ρ).tP) {op : BinOp} {t : TypeId} {k : IntKind} {a b : SX} {ns : List SX} {sv : SV} (h1 : op ≠ .shl) (h2 : op ≠ .shr)
  (h : Zvb asm op k a b = some (ns, sv)) (hns : ∀ e ∈ ns, (e.den S ρ).tP) (w : World) :
  (binOp op t (.int k (a.den S ρ).tI) (.int k (b.den S ρ).tI)).run P w = .ok (sv.den S ρ) w := by
 rw [ZgR op t k _ _ h1 h2]
 cases op <;> simp only [Zvb, Option.some.injEq, reduceCtorEq] at h <;> try contradiction
 case add =>
  rw [<- Prod.eta (YO asm k _)] at h; cases h
  rw [Yr S ρ ha (Zaa S ρ a b) hns]; rfl
 case sub =>
  rw [<- Prod.eta (YO asm k _)] at h; cases h
  rw [Yr S ρ ha (Zae S ρ a b) hns]; rfl
 case mul =>
  rw [<- Prod.eta (YO asm k _)] at h; cases h
  rw [Yr S ρ ha (ZlN S ρ a b) hns]; rfl
 case quo =>
  cases h
  obtain ⟨hz, hw⟩ := Za S ρ ha hns
  rw [ZaU, Za1] at hz
  simp [SX.den] at hz
  rw [Yr S ρ ha (ZlG S ρ a b) hw]
  simp [Op.intDiv, hz]
 case rem =>
  cases h
  obtain ⟨hz, hw⟩ := Za S ρ ha hns
  rw [ZaU, Za1] at hz
  simp [SX.den] at hz
  simp only [SV.den, SC.den]
  rw [Zlr]
  simp [Op.intDiv, hz]
 case and =>
  cases h; simp only [SV.den, SC.den]; rw [SX.mk2_den, ZdV S ρ 60 .and k a b (by intro x y; cases k <;> rfl)]; rfl
 case or =>
  cases h; simp only [SV.den, SC.den]; rw [SX.mk2_den, ZdV S ρ 68 .or k a b (by intro x y; cases k <;> rfl)]; rfl
 case xor =>
  cases h; simp only [SV.den, SC.den]; rw [SX.mk2_den, ZdV S ρ 76 .xor k a b (by intro x y; cases k <;> rfl)]; rfl
 case andNot =>
  cases h; simp only [SV.den, SC.den]; rw [SX.mk2_den, ZdV S ρ 84 .andNot k a b (by intro x y; cases k <;> rfl)]; rfl
 case eql => cases h; simp only [SV.den, SC.den]; rw [Za1]; rfl
 case neq => cases h; simp only [SV.den, SC.den]; rw [ZbG, Za1]; rfl
 case lss => cases h; simp only [SV.den, SC.den]; rw [Y5]; rfl
 case leq => cases h; simp only [SV.den, SC.den]; rw [Zfw]; rfl
 case gtr => cases h; simp only [SV.den, SC.den]; rw [Y5]; rfl
 case geq => cases h; simp only [SV.den, SC.den]; rw [Zfw]; rfl
theorem ZJ {x : SX} (h : Zn x = true) : (x.den S ρ).tI < 0 := by
 unfold Zn at h
 split at h
 ·simp only [SX.den, U.tIi]; exact Int.negSucc_lt_zero _
 ·cases h
theorem Z0 (t : TypeId) (x y : Value) : Op.equal t x y = Op.equalIn (9999 + 1) t x y := rfl
theorem Zrm {t : TypeId} (ht : P.underlying t = some .bool) (x y : Bool) (w : World) : (Op.equal t (.bool x) (.bool y)).run P w = .ok (x == y) w := by
 rw [Z0, Op.equalIn]; simp [run_underlying ht]
theorem ZbV {t : TypeId} {e : TypeId} (ht : P.underlying t = some (.pointer e)) (x : Option Addr) (w : World) : (Op.equal t (.pointer none) (.pointer x)).run P w = .ok x.isNone w := by
 rw [Z0, Op.equalIn]; simp [run_underlying ht]
theorem equal_ptr_nil' {t : TypeId} {e : TypeId} (ht : P.underlying t = some (.pointer e)) (x : Option Addr) (w : World) : (Op.equal t (.pointer x) (.pointer none)).run P w = .ok x.isNone w := by
 cases x <;> (rw [Z0, Op.equalIn]; simp [run_underlying ht])
theorem ZfY {t : TypeId} {e : TypeId} (ht : P.underlying t = some (.slice e)) (x : Option Addr) (l c l' c' : Nat) (w : World) : (Op.equal t (.slice none l' c') (.slice x l c)).run P w = .ok x.isNone w := by
 rw [Z0, Op.equalIn]; simp [run_underlying ht]
theorem equal_slice_nil' {t : TypeId} {e : TypeId} (ht : P.underlying t = some (.slice e)) (x : Option Addr) (l c l' c' : Nat) (w : World) : (Op.equal t (.slice x l c) (.slice none l' c')).run P w = .ok x.isNone w := by
 cases x <;> (rw [Z0, Op.equalIn]; simp [run_underlying ht])
theorem Zjd {t : TypeId} {e e' : TypeId} (ht : P.underlying t = some (.map e e')) (x : Option Nat) (w : World) : (Op.equal t (.map none) (.map x)).run P w = .ok x.isNone w := by
 rw [Z0, Op.equalIn]; simp [run_underlying ht]
theorem equal_map_nil' {t : TypeId} {e e' : TypeId} (ht : P.underlying t = some (.map e e')) (x : Option Nat) (w : World) : (Op.equal t (.map x) (.map none)).run P w = .ok x.isNone w := by
 cases x <;> (rw [Z0, Op.equalIn]; simp [run_underlying ht])
theorem Zd9 {t : TypeId} {e : TypeId} {n : Nat} (ht : P.underlying t = some (.pointer e)) (hn : Za9 P e = some (n + 1)) (a b : Addr) (w : World) : (Op.equal t (.pointer (some a)) (.pointer (some b))).run P w = (sameAddr a b).run P w := by
 rw [Z0, Op.equalIn]; simp [run_underlying ht, Zm hn]
theorem ZfS {F : Zd} {hp : List Ch} {d : TypeDesc} {t : TypeId} (ht : P.underlying t = some d) {a b : SC} {e : SX} (h : Zhe P hp d a b = some e) (w : World) (hs : Sat w0 (Zg (Ze S ρ w0 hp) F) w) :
  (Op.equal t (a.den S ρ) (b.den S ρ)).run P w = .ok (e.den S ρ).toBool w := by
 unfold Zhe at h
 split at h
 ·cases h
  simp only [SC.den]
  rw [Zrm ht]
  split
  ·rename_i a b; simp only [SX.den, U.tQi]; cases a <;> cases b <;> rfl
  ·rfl
 ·rename_i el x o y o'
  cases hx : Zn x
  ·rw [hx] at h
   cases hy : Zn y
   ·rw [hy] at h
    simp only [cond_false] at h
    split at h
    ·rename_i n hn
     cases c1 : ZfE x o hp
     ·rw [c1] at h; cases h
     cases c2 : ZfE y o' hp
     ·rw [c1, c2] at h; cases h
     rw [c1, c2] at h
     simp only [cond_true] at h
     obtain ⟨p, cs, m1, k1, k2⟩ := Zdc c1
     obtain ⟨p', cs', m2, k3, k4⟩ := Zdc c2
     have ne1 : cs ≠ [] := by rintro rfl; simp at k2; omega
     have ne2 : cs' ≠ [] := by rintro rfl; simp at k4; omega
     obtain ⟨b1, ca, ta, hh1⟩ := Zk3 S ρ w0 m1 ne1 hs
     obtain ⟨b2, cb, tb, hh2⟩ := Zk3 S ρ w0 m2 ne2 hs
     simp only [SC.den]
     rw [if_neg (by omega), if_neg (by omega), Zd9 ht hn]
     cases c3 : SX.bq x y
     ·rw [c3] at h; cases h
      have hne : Ch.cel x p cs ≠ Ch.cel y p' cs' := by
       intro he
       injection he with he
       rw [he, SX.bq_refl] at c3; cases c3
      have hap := ZxO S ρ w0 (p := o) (p' := o') m1 m2 hne hs k1 k2 k3 k4
      refine run_sameAddr_other _ (ca := ca) (cb := cb) (ta := ta) (tb := tb) ?_ hh1 hh2
      intro he
      injection he with e1 e2
      rcases hap with h | h
      ·exact h e1
      ·exact h e2
     ·rw [c3] at h; cases h
      have e := SX.bq_eq c3
      subst e
      simp only [SX.den, U.tQi]
      cases c4 : Nat.beq o o'
      ·have hoo : o ≠ o' := fun hq => by rw [hq, Nat.beq_refl] at c4; cases c4
       refine run_sameAddr_other _ (ca := ca) (cb := ca) (ta := ta) (tb := ta) ?_ hh1 hh1
       intro he
       injection he with e1 e2
       exact hoo e2
      ·rw [ZJo c4]
       exact run_sameAddr_same _ _
    ·cases h
   ·rw [hy] at h; cases h
    simp only [SC.den, if_pos (ZJ S ρ hy)]
    rw [Y5]
    by_cases hh : (x.den S ρ).tI < 0
    ·rw [if_pos hh, equal_ptr_nil' ht]; simp [hh, SX.den]
    ·rw [if_neg hh, equal_ptr_nil' ht]; simp [hh, SX.den]
  ·rw [hx] at h; cases h
   simp only [SC.den, if_pos (ZJ S ρ hx)]
   rw [Y5]
   by_cases hh : (y.den S ρ).tI < 0
   ·rw [if_pos hh, ZbV ht]; simp [hh, SX.den]
   ·rw [if_neg hh, ZbV ht]; simp [hh, SX.den]
 ·rename_i y _
  cases hy : Zn y
  ·rw [hy] at h; cases h
  ·rw [hy] at h; cases h
   simp only [SC.den, if_pos (ZJ S ρ hy)]
   rw [equal_ptr_nil' ht]; rfl
 ·rename_i x _ _ _ _ _ _ y _ _ _ _ _ _
  cases hx : Zn x
  ·rw [hx] at h
   cases hy : Zn y
   ·rw [hy] at h; cases h
   ·rw [hy] at h; cases h
    simp only [SC.den, if_pos (ZJ S ρ hy)]
    rw [equal_slice_nil' ht, Y5]
    by_cases hh : (x.den S ρ).tI < 0 <;> simp [hh, SX.den]
  ·rw [hx] at h; cases h
   simp only [SC.den, if_pos (ZJ S ρ hx)]
   rw [ZfY ht, Y5]
   by_cases hh : (y.den S ρ).tI < 0 <;> simp [hh, SX.den]
 ·rename_i x i p y _ _ _ _ _ _
  cases hy : Zn y
  ·rw [hy] at h; cases h
  ·rw [hy] at h; cases h
   have e0 : ∀ L : List Int, (L.drop p).getD 0 0 = L.getD p 0 := fun L => by rw [ZJn, ZJM, ZJn]; rfl
   have e1 : ((Zdg x i (.int (.ofNat p))).den S ρ).tI = (((x.den S ρ).tR.getD (i.den S ρ).tI.toNat []).drop p).getD 0 0 := by rw [ZbP, e0]; rfl
   simp only [SC.den, if_pos (ZJ S ρ hy), opqV]
   rw [equal_slice_nil' ht, Y5, e1]
   generalize (((x.den S ρ).tR.getD (i.den S ρ).tI.toNat []).drop p).getD 0 0 = q
   by_cases hh : q < 0 <;> simp [hh, SX.den]
 ·rename_i x y
  cases hx : Zn x
  ·rw [hx] at h
   cases hy : Zn y
   ·rw [hy] at h; cases h
   ·rw [hy] at h; cases h
    simp only [SC.den, if_pos (ZJ S ρ hy)]
    rw [equal_map_nil' ht, Y5]
    by_cases hh : (x.den S ρ).tI < 0 <;> simp [hh, SX.den]
  ·rw [hx] at h; cases h
   simp only [SC.den, if_pos (ZJ S ρ hx)]
   rw [Zjd ht, Y5]
   by_cases hh : (y.den S ρ).tI < 0 <;> simp [hh, SX.den]
 ·cases h; rw [Z0, Op.equalIn]; simp [SC.den, run_underlying ht, SX.den]
 ·cases h; rw [Z0, Op.equalIn]; simp [SC.den, run_underlying ht, SX.den]
 ·cases h; rw [Z0, Op.equalIn]; simp [SC.den, run_underlying ht, SX.den]
 ·cases h
end
end
end Go.Eng
namespace Go.Eng
noncomputable section
open Go.RowKit (Below)
section
variable {G : Type} (S : Sig G) (ρ : Env G) (w0 : World) {P : Program}
theorem Ya (a : List UInt8) : (⟨a.toArray⟩ : ByteArray).toList = a := by rw [ByteArray.toList_eq]
theorem Zk9 {op : BinOp} {t : TypeId} {a b : SX} {sv : SV} (h : Zum op a b = some sv) (w : World) :
  (binOp op t (SC.den S ρ (.str a)) (SC.den S ρ (.str b))).run P w = .ok (sv.den S ρ) w := by
 cases op <;> simp only [Zum, Option.some.injEq, reduceCtorEq] at h <;> try contradiction
 all_goals
  cases h
  simp only [SC.den, SV.den, binOp, Op.stringOp, Ya, SX.mk1_den, SX.mk2_den, SX.den]
  rfl
def ZeR : Value -> Bool | .nilIface | .agg _ => false | _ => true
theorem ZbH (op : BinOp) (t : TypeId) (x y : Operand) (a b : Value) (h : ZeR a = true) : eqGuard op t x y a b = pure () := by
 cases op <;> try rfl
 all_goals (cases a <;> first | rfl | (simp [ZeR] at h))
theorem Ym {op : BinOp} {t : TypeId} {x y : Operand} {a b v : Value} {w w' : World} (h : ZeR a = true) (hr : (binOp op t a b).run P w = .ok v w') :
  (do eqGuard op t x y a b; binOp op t a b : Sem Value).run P w = .ok v w' := by
 rw [ZbH op t x y a b h]; exact hr
def ZoQ : SC -> Bool | .int .. | .bool _ | .ptr .. | .ep .. | .slice .. | .str _ | .map _ | .fn _ | .nilfn | .opq .. => true | _ => false
theorem YH {c : SC} (h : ZoQ c = true) : ZeR (c.den S ρ) = true := by
 cases c <;> simp only [ZoQ] at h <;> try contradiction
 all_goals simp only [SC.den]
 all_goals first | rfl | (split <;> rfl)
theorem Zgl {hp : List Ch} {d : TypeDesc} {a b : SC} {e : SX} (h : Zhe P hp d a b = some e) : ZoQ a = true := by
 unfold Zhe at h
 split at h <;> first | rfl | cases h
theorem ZyL {t : TypeId} {a b : SC} (hp : List Ch) (d : TypeDesc) {e : SX} (h : Zhe P hp d a b = some e) : binOp .eql t (a.den S ρ) (b.den S ρ) = (do pure (.bool (<- Op.equal t (a.den S ρ) (b.den S ρ)))) := by
 unfold Zhe at h
 split at h
 ·simp [SC.den, binOp]
 ·simp only [SC.den]; split <;> split <;> rfl
 ·simp only [SC.den]; split <;> rfl
 ·rfl
 ·rfl
 ·rfl
 ·rfl
 ·rfl
 ·rfl
 ·cases h
theorem Zr2 {t : TypeId} {a b : SC} (hp : List Ch) (d : TypeDesc) {e : SX} (h : Zhe P hp d a b = some e) : binOp .neq t (a.den S ρ) (b.den S ρ) = (do pure (.bool (!(<- Op.equal t (a.den S ρ) (b.den S ρ))))) := by
 unfold Zhe at h
 split at h
 ·simp [SC.den, binOp]
 ·simp only [SC.den]; split <;> split <;> rfl
 ·simp only [SC.den]; split <;> rfl
 ·rfl
 ·rfl
 ·rfl
 ·rfl
 ·rfl
 ·rfl
 ·cases h
theorem Zdd (a e : SX) : ((ZGh a e).den S ρ).toBool = ((a.den S ρ).toBool && (e.den S ρ).toBool) := by
 unfold ZGh
 split <;> simp [SX.den, ap2]
theorem Zbm {α : Type} {l r : List α} {a : α} {n : Nat} (h : l.drop n = a :: r) : l[n]? = some a := by
 have := congrArg (fun l => l[0]?) h
 simpa using this
theorem Zey {t : TypeId} {d : TypeDesc} (hd : P.underlying t = some d) (hag : YV d = false) {cs : List Value} {off : Nat} {v : Value} (h : cs[off]? = some v) (w : World) : (part t cs.toArray off).run P w = .ok v w := by
 have e : part t cs.toArray off = (isAgg t).bind (fun x => if x then ((sizeOf t).bind fun k => Sem.pure (Value.agg (cs.toArray.extract off (off + k)))) else match cs.toArray[off]? with | some v => Sem.pure v | none => stuck "part: no such cell") := by
  unfold part; rfl
 rw [e, Sem.run_bind', Zez hd, hag]
 simp [Result.andThen, h, Sem.run]
theorem Zax {x y : List SC} (w : World) (m : Nat) : ∀ (fs : List Field) {e : SX}, Zel P x y fs = some e →
  (Op.eqFields (m + 1) (x.map (SC.den S ρ)).toArray (y.map (SC.den S ρ)).toArray fs).run P w = .ok (e.den S ρ).toBool w
 | [], e, h => by cases h; rfl
 | f :: fs, e, h => by
  unfold Zel at h
  cases hn : (f.name == "_")
  ·rw [hn] at h; simp only [cond_false] at h
   have hne : f.name ≠ "_" := by simpa using hn
   split at h
   ·rename_i k0 k a r k' b r' hd hx hy
    cases hk : Nat.beq (kn k) (kn k')
    ·rw [hk] at h; cases h
    rw [hk] at h; simp only [cond_true] at h
    have hk := Zb6 (ZJo hk)
    subst hk
    split at h
    ·rename_i e' he
     cases h
     have g1 : (x.map (SC.den S ρ))[f.offset]? = some (.int k (a.den S ρ).tI) := by rw [ZJj, Zbm hx]; rfl
     have g2 : (y.map (SC.den S ρ))[f.offset]? = some (.int k (b.den S ρ).tI) := by rw [ZJj, Zbm hy]; rfl
     have p1 := Zey (P := P) hd (by rfl) g1 w
     have p2 := Zey (P := P) hd (by rfl) g2 w
     have e1 := run_equalIn_int (P := P) w m f.type k k0 (a.den S ρ).tI (b.den S ρ).tI hd
     have ih := Zax w m fs he
     rw [Zdd, Za1]
     simp only [U.tQi]
     cases hc : ((a.den S ρ).tI == (b.den S ρ).tI)
     ·rw [hc] at e1; simp [Op.eqFields, hne, p1, p2, e1]
     ·rw [hc] at e1; simp [Op.eqFields, hne, p1, p2, e1, ih]
    ·cases h
   ·rename_i a r b r' hd hx hy
    split at h
    ·rename_i e' he
     cases h
     have g1 : (x.map (SC.den S ρ))[f.offset]? = some (.bool (a.den S ρ).toBool) := by rw [ZJj, Zbm hx]; rfl
     have g2 : (y.map (SC.den S ρ))[f.offset]? = some (.bool (b.den S ρ).toBool) := by rw [ZJj, Zbm hy]; rfl
     have p1 := Zey (P := P) hd (by rfl) g1 w
     have p2 := Zey (P := P) hd (by rfl) g2 w
     have e1 := run_equalIn_bool (P := P) w m f.type (a.den S ρ).toBool (b.den S ρ).toBool hd
     have ih := Zax w m fs he
     rw [Zdd, SX.mk2_den]
     simp only [SX.den, ap2, U.tQi]
     cases hc : ((a.den S ρ).toBool == (b.den S ρ).toBool)
     ·rw [hc] at e1; simp [Op.eqFields, hne, p1, p2, e1]
     ·rw [hc] at e1; simp [Op.eqFields, hne, p1, p2, e1, ih]
    ·cases h
   ·rename_i a r b r' hd hx hy
    split at h
    ·rename_i e' he
     cases h
     have g1 : (x.map (SC.den S ρ))[f.offset]? = some (.string ⟨(a.den S ρ).tB.toArray⟩) := by rw [ZJj, Zbm hx]; rfl
     have g2 : (y.map (SC.den S ρ))[f.offset]? = some (.string ⟨(b.den S ρ).tB.toArray⟩) := by rw [ZJj, Zbm hy]; rfl
     have p1 := Zey (P := P) hd (by rfl) g1 w
     have p2 := Zey (P := P) hd (by rfl) g2 w
     have e1 := run_equalIn_string (P := P) w m f.type ⟨(a.den S ρ).tB.toArray⟩ ⟨(b.den S ρ).tB.toArray⟩ hd
     rw [ByteArray.toList_eq, ByteArray.toList_eq] at e1
     have ih := Zax w m fs he
     rw [Zdd, SX.mk2_den]
     simp only [SX.den, ap2, U.tQi]
     cases hc : ((a.den S ρ).tB == (b.den S ρ).tB)
     ·rw [hc] at e1; simp [Op.eqFields, hne, p1, p2, e1]
     ·rw [hc] at e1; simp [Op.eqFields, hne, p1, p2, e1, ih]
    ·cases h
   ·cases h
  ·rw [hn] at h; cases h
theorem Zg1 {t : TypeId} {x y : List SC} {e : SX} (h : ZzG P t x y = some e) (w : World) :
  (Op.equal t (.agg (x.map (SC.den S ρ)).toArray) (.agg (y.map (SC.den S ρ)).toArray)).run P w = .ok (e.den S ρ).toBool w /\ P.eqGuardType P.depth t = false := by
 unfold ZzG at h
 split at h
 ·rename_i fs hd
  cases hs : P.stoodInHeld t
  ·cases hg : P.eqGuardType P.depth t
   ·rw [hs, hg] at h
    simp only [cond_false] at h
    refine ⟨?_, rfl⟩
    have hff : P.fieldsOf t = fs := by simp [Program.fieldsOf, hd]
    have hf : P.underlying t = some (.struct (P.fieldsOf t)) := by rw [hff]; exact hd
    show (Op.equalIn (9999 + 1) t _ _).run P w = _
    rw [run_equalIn_struct w 9999 t _ _ hf hs, hff]
    exact Zax S ρ w 9998 _ h
   ·rw [hs, hg] at h; cases h
  ·rw [hs] at h; cases h
 ·cases h
theorem ZdY {F : Zd} {hp : List Ch} {asm : List SX} (ha : ∀ x ∈ asm, (x.den S ρ).tP) {d : TypeDesc} {t : TypeId} (ht : P.underlying t = some d) {a b : SC} {ns : List SX} {r : Bool} (h : Zi8 P hp asm d a b = some (ns, r))
  (hns : ∀ e ∈ ns, (e.den S ρ).tP) (w : World) (hs : Sat w0 (Zg (Ze S ρ w0 hp) F) w) : ZoQ a = true /\ (Op.equal t (a.den S ρ) (b.den S ρ)).run P w = .ok r w ∧
  binOp .eql t (a.den S ρ) (b.den S ρ) = (do pure (.bool (<- Op.equal t (a.den S ρ) (b.den S ρ)))) /\ binOp .neq t (a.den S ρ) (b.den S ρ) = (do pure (.bool (!(<- Op.equal t (a.den S ρ) (b.den S ρ))))) := by
 unfold Zi8 at h
 split at h
 ·rename_i el x o y o'
  split at h
  ·rename_i n hn
   refine ⟨rfl, ?_, ?_, ?_⟩
   rotate_left
   ·simp only [SC.den]; split <;> split <;> rfl
   ·simp only [SC.den]; split <;> split <;> rfl
   ·cases hq : (bif Nat.beq o o' then ZaP (.f2 45 x y) asm else false)
    ·rw [hq] at h
     simp only [cond_false] at h
     cases hx : ZaP (.f2 46 x (.int 0)) asm
     ·rw [hx] at h
      simp only [cond_false] at h
      cases hy : ZaP (.f2 46 y (.int 0)) asm
      ·rw [hy] at h; cases h
      ·rw [hy] at h; cases h
       obtain ⟨h1, h2⟩ := Za S ρ ha hns
       obtain ⟨h3, _⟩ := Z2 S ρ w0 ha hs h2
       have h1 : (y.den S ρ).tI < 0 := by simp only [SX.den] at h1; exact of_decide_eq_true h1
       simp only [SC.den]
       rw [if_neg (by omega), if_pos h1, equal_ptr_nil' ht]; rfl
     ·rw [hx] at h; cases h
      obtain ⟨h1, h2⟩ := Za S ρ ha hns
      obtain ⟨h3, _⟩ := Z2 S ρ w0 ha hs h2
      have h1 : (x.den S ρ).tI < 0 := by simp only [SX.den] at h1; exact of_decide_eq_true h1
      simp only [SC.den]
      rw [if_pos h1, if_neg (by omega), ZbV ht]; rfl
    ·rw [hq] at h; cases h
     cases hc : Nat.beq o o'
     ·rw [hc] at hq; cases hq
     obtain ⟨h1, h2⟩ := Za S ρ ha hns
     obtain ⟨h3, _⟩ := Z2 S ρ w0 ha hs h2
     have h1 : (x.den S ρ).tI = (y.den S ρ).tI := by simp only [SX.den] at h1; simpa [ap2, U.tP, U.toBool] using h1
     have ho := ZJo hc
     simp only [SC.den]
     rw [if_neg (by omega), if_neg (by omega), Zd9 ht hn, h1, ho]
     exact run_sameAddr_same _ _
  ·cases h
 ·cases h
theorem Zll {F : Zd} {hp : List Ch} {asm : List SX} (ha : ∀ x ∈ asm, (x.den S ρ).tP) {op : BinOp} {t : TypeId} {a b : SV} {va vb : Value} (hra : a.R S ρ va) (hrb : b.R S ρ vb)
  {ns : List SX} {sv : SV} (h : Zsr P hp asm op t a b = some (ns, sv)) (hns : ∀ e ∈ ns, (e.den S ρ).tP) (x y : Operand) (w : World) (hs : Sat w0 (Zg (Ze S ρ w0 hp) F) w) :
  (do eqGuard op t x y va vb; binOp op t va vb : Sem Value).run P w = .ok (sv.den S ρ) w := by
 unfold Zsr at h
 split at h
 ·rename_i k e1 k2 e2
  cases h
  rw [R_one S ρ hra, R_one S ρ hrb]
  obtain ⟨h0, _⟩ := Za S ρ ha hns
  rw [eLe_den] at h0
  simp only [SX.den, U.tIi] at h0
  refine Ym (YH S ρ rfl) ?_
  simp only [SC.den, binOp, Op.shift, SV.den]
  rw [if_neg (by omega)]
  have : ((SX.mk2 (92 + kn k) e1 e2).den S ρ) = .int (k.wrap ((e1.den S ρ).tI * 2 ^ (min (e2.den S ρ).tI.toNat k.bits))) := by
   rw [SX.mk2_den]
   simp only [SX.den]; cases k <;> rfl
  rw [this]; rfl
 ·rename_i k e1 k2 e2
  cases h
  rw [R_one S ρ hra, R_one S ρ hrb]
  obtain ⟨h0, _⟩ := Za S ρ ha hns
  rw [eLe_den] at h0
  simp only [SX.den, U.tIi] at h0
  refine Ym (YH S ρ rfl) ?_
  simp only [SC.den, binOp, Op.shift, SV.den]
  rw [if_neg (by omega)]
  have : ((SX.mk2 (100 + kn k) e1 e2).den S ρ) = .int ((e1.den S ρ).tI.fdiv (2 ^ (min (e2.den S ρ).tI.toNat k.bits))) := by
   rw [SX.mk2_den]
   simp only [SX.den]; cases k <;> rfl
  rw [this]; rfl
 ·rename_i k e1 k2 e2 hs1 hs2
  cases hk : Nat.beq (kn k) (kn k2)
  ·rw [hk] at h; cases h
  ·rw [hk] at h
   have := Zb6 (ZJo hk)
   subst this
   rw [R_one S ρ hra, R_one S ρ hrb]
   refine Ym (YH S ρ rfl) ?_
   simp only [SC.den]
   refine Zkk S ρ ha ?_ ?_ h hns w
   ·rintro rfl; exact hs1 rfl
   ·rintro rfl; exact hs2 rfl
 ·split at h
  ·rename_i v hv
   cases h
   rw [R_one S ρ hra, R_one S ρ hrb]
   exact Ym (YH S ρ rfl) (Zk9 S ρ hv w)
  ·cases h
 ·split at h
  ·rename_i d hd
   split at h
   ·rename_i e he
    cases h
    rw [R_one S ρ hra, R_one S ρ hrb]
    refine Ym (YH S ρ (Zgl he)) ?_
    rw [ZyL S ρ hp d he]
    have e1 := ZfS S ρ w0 hd he w hs
    rw [show (do pure (.bool (<- Op.equal t _ _)) : Sem Value) = (Op.equal t _ _).bind (fun r => Sem.pure (.bool r)) from rfl, Sem.run_bind', e1]
    rfl
   ·split at h
    ·rename_i ns' e hk
     cases h
     obtain ⟨k1, k2, k3, k4⟩ := ZdY S ρ w0 ha hd hk hns w hs
     rw [R_one S ρ hra, R_one S ρ hrb]
     refine Ym (YH S ρ k1) ?_
     rw [k3, show (do pure (.bool (<- Op.equal t _ _)) : Sem Value) = (Op.equal t _ _).bind (fun r => Sem.pure (.bool r)) from rfl, Sem.run_bind', k2]
     rfl
    ·cases h
  ·cases h
 ·split at h
  ·rename_i d hd
   split at h
   ·rename_i e he
    cases h
    rw [R_one S ρ hra, R_one S ρ hrb]
    refine Ym (YH S ρ (Zgl he)) ?_
    rw [Zr2 S ρ hp d he]
    have e1 := ZfS S ρ w0 hd he w hs
    rw [show (do pure (.bool (!(<- Op.equal t _ _))) : Sem Value) = (Op.equal t _ _).bind (fun r => Sem.pure (.bool (!r))) from rfl, Sem.run_bind', e1]
    simp only [Result.andThen, SV.den, SC.den, ZbG]
    rfl
   ·split at h
    ·rename_i ns' e hk
     cases h
     obtain ⟨k1, k2, k3, k4⟩ := ZdY S ρ w0 ha hd hk hns w hs
     rw [R_one S ρ hra, R_one S ρ hrb]
     refine Ym (YH S ρ k1) ?_
     rw [k4, show (do pure (.bool (!(<- Op.equal t _ _))) : Sem Value) = (Op.equal t _ _).bind (fun r => Sem.pure (.bool (!r))) from rfl, Sem.run_bind', k2]
     rfl
    ·cases h
  ·cases h
 ·split at h
  ·rename_i e he
   cases h
   rw [ZlQ S ρ hra, ZlQ S ρ hrb]
   obtain ⟨e1, e2⟩ := Zg1 S ρ he w
   rw [Sem.run_bind, run_eqGuard_agg w _ t x y _ _ e2]
   simp only [Result.andThen]
   show (do pure (.bool (<- Op.equal t _ _)) : Sem Value).run P w = _
   rw [Sem.run_bind, e1]
   rfl
  ·cases h
 ·split at h
  ·rename_i e he
   cases h
   rw [ZlQ S ρ hra, ZlQ S ρ hrb]
   obtain ⟨e1, e2⟩ := Zg1 S ρ he w
   rw [Sem.run_bind, run_eqGuard_agg w _ t x y _ _ e2]
   simp only [Result.andThen]
   show (do pure (.bool (!(<- Op.equal t _ _))) : Sem Value).run P w = _
   rw [Sem.run_bind, e1]
   simp only [Result.andThen, SV.den, SC.den, ZbG]
   rfl
  ·cases h
 ·cases h
/-! ### Addresses -/
theorem ZbK {s : TypeId} {fs : Array Field} {f : Nat} {fd : Field} {n : Nat} (hs : P.underlying s = some (.struct fs)) (hf : fs[f]? = some fd) (hn : Za9 P fd.type = some (n + 1)) (b o : Nat) (w : World) :
  (Instr.fieldAt s (.pointer (some ⟨b, o, none⟩)) f).run P w = .ok (.pointer (some ⟨b, o + fd.offset, none⟩)) w := by
 obtain ⟨i, hi, hsz⟩ := YW hn
 simp [Instr.fieldAt, run_underlying hs, hf, Instr.sureAddr, fieldPlace, sizeOf, typeInfo, hi, hsz, Addr.add_eq]
theorem Zpy {t : TypeId} {d : TypeDesc} {n : Nat} (hd : P.underlying t = some d) (hn : Za9 P t = some n) (cs : List Value) (off : Nat) (hle : off + n <= cs.length) (h1 : YV d = false -> off < cs.length) (w : World) :
  (part t cs.toArray off).run P w = .ok (if YV d then .agg ((cs.drop off).take n).toArray else (cs.drop off).getD 0 undef) w := by
 have e : part t cs.toArray off = (isAgg t).bind (fun x => if x then ((sizeOf t).bind fun k => Sem.pure (Value.agg (cs.toArray.extract off (off + k)))) else match cs.toArray[off]? with | some v => Sem.pure v | none => stuck "part: no such cell") := by
  unfold part; rfl
 rw [e, Sem.run_bind', Zez hd]
 simp only [Result.andThen]
 cases hag : YV d
 ·simp only [Bool.false_eq_true, if_false]
  have := h1 hag
  simp [this, ZJn, Sem.run]
 ·simp only [if_true]
  rw [Sem.run_bind', Zm hn]
  simp [Result.andThen, Sem.run, List.extract_eq_take_drop]
theorem Zwu {d : TypeDesc} {n off : Nat} {cs : List SC} {r : List SX × SV} (h : (bif YV d then some (([] : List SX), SV.agg ((cs.drop off).take n)) else
   (match (cs.drop off) with | c :: _ => some ([], .one c) | [] => none)) = some r) :
  r.2.den S ρ = (if YV d then .agg (((cs.map (SC.den S ρ)).drop off).take n).toArray else ((cs.map (SC.den S ρ)).drop off).getD 0 undef) /\ (YV d = false -> off < cs.length) := by
 cases hag : YV d
 ·rw [hag] at h
  simp only [cond_false] at h
  split at h
  ·rename_i c l hc
   cases h
   refine ⟨?_, fun _ => ?_⟩
   ·rw [<- List.map_drop, hc]; rfl
   ·rcases ZJh off cs.length with hlt | hge
    ·exact hlt
    ·rw [List.drop_eq_nil_of_le hge] at hc; cases hc
  ·cases h
 ·rw [hag] at h; cases h
  refine ⟨?_, fun h => by cases h⟩
  simp [SV.den, List.map_take, List.map_drop]
theorem Zi {k : IntKind} {n : Int} {y : Nat} {code : BoundsCode} (h0 : 0 <= n) (h1 : n <= y) (w : World) : (Instr.sliceBound (.int k n) y code).run P w = .ok n.toNat w := by
 simp [Instr.sliceBound, asIntOf, h0, h1]
theorem Z6 {sv : SV} {e : SX} {v : Value} (h : Zdi sv = some e) (hr : sv.R S ρ v) : ∃ k, v = .int k (e.den S ρ).tI := by
 unfold Zdi at h
 split at h
 ·cases h; exact ⟨_, R_one S ρ hr⟩
 ·cases h
theorem Zay {L : Operand -> SV} {ev : Operand -> Value} (hL : ∀ x, (L x).R S ρ (ev x)) {x : Option Operand} {r : Option SX} (h : Ze6 L x = some r) :
  (x = none /\ r = none /\ x.map ev = none) \/ ∃ o e k, x = some o /\ r = some e /\ x.map ev = some (.int k (e.den S ρ).tI) := by
 unfold Ze6 at h
 split at h
 ·cases h; exact .inl ⟨rfl, rfl, rfl⟩
 ·rename_i o
  split at h
  ·rename_i e he
   cases h
   obtain ⟨k, hk⟩ := Z6 S ρ he (hL o)
   exact .inr ⟨o, e, k, rfl, rfl, by simp [hk]⟩
  ·cases h
theorem YR {lo hi mx : Option Value} {l h m : Nat} {len cap : Nat} {b : Bool} {k1 k2 k3 : IntKind} {x1 x2 x3 : Int}
  (hm : (mx = none /\ m = cap) \/ (mx = some (.int k3 x3) /\ 0 <= x3 /\ x3 <= cap /\ m = x3.toNat))
  (hh : (hi = none /\ mx = none /\ h = len) \/ (hi = some (.int k2 x2) /\ 0 <= x2 /\ x2 <= m /\ h = x2.toNat))
  (hl : (lo = none /\ l = 0) \/ (lo = some (.int k1 x1) /\ 0 <= x1 /\ x1 <= h /\ l = x1.toNat)) (w : World) :
  (Instr.sliceBounds b len cap lo hi mx).run P w = .ok (l, h, m) w := by
 unfold Instr.sliceBounds
 rcases hm with ⟨rfl, rfl⟩ | ⟨rfl, m1, m2, rfl⟩
 ·rcases hh with ⟨rfl, _, rfl⟩ | ⟨rfl, h1, h2, rfl⟩
  ·rcases hl with ⟨rfl, rfl⟩ | ⟨rfl, l1, l2, rfl⟩
   ·rfl
   ·simp [Zi l1 l2]
  ·rcases hl with ⟨rfl, rfl⟩ | ⟨rfl, l1, l2, rfl⟩
   ·simp [Zi h1 h2]
   ·simp [Zi h1 h2, Zi l1 l2]
 ·rcases hh with ⟨rfl, hc, rfl⟩ | ⟨rfl, h1, h2, rfl⟩
  ·cases hc
  ·rcases hl with ⟨rfl, rfl⟩ | ⟨rfl, l1, l2, rfl⟩
   ·simp [Zi m1 m2, Zi h1 h2]
   ·simp [Zi m1 m2, Zi h1 h2, Zi l1 l2]
theorem ZAn (c z k : SX) : ((ite0 c z k).den S ρ).tI = if (c.den S ρ).tI = 0 then (z.den S ρ).tI else (k.den S ρ).tI := by
 unfold ite0
 cases h : SX.bq z k
 ·simp only [cond_false, SX.mk3_den, SX.mk2_den, SX.den, ap2, ap3, U.tIi, U.tQi, beq_iff_eq]
 ·rw [SX.bq_eq h]; simp
theorem Zcb {asm : List SX} (ha : ∀ x ∈ asm, (x.den S ρ).tP) {x : Option SX} {up : SX} {ns : List SX} (h : ∀ e ∈ bnd asm x up ns, (e.den S ρ).tP) :
  (x = none \/ ∃ q, x = some q /\ 0 <= (q.den S ρ).tI /\ (q.den S ρ).tI <= (up.den S ρ).tI) /\ ∀ e ∈ ns, (e.den S ρ).tP := by
 unfold bnd at h
 split at h
 ·rename_i q
  obtain ⟨h1, h⟩ := Za S ρ ha h
  obtain ⟨h2, h⟩ := Za S ρ ha h
  rw [eLe_den] at h1 h2
  exact ⟨.inr ⟨q, rfl, h1, h2⟩, h⟩
 ·exact ⟨.inl rfl, h⟩
theorem Zlb {asm : List SX} (ha : ∀ x ∈ asm, (x.den S ρ).tP) {L : Operand -> SV} {ev : Operand -> Value} (hL : ∀ x, (L x).R S ρ (ev x))
  {t e : TypeId} {s : Nat} (ht : P.underlying t = some (.slice e)) (hsz : Za9 P e = some s) {b o k z l c : SX} {lo hi mx : Option Operand} {lo' hi' mx' : Option SX}
  (hlo : Ze6 L lo = some lo') (hhi : Ze6 L hi = some hi') (hmx : Ze6 L mx = some mx') (hok : mx'.isSome = true -> hi'.isSome = true)
  (hns : ∀ x ∈ (ZjX asm b o k z l c s lo' hi' mx').1, (x.den S ρ).tP) (w : World) :
  (Instr.sliceAt t (SC.den S ρ (.slice b o k z l c s)) (lo.map ev) (hi.map ev) (mx.map ev)).run P w = .ok ((ZjX asm b o k z l c s lo' hi' mx').2.den S ρ) w := by
 have e1 : ∀ x lo hi mx, (Instr.sliceAt t x lo hi mx).run P w = (Instr.slice t x lo hi mx).run P w := fun x lo hi mx => by
  unfold Instr.sliceAt; simp [run_underlying ht]
 rw [e1]
 unfold ZjX at hns ⊢
 simp only at hns ⊢
 obtain ⟨hl0, hns⟩ := Za S ρ ha hns
 obtain ⟨hc0, hns⟩ := Za S ρ ha hns
 obtain ⟨hk0, hns⟩ := Za S ρ ha hns
 obtain ⟨hblo, hns⟩ := Zcb S ρ ha hns
 obtain ⟨hbhi, hns⟩ := Zcb S ρ ha hns
 obtain ⟨hbmx, hns⟩ := Zcb S ρ ha hns
 have hlc : hi' = none -> (l.den S ρ).tI <= (c.den S ρ).tI := fun hn => by
  subst hn
  obtain ⟨h1, _⟩ := Za S ρ ha hns
  exact (eLe_den S ρ _ _).1 h1
 rw [eLe_den] at hl0 hc0 hk0
 simp only [SX.den, U.tIi] at hl0 hc0 hk0
 generalize hbb : (if (b.den S ρ).tI < 0 then none else some (⟨(b.den S ρ).tI.toNat, (o.den S ρ).tI.toNat + (if (c.den S ρ).tI = 0 then (z.den S ρ).tI else (k.den S ρ).tI).toNat * s, none⟩ : Addr)) = bb
 have hSC : SC.den S ρ (.slice b o k z l c s) = .slice bb (l.den S ρ).tI.toNat (c.den S ρ).tI.toNat := by simp only [SC.den]; rw [hbb]
 rw [hSC]
 have hMint : 0 <= ((orE mx' c).den S ρ).tI /\ ((orE mx' c).den S ρ).tI <= (c.den S ρ).tI := by
  rcases hbmx with rfl | ⟨q, rfl, h1, h2⟩
  ·exact ⟨hc0, ZJy _⟩
  ·exact ⟨h1, h2⟩
 have hHint : 0 <= ((orE hi' l).den S ρ).tI := by
  rcases hbhi with rfl | ⟨q, rfl, h1, h2⟩
  ·exact hl0
  ·exact h1
 have hLint : 0 <= ((orE lo' (.int 0)).den S ρ).tI /\ ((orE lo' (.int 0)).den S ρ).tI <= ((orE hi' l).den S ρ).tI := by
  rcases hblo with rfl | ⟨q, rfl, h1, h2⟩
  ·exact ⟨ZJy _, hHint⟩
  ·exact ⟨h1, h2⟩
 have key : ∃ k1 k2 k3 x1 x2 x3, ((mx.map ev = none /\ ((orE mx' c).den S ρ).tI.toNat = (c.den S ρ).tI.toNat) \/ (mx.map ev = some (.int k3 x3) /\ 0 <= x3 /\ x3 <= (c.den S ρ).tI.toNat /\ ((orE mx' c).den S ρ).tI.toNat = x3.toNat)) ∧
   ((hi.map ev = none /\ mx.map ev = none /\ ((orE hi' l).den S ρ).tI.toNat = (l.den S ρ).tI.toNat) \/ (hi.map ev = some (.int k2 x2) /\ 0 <= x2 /\ x2 <= (((orE mx' c).den S ρ).tI.toNat : Nat) /\ ((orE hi' l).den S ρ).tI.toNat = x2.toNat)) ∧
   ((lo.map ev = none /\ ((orE lo' (.int 0)).den S ρ).tI.toNat = 0) \/ (lo.map ev = some (.int k1 x1) /\ 0 <= x1 /\ x1 <= (((orE hi' l).den S ρ).tI.toNat : Nat) /\ ((orE lo' (.int 0)).den S ρ).tI.toNat = x1.toNat)) := by
  obtain ⟨k3, x3, h3⟩ : ∃ k3 x3, ((mx.map ev = none /\ mx' = none /\ ((orE mx' c).den S ρ).tI.toNat = (c.den S ρ).tI.toNat) \/ (mx.map ev = some (.int k3 x3) /\ mx'.isSome = true /\ 0 <= x3 /\ x3 <= (c.den S ρ).tI.toNat /\ ((orE mx' c).den S ρ).tI.toNat = x3.toNat)) := by
   rcases Zay S ρ hL hmx with ⟨rfl, rfl, h3⟩ | ⟨q, x, k3, rfl, rfl, h3⟩
   ·exact ⟨.i64, 0, .inl ⟨h3, rfl, rfl⟩⟩
   ·refine ⟨k3, _, .inr ⟨h3, rfl, ?_, ?_, rfl⟩⟩
    ·rcases hbmx with hc | ⟨q', hq, h1, h2⟩
     ·cases hc
     ·cases hq; exact h1
    ·rcases hbmx with hc | ⟨q', hq, h1, h2⟩
     ·cases hc
     ·cases hq; omega
  obtain ⟨k2, x2, h2⟩ : ∃ k2 x2, ((hi.map ev = none /\ hi' = none /\ ((orE hi' l).den S ρ).tI.toNat = (l.den S ρ).tI.toNat) \/ (hi.map ev = some (.int k2 x2) /\ 0 <= x2 /\ x2 <= (((orE mx' c).den S ρ).tI.toNat : Nat) /\ ((orE hi' l).den S ρ).tI.toNat = x2.toNat)) := by
   rcases Zay S ρ hL hhi with ⟨rfl, rfl, h3⟩ | ⟨q, x, k2, rfl, rfl, h3⟩
   ·exact ⟨.i64, 0, .inl ⟨h3, rfl, rfl⟩⟩
   ·refine ⟨k2, _, .inr ⟨h3, ?_, ?_, rfl⟩⟩
    ·rcases hbhi with hc | ⟨q', hq, h1, h2⟩
     ·cases hc
     ·cases hq; exact h1
    ·rcases hbhi with hc | ⟨q', hq, h1, h2⟩
     ·cases hc
     ·cases hq; omega
  obtain ⟨k1, x1, h1⟩ : ∃ k1 x1, ((lo.map ev = none /\ ((orE lo' (.int 0)).den S ρ).tI.toNat = 0) \/ (lo.map ev = some (.int k1 x1) /\ 0 <= x1 /\ x1 <= (((orE hi' l).den S ρ).tI.toNat : Nat) /\ ((orE lo' (.int 0)).den S ρ).tI.toNat = x1.toNat)) := by
   rcases Zay S ρ hL hlo with ⟨rfl, rfl, h3⟩ | ⟨q, x, k1, rfl, rfl, h3⟩
   ·exact ⟨.i64, 0, .inl ⟨h3, rfl⟩⟩
   ·refine ⟨k1, _, .inr ⟨h3, ?_, ?_, rfl⟩⟩
    ·rcases hblo with hc | ⟨q', hq, h1, h2⟩
     ·cases hc
     ·cases hq; exact h1
    ·rcases hblo with hc | ⟨q', hq, h1, h2⟩
     ·cases hc
     ·cases hq; omega
  refine ⟨k1, k2, k3, x1, x2, x3, ?_, ?_, h1⟩
  ·rcases h3 with ⟨a, _, c⟩ | ⟨a, _, c⟩
   ·exact .inl ⟨a, c⟩
   ·exact .inr ⟨a, c⟩
  ·rcases h2 with ⟨a, b', c⟩ | h2
   ·refine .inl ⟨a, ?_, c⟩
    rcases h3 with ⟨a3, _, _⟩ | ⟨_, b3, _⟩
    ·exact a3
    ·exfalso; have := hok b3; rw [b'] at this; cases this
   ·exact .inr h2
 obtain ⟨k1, k2, k3, x1, x2, x3, hm, hh, hl⟩ := key
 have hB := YR (P := P) (b := true) hm hh hl w
 have hrun : (Instr.slice t (.slice bb (l.den S ρ).tI.toNat (c.den S ρ).tI.toNat) (lo.map ev) (hi.map ev) (mx.map ev)).run P w =
   .ok (.slice (if ((orE mx' c).den S ρ).tI.toNat = ((orE lo' (.int 0)).den S ρ).tI.toNat then bb else bb.map (·.add (((orE lo' (.int 0)).den S ρ).tI.toNat * s)))
    (((orE hi' l).den S ρ).tI.toNat - ((orE lo' (.int 0)).den S ρ).tI.toNat) (((orE mx' c).den S ρ).tI.toNat - ((orE lo' (.int 0)).den S ρ).tI.toNat)) w := by
  simp [Instr.slice, run_underlying ht, hB, Zm hsz]
 rw [hrun]
 simp only [SV.den, SC.den]
 rw [ZAn, Zaa, Zae, Zae]
 have hHM : ((orE hi' l).den S ρ).tI <= ((orE mx' c).den S ρ).tI := by
  rcases hbhi with rfl | ⟨q, rfl, h1, h2⟩
  ·cases mx' with
   | none => exact hlc rfl
   | some m => have := hok rfl; cases this
  ·exact h2
 clear hrun hB hm hh hl hblo hbhi hbmx hlc
 obtain ⟨hM1, hM2⟩ := hMint
 obtain ⟨hL1, hL2⟩ := hLint
 generalize ((orE mx' c).den S ρ).tI = M at hM1 hM2 hHM ⊢
 generalize ((orE hi' l).den S ρ).tI = H at hHint hL2 hHM ⊢
 generalize ((orE lo' (.int 0)).den S ρ).tI = LO at hL1 hL2 ⊢
 congr 1
 rw [show (H - LO).toNat = H.toNat - LO.toNat by omega, show (M - LO).toNat = M.toNat - LO.toNat by omega]
 congr 1
 subst hbb
 by_cases hneg : (b.den S ρ).tI < 0
 ·simp [hneg]
 ·simp only [hneg, if_false, Option.map_some]
  by_cases hML : M - LO = 0
  ·rw [if_pos (show M.toNat = LO.toNat by omega), if_pos hML]
  ·rw [if_neg (show ¬ M.toNat = LO.toNat by omega), if_neg hML, Addr.add_eq]
   rw [if_neg (show ¬ (c.den S ρ).tI = 0 by omega)]
   congr 2
   rw [show ((k.den S ρ).tI + LO).toNat = (k.den S ρ).tI.toNat + LO.toNat by omega, Nat.add_mul]
   omega
end
end
end Go.Eng
