/- Part of a proof. -/
import Derived.Test.YtlcfjjjdhdfbdaaGreatPs5
set_option linter.unusedSimpArgs false
set_option linter.unusedVariables false
set_option maxRecDepth 20000
namespace Go.Proofs.YtlcfjjjdhdfbdaaGreat
noncomputable section
open Go.Eng
theorem GoodC.evict {c : Cs} (h : GoodC c) : GoodC c.evict := by
 have g := h.gone ((c.old : Nat) : Int)
 have hc := h.cnt
 exact ⟨g.frames, g.len, g.nod, g.pins, ⟨hc.1, hc.2.1, show 0 <= c.evic + 1 by omega⟩, g.b⟩
section
variable {c : Cs} {d : Dv} {is pins : List Int} {i : Int}
end
end
end Go.Proofs.YtlcfjjjdhdfbdaaGreat
namespace Go.Proofs.YtlcfjjjdhdfbdaaGreat
noncomputable section
open Go.Eng
theorem GoodC.addF {c : Cs} (g : GoodC c) (hl : (c.fr.length : Int) < c.frames) {f : Fr} (hn : ∀ x ∈ c.fr, x.n ≠ f.n) (hp : 0 <= f.pins) (hb : f.b.length <= 65536) : GoodC (c.add f) := by
 refine ⟨g.frames, ?_, ?_, ?_, g.cnt, ?_⟩
 ·show ((c.fr ++ [_]).length : Int) <= c.frames
  rw [ZUo]; show ((c.fr.length + 1 : Nat) : Int) <= _; omega
 ·show ((c.fr ++ [f]).map (fun f : Fr => f.n)).Nodup
  rw [ZUz, List.nodup_append]
  refine ⟨g.nod, by simp, ?_⟩
  intro a ha b hb e
  obtain ⟨x, hx, hxe⟩ := List.mem_map.1 ha
  have hb : b = f.n := by simpa using hb
  exact hn x hx (by rw [hxe, e, hb])
 ·intro x hx
  rcases Zds.1 hx with e | e
  ·rw [e]; exact hp
  ·exact g.pins x e
 ·intro x hx
  rcases Zds.1 hx with e | e
  ·rw [e]; exact hb
  ·exact g.b x e
section
variable {c : Cs} {d : Dv} {is pins : List Int} {i : Int}
end
end
end Go.Proofs.YtlcfjjjdhdfbdaaGreat
namespace Go.Proofs.YtlcfjjjdhdfbdaaGreat
noncomputable section
open Go.Eng
def cntK (pins : List Int) (k : Int) : Nat := ((List.range k.toNat).filter fun j => decide (0 < pins.getD j 0)).length
section
variable {c : Cs} {d : Dv} {is pins : List Int}
end
def ansOk (c : Cs) (e b : Int) : Prop := e = 0 \/ e = 30 /\ b = 0 \/ e = 40 /\ c.stuck
structure TlSig (S : Sig GG) : Prop where
 cs : CsSig S
 u320 : ∀ a b c d, S.usr 320 a b c d = .bool (Zz (Tell (Zn a) (Zk b) c.tN d.tN))
 u321 : ∀ a b c d, S.usr 321 a b c d = .bool (Zz (Cnt (Zn a) (Zk b) c.tI c.tI))
 u322 : ∀ a b c d, S.usr 322 a b c d = .int (cntK a.tN b.tI : Nat)
 u323 : ∀ a b c d, S.usr 323 a b c d = .bool (Zz (ansOk (Zn a) b.tI c.tI))
end
end Go.Proofs.YtlcfjjjdhdfbdaaGreat
namespace Go.Proofs.YtlcfjjjdhdfbdaaGreat
noncomputable section
open Go.Eng
structure BndD (d : Dv) (n : Int) : Prop where
 r : d.rd <= n
 s : d.sy <= n
 w : d.wr <= 4097 * n
 l : (d.w.length : Int) <= 4097 * n
 k : (d.keep.length : Int) <= 1099511627776
structure BndC (c : Cs) (n : Int) : Prop where
 h : c.hits <= n
 m : c.misses <= n
 e : c.evic <= n
 p : ∀ f ∈ c.fr, f.pins <= n
 g : ∀ f ∈ c.fr, 0 <= f.n /\ f.n < 65536
structure MorD (d e : Dv) (i j : Int) : Prop where
 r : e.rd <= d.rd + i
 s : e.sy <= d.sy + i
 w : e.wr <= d.wr + j
 l : (e.w.length : Int) <= d.w.length + j
 k : e.keep = d.keep
theorem MorD.bnd {d e : Dv} {i j n : Int} (h : MorD d e i j) (k : BndD d n) (h1 : i <= 1) (h2 : j <= 4097) : BndD e (n + 1) := by
 obtain ⟨a1, a2, a3, a4, a5⟩ := h
 obtain ⟨b1, b2, b3, b4, b5⟩ := k
 exact ⟨by omega, by omega, by omega, by omega, by rw [a5]; exact b5⟩
theorem MorD.refl (d : Dv) {i j : Int} (h1 : 0 <= i) (h2 : 0 <= j) : MorD d d i j := ⟨by omega, by omega, by omega, by omega, rfl⟩
theorem MorD.trans {d e f : Dv} {i j k l : Int} (h : MorD d e i j) (g : MorD e f k l) : MorD d f (i + k) (j + l) := by
 obtain ⟨a1, a2, a3, a4, a5⟩ := h
 obtain ⟨b1, b2, b3, b4, b5⟩ := g
 exact ⟨by omega, by omega, by omega, by omega, b5.trans a5⟩
theorem ZTt (d : Dv) (n : Int) : MorD d (d.rdD n) 1 0 := by
 unfold Dv.rdD
 split
 ·exact MorD.refl d (by decide) (by decide)
 ·exact ⟨ZUu _, by show d.sy <= d.sy + 1; omega, by show d.wr <= d.wr + 0; omega, by show (d.w.length : Int) <= d.w.length + 0; omega, rfl⟩
theorem ZwP (d : Dv) (n : Int) (x : List UInt8) : MorD d (d.wrD n x) 0 1 := by
 have hw : MorD d (d.writ n x) 0 1 := by
  have hl : ((d.w ++ [(n, x)]).length : Int) = d.w.length + 1 := by rw [ZUo]; rfl
  unfold Dv.writ
  dsimp only
  split
  ·exact ⟨by show d.rd <= d.rd + 0; omega, by show d.sy <= d.sy + 0; omega, ZUu _, by show ((0 : Nat) : Int) <= d.w.length + 1; omega, rfl⟩
  ·exact ⟨by show d.rd <= d.rd + 0; omega, by show d.sy <= d.sy + 0; omega, ZUu _, by show ((d.w ++ [(n, x)]).length : Int) <= d.w.length + 1; omega, rfl⟩
 unfold Dv.wrD
 split
 ·exact MorD.refl d (by decide) (by decide)
 ·split
  ·exact MorD.refl d (by decide) (by decide)
  ·exact hw
theorem ZFj (d : Dv) : MorD d d.sync 1 0 := by
 unfold Dv.sync
 split
 ·exact MorD.refl d (by decide) (by decide)
 ·dsimp only
  split
  ·exact ⟨by show d.rd <= d.rd + 1; omega, ZUu _, by show d.wr <= d.wr + 0; omega, by show ((0 : Nat) : Int) <= d.w.length + 0; omega, rfl⟩
  ·exact ⟨by show d.rd <= d.rd + 1; omega, ZUu _, by show d.wr <= d.wr + 0; omega, by show ((0 : Nat) : Int) <= d.w.length + 0; omega, rfl⟩
theorem ZHY {d : Dv} {n : Int} (k : BndD d n) (p : Int) (x : List UInt8) : BndD (d.wrD p x) (n + 1) := (ZwP d p x).bnd k (by decide) (by decide)
theorem Zp3 {d : Dv} {n : Int} (k : BndD d n) : BndD d.sync (n + 1) := (ZFj d).bnd k (by decide) (by decide)
theorem Zaf {d : Dv} {n : Int} (k : BndD d n) : BndD d (n + 1) := (MorD.refl d (by decide) (by decide)).bnd k (ZUu 1) (ZUu 4097)
theorem ZkB {d : Dv} {n : Int} (k : BndD d n) : BndD d.start (n + 1) := by
 obtain ⟨b1, b2, b3, b4, b5⟩ := Zaf k
 exact ⟨b1, b2, b3, b4, b5⟩
theorem ZvV {d : Dv} {n : Int} (k : BndD d n) (m : Int) (l : List Int) (t a : Int) (hl : (l.length : Int) <= 1099511627776) : BndD (d.arm m l t a) (n + 1) := by
 obtain ⟨b1, b2, b3, b4, b5⟩ := Zaf k
 unfold Dv.arm
 split
 ·exact ⟨b1, b2, b3, b4, b5⟩
 ·exact ⟨b1, b2, b3, b4, hl⟩
theorem Zb0 {c : Cs} {i : Int} {f : Fr} (h : f ∈ (c.gone i).fr) : f ∈ c.fr := by
 rcases List.mem_append.1 h with h | h
 ·exact List.mem_of_mem_take h
 ·exact List.mem_of_mem_drop h
theorem ZqE (c : Cs) (d : Dv) : MorD d (c.roomD d) 0 1 := by
 unfold Cs.roomD
 split
 ·exact MorD.refl d (by decide) (by decide)
 ·split
  ·exact ZwP d _ _
  ·exact MorD.refl d (by decide) (by decide)
structure MorC (c x : Cs) (i : Int) : Prop where
 h : x.hits <= c.hits + i
 m : x.misses <= c.misses + i
 e : x.evic <= c.evic + i
 p : ∀ f ∈ x.fr, (∃ g ∈ c.fr, f.n = g.n /\ f.pins <= g.pins + i) \/ 0 <= f.n /\ f.n < 65536 /\ f.pins <= i
theorem MorC.bnd {c e : Cs} {i n : Int} (h : MorC c e i) (k : BndC c n) (n0 : 0 <= n) (h1 : i <= 1) : BndC e (n + 1) := by
 obtain ⟨a1, a2, a3, a4⟩ := h
 obtain ⟨b1, b2, b3, b4, b5⟩ := k
 refine ⟨by omega, by omega, by omega, fun f hf => ?_, fun f hf => ?_⟩
 ·rcases a4 f hf with ⟨g, hg, q1, q2⟩ | q
  ·have := b4 g hg; omega
  ·omega
 ·rcases a4 f hf with ⟨g, hg, q1, q2⟩ | q
  ·have := b5 g hg; rw [q1]; exact this
  ·exact ⟨q.1, q.2.1⟩
theorem MorC.sub {c e : Cs} {i : Int} (i0 : 0 <= i) (h1 : e.hits <= c.hits + i) (h2 : e.misses <= c.misses + i) (h3 : e.evic <= c.evic + i) (h : ∀ f ∈ e.fr, f ∈ c.fr) : MorC c e i :=
 ⟨h1, h2, h3, fun f hf => .inl ⟨f, h f hf, rfl, by omega⟩⟩
theorem MorC.refl (c : Cs) {i : Int} (i0 : 0 <= i) : MorC c c i := .sub i0 (by omega) (by omega) (by omega) fun _ h => h
theorem ZCR (c : Cs) (d : Dv) : (c.roomC d).hits = c.hits /\ (c.roomC d).misses = c.misses /\ (c.roomC d).evic <= c.evic + 1 /\ ∀ f ∈ (c.roomC d).fr, f ∈ c.fr := by
 unfold Cs.roomC
 split
 ·exact ⟨rfl, rfl, by omega, fun _ h => h⟩
 ·split
  ·exact ⟨rfl, rfl, by omega, fun _ h => h⟩
  ·exact ⟨rfl, rfl, ZUu _, fun f h => Zb0 h⟩
theorem ZlL {c : Cs} {n : Int} (h : c.hit n) {f : Fr} (hf : f ∈ (c.touch (c.idx n : Nat)).fr) : f ∈ c.fr := by
 rcases Zds.1 hf with rfl | hf
 ·exact Y2 h
 ·exact Zb0 hf
theorem ZIC {d : Dv} {n : Int} (g : GoodD d) (h : d.ref n = 0) : 0 <= n /\ n < 65536 := by
 have hp := g.pages
 unfold Dv.ref at h
 cases hd : d.down
 ·rw [hd] at h
  have h : (if n < 0 \/ d.pages <= n then (30 : Int) else 0) = 0 := h
  by_cases q : n < 0 \/ d.pages <= n
  ·rw [if_pos q] at h; exact absurd h (by decide)
  ·omega
 ·rw [hd] at h; exact absurd (show (3 : Int) = 0 from h) (by decide)
theorem Zjl {c : Cs} {d : Dv} (g : GoodD d) (n : Int) : MorC c (c.holdC d n) 1 /\ MorD d (c.holdD d n) 1 1 := by
 constructor
 ·unfold Cs.holdC
  split
  ·rename_i h
   exact .sub (by decide) (ZUu _) (by show c.misses <= c.misses + 1; omega) (by show c.evic <= c.evic + 1; omega) fun f hf => ZlL h hf
  ·split
   ·exact .refl c (by decide)
   ·rename_i h1 h2
    obtain ⟨r1, r2, r3, r4⟩ := ZCR c (d.rdD n)
    split
    ·exact .sub (by decide) (by omega) (by omega) (by omega) r4
    ·refine ⟨by show (c.roomC (d.rdD n)).hits <= _; omega, by show (c.roomC (d.rdD n)).misses + 1 <= _; omega, by show (c.roomC (d.rdD n)).evic <= _; omega, fun f hf => ?_⟩
     rcases Zds.1 hf with rfl | hf
     ·have := ZIC (n := n) g (by
       by_cases q : d.ref n = 0
       ·exact q
       ·exact absurd (.inr q) h2)
      exact .inr ⟨this.1, this.2, by show (0 : Int) <= 1; decide⟩
     ·exact .inl ⟨f, r4 f hf, rfl, by omega⟩
 ·unfold Cs.holdD
  split
  ·exact MorD.refl d (by decide) (by decide)
  ·exact (ZTt d n).trans (ZqE c (d.rdD n))
theorem Zjt {c : Cs} {d : Dv} {m : Int} (g : GoodD d) (n0 : 0 <= m) (k : BndC c m) (l : BndD d m) (n : Int) : BndC (c.holdC d n) (m + 1) /\ BndD (c.holdD d n) (m + 1) :=
 ⟨(Zjl g n).1.bnd k n0 (by decide), (Zjl (c := c) g n).2.bnd l (by decide) (by decide)⟩
theorem ZyH {c : Cs} {d : Dv} {n : Int} (h : c.holdE d n = 0) : ((c.holdC d n).fr.length : Int) + -1 = (((c.holdC d n).fr.length - 1 : Nat) : Int) /\ (c.holdC d n).fr.length - 1 < (c.holdC d n).fr.length /\ (c.hit n -> (c.holdC d n) = c.hitC n) /\ (¬ c.hit n -> (c.holdC d n) = (c.roomC (d.rdD n)).came n (d.rdB n)) := by
 unfold Cs.holdE at h
 by_cases q : c.hit n
 ·have e : c.holdC d n = c.hitC n := if_pos q
  have hl : 0 < (c.hitC n).fr.length := by
   show 0 < ((c.gone (c.idx n : Nat)).fr ++ [c.at' (c.idx n : Nat)]).length
   rw [ZUo]; show 0 < _ + 1; omega
  rw [e]
  exact ⟨by omega, by omega, fun _ => rfl, fun h => absurd q h⟩
 ·rw [if_neg q] at h
  by_cases q2 : c.stuck
  ·rw [if_pos q2] at h; exact absurd h (by decide)
  rw [if_neg q2] at h
  by_cases q3 : d.ref n ≠ 0
  ·rw [if_pos q3] at h; exact absurd h q3
  rw [if_neg q3] at h
  have e : c.holdC d n = (c.roomC (d.rdD n)).came n (d.rdB n) := by
   unfold Cs.holdC
   rw [if_neg q, if_neg (fun x => x.elim q2 q3), if_neg (fun x => x h)]
  have hl : 0 < ((c.roomC (d.rdD n)).came n (d.rdB n)).fr.length := by
   show 0 < ((c.roomC (d.rdD n)).fr ++ [_]).length
   rw [ZUo]; show 0 < _ + 1; omega
  rw [e]
  exact ⟨by omega, by omega, fun h => absurd h q, fun _ => rfl⟩
theorem ZM6 {c : Cs} {d : Dv} (g : GoodD d) (n : Int) : MorC c (c.pinC d n) 1 := by
 have hm := (Zjl (c := c) g n).1
 unfold Cs.pinC
 split
 ·rename_i h
  obtain ⟨e1, e2, e3, e4⟩ := ZyH h
  rw [e1]
  have hb : ∀ f ∈ (c.holdC d n).fr, (∃ x ∈ c.fr, f.n = x.n /\ f.pins <= x.pins) \/ 0 <= f.n /\ f.n < 65536 /\ f.pins <= 0 := by
   intro f hf
   by_cases q : c.hit n
   ·rw [e3 q] at hf
    exact .inl ⟨f, ZlL q hf, rfl, ZUu _⟩
   ·rw [e4 q] at hf
    rcases Zds.1 hf with rfl | hf
    ·have hr : d.ref n = 0 := by
      unfold Cs.holdE at h
      rw [if_neg q] at h
      by_cases q2 : c.stuck
      ·rw [if_pos q2] at h; exact absurd h (by decide)
      ·rw [if_neg q2] at h
       by_cases q3 : d.ref n ≠ 0
       ·rw [if_pos q3] at h; exact h
       ·exact Classical.not_not.1 q3
     have := ZIC g hr
     exact .inr ⟨this.1, this.2, ZUu _⟩
    ·exact .inl ⟨f, (ZCR c _).2.2.2 f hf, rfl, ZUu _⟩
  refine ⟨hm.h, hm.m, hm.e, fun f hf => ?_⟩
  rcases Zny.1 hf with rfl | hf
  ·rcases hb _ (Y2 e2) with ⟨x, hx, q1, q2⟩ | ⟨q1, q2, q3⟩
   ·exact .inl ⟨x, hx, q1, by show _ + 1 <= x.pins + 1; omega⟩
   ·exact .inr ⟨q1, q2, by show _ + 1 <= (1 : Int); omega⟩
  ·exact hm.p f (Zb0 hf)
 ·exact hm
theorem ZKs {c : Cs} {d : Dv} {m : Int} (g : GoodD d) (n0 : 0 <= m) (k : BndC c m) (n : Int) : BndC (c.pinC d n) (m + 1) := (ZM6 g n).bnd k n0 (by decide)
theorem ZJx {c : Cs} {m : Int} (n0 : 0 <= m) (k : BndC c m) (n : Int) : BndC (c.unpC n) (m + 1) := by
 refine MorC.bnd (c := c) (i := 1) ?_ k n0 (by decide)
 unfold Cs.unpC
 split
 ·rename_i h
  refine ⟨by show c.hits <= c.hits + 1; omega, by show c.misses <= c.misses + 1; omega, by show c.evic <= c.evic + 1; omega, fun f hf => ?_⟩
  rcases Zny.1 hf with rfl | hf
  ·exact .inl ⟨_, Y2 h.1, rfl, by show _ + -1 <= _; omega⟩
  ·exact .inl ⟨f, Zb0 hf, rfl, by omega⟩
 ·exact .refl c (by decide)
theorem Zed {c : Cs} {m : Int} (n0 : 0 <= m) (k : BndC c m) : BndC c (m + 1) := (MorC.refl c (i := 1) (by decide)).bnd k n0 (by decide)
theorem ZFa {c : Cs} {m : Int} (n0 : 0 <= m) (k : BndC c m) (n : Int) : BndC (c.dropC n) (m + 1) := by
 refine MorC.bnd (c := c) (i := 1) ?_ k n0 (by decide)
 unfold Cs.dropC
 split
 ·exact .sub (by decide) (by show c.hits <= c.hits + 1; omega) (by show c.misses <= c.misses + 1; omega) (by show c.evic <= c.evic + 1; omega) fun f hf => Zb0 hf
 ·exact .refl c (by decide)
theorem ZKR {c : Cs} {d : Dv} {m : Int} (g : GoodD d) (n0 : 0 <= m) (k : BndC c m) (l : BndD d m) (n : Int) (b : List UInt8) : BndC (c.putC d n b) (m + 1) /\ BndD (c.putD d n b) (m + 1) := by
 have hp := g.pages
 constructor
 ·refine MorC.bnd (c := c) (i := 1) ?_ k n0 (by decide)
  unfold Cs.putC
  split
  ·exact .refl c (by decide)
  ·rename_i hb
   have hn : 0 <= n /\ n < 65536 := by
    unfold Cs.bad at hb
    omega
   split
   ·rename_i h
    refine ⟨by show c.hits <= c.hits + 1; omega, by show c.misses <= c.misses + 1; omega, by show c.evic <= c.evic + 1; omega, fun f hf => ?_⟩
    rcases Zds.1 hf with rfl | hf
    ·exact .inl ⟨_, Y2 h, rfl, by show (c.at' (c.idx n : Nat)).pins <= (c.at' (c.idx n : Nat)).pins + 1; omega⟩
    ·exact .inl ⟨f, Zb0 hf, rfl, by omega⟩
   ·obtain ⟨r1, r2, r3, r4⟩ := ZCR c d
    split
    ·exact .sub (by decide) (by omega) (by omega) (by omega) r4
    ·refine ⟨by show (c.roomC d).hits <= _; omega, by show (c.roomC d).misses <= _; omega, by show (c.roomC d).evic <= _; omega, fun f hf => ?_⟩
     rcases Zds.1 hf with rfl | hf
     ·exact .inr ⟨hn.1, hn.2, by show (0 : Int) <= 1; decide⟩
     ·exact .inl ⟨f, r4 f hf, rfl, by omega⟩
 ·refine MorD.bnd (d := d) (i := 0) (j := 1) ?_ l (by decide) (by decide)
  unfold Cs.putD
  split
  ·exact MorD.refl d (by decide) (by decide)
  ·exact ZqE c d
theorem ZuX : ∀ (l : List Int) (c : Cs) (d : Dv), (∀ n ∈ l, c.hit n) -> (MorC c (flS l c d).1 0 /\ MorD d (flS l c d).2.1 0 l.length)
 | [], c, d, _ => ⟨.refl c (ZUu _), .refl d (ZUu _) (by show (0 : Int) <= ((0 : Nat) : Int); omega)⟩
 | n :: l, c, d, h => by
  have hh := h n ZUr
  have hl : (((n :: l).length : Nat) : Int) = (l.length : Int) + 1 := by rw [ZUD]; omega
  rw [ZaR, hl]
  cases hd : (c.at' (c.idx n : Nat)).dirty
  ·obtain ⟨a, b⟩ := ZuX l c d fun m hm => h m (ZUp _ hm)
   refine ⟨a, ?_⟩
   have := b.trans (MorD.refl (flS l c d).2.1 (i := 0) (j := 1) (by decide) (by decide))
   rw [Int.add_zero] at this
   exact this
  ·show MorC c (if d.wrE n (c.at' (c.idx n : Nat)).b = 0 then _ else _ : Cs × Dv × Int).1 0 /\ MorD d (if d.wrE n (c.at' (c.idx n : Nat)).b = 0 then _ else _ : Cs × Dv × Int).2.1 0 _
   have hw := ZwP d n (c.at' (c.idx n : Nat)).b
   split
   ·have hc : MorC c (c.clean (c.idx n : Nat)) 0 := by
     refine ⟨by show c.hits <= c.hits + 0; omega, by show c.misses <= c.misses + 0; omega, by show c.evic <= c.evic + 0; omega, fun f hf => ?_⟩
     rcases Zny.1 hf with rfl | hf
     ·exact .inl ⟨_, Y2 hh, rfl, by show (c.at' (c.idx n : Nat)).pins <= (c.at' (c.idx n : Nat)).pins + 0; omega⟩
     ·exact .inl ⟨f, Zb0 hf, rfl, by omega⟩
    have hmap : ((c.clean (c.idx n : Nat)).fr.map (·.n)) = c.fr.map (·.n) := by
     show ((c.fr.take ((c.idx n : Nat) : Int).toNat ++ _ :: c.fr.drop (((c.idx n : Nat) : Int).toNat + 1)).map (·.n)) = _
     rw [ZUq]
     conv => rhs; rw [ZkJ (i := c.idx n) hh]
     simp only [ZUz, ZUs]
    obtain ⟨a, b⟩ := ZuX l (c.clean (c.idx n : Nat)) (d.wrD n (c.at' (c.idx n : Nat)).b) fun m hm => by
     refine ZoL ?_
     rw [hmap]
     have := Y2 (h m (ZUp _ hm))
     have e := ZeK (h m (ZUp _ hm))
     exact List.mem_map.2 ⟨_, this, beq_iff_eq.1 e⟩
    refine ⟨⟨by have := a.h; have := hc.h; omega, by have := a.m; have := hc.m; omega, by have := a.e; have := hc.e; omega, fun f hf => ?_⟩, ?_⟩
    ·rcases a.p f hf with ⟨x, hx, q1, q2⟩ | q
     ·rcases hc.p x hx with ⟨y, hy, q3, q4⟩ | q
      ·exact .inl ⟨y, hy, q1.trans q3, by omega⟩
      ·exact .inr ⟨by omega, by omega, by omega⟩
     ·exact .inr q
    ·have := hw.trans b
     rw [show (l.length : Int) + 1 = 1 + l.length by omega]
     exact this
   ·refine ⟨.refl c (ZUu _), ?_⟩
    have := hw.trans (MorD.refl (d.wrD n (c.at' (c.idx n : Nat)).b) (i := 0) (j := l.length) (by decide) (by omega))
    rw [show (l.length : Int) + 1 = 1 + l.length by omega]
    exact this
theorem ZSi {c : Cs} {d : Dv} {m : Int} (g : GoodC c) (n0 : 0 <= m) (k : BndC c m) (l : BndD d m) : BndC (flS c.keys c d).1 (m + 1) /\ BndD (flS c.keys c d).2.1 (m + 1) := by
 have hl : c.keys.length = c.fr.length := by
  unfold Cs.keys sortK
  rw [(List.mergeSort_perm _ _).length_eq, ZUt]
 obtain ⟨a, b⟩ := ZuX c.keys c d fun n hn => ZoL (Zgv.1 hn)
 have g1 := g.frames
 have g2 := g.len
 rw [hl] at b
 exact ⟨a.bnd k n0 (by decide), b.bnd l (by decide) (by omega)⟩
theorem ZKY {p : Int} : BndD (Yx p) 0 := ⟨ZUu _, ZUu _, ZUu _, ZUu _, by show ((0 : Nat) : Int) <= _; decide⟩
theorem ZFe (f : Int) : BndC (Zbt f) 0 := ⟨ZUu _, ZUu _, ZUu _, fun f hf => (nomatch hf), fun f hf => (nomatch hf)⟩
def ZDg : Ctr := ⟨[.int, .g], [.one (.ptr (ai 0) 0)], [plC (ai 0) (gA 1)], [], [], .tup [], [plC (ai 0) (usG 218 (gA 1) z0 z0)], []⟩
def ZPR : Cx := { specs := [], anns := [(64, [(0, .ghost Zob [.tmp 0]), (999999, .ghost (ZeE [] [] (usG 218 (gA 1) z0 z0)) [.tmp 0])])] }
def ZAf : Ctr := ⟨[.int, .g], [.one (.ptr (ai 0) 0)], [plC (ai 0) (gA 1)], [], [], .agg [.int .i64 (usI 205 (gA 1) z0 z0), .int .i64 (usI 206 (gA 1) z0 z0), .int .i64 (usI 207 (gA 1) z0 z0)], [plC (ai 0) (gA 1)], []⟩
def ZT5 : Cx := { specs := [], anns := [(70, [(1, .ghost Zob [.tmp 0]), (999999, .ghost (ZeE [] [] (gA 1)) [.tmp 0])])] }
def Zy0 : Ctr := ⟨[.int, .g], [.one (.ptr (ai 0) 0)], [plC (ai 0) (gA 1)], [eLe (usI 207 (gA 1) z0 z0) Zau, eLe (usI 211 (gA 1) z0 z0) Zau, eLe (.f1 30 (usN 209 (gA 1) z0 z0)) (.int 140737488355328)], [], .one (.int .i64 (usI 228 (gA 1) z0 z0)), [plC (ai 0) (usG 227 (gA 1) z0 z0)], []⟩
def synI (r : Nat) : Inv := ⟨[.amap, .ints, .bytes], [], [.itr .i64 (.int .i64) (ai 7) (mA 12) (ai r) (mA 1000000) (iA 1000001), bAr (ai 2) (bA 1000002) (ai 3)],
 [usB 235 (bA 1000002) (mA 1000000) (gA 1), usB 236 (mA 1000000) (mA 12) z0, .f2 45 (ZP (bA 1000002)) (ZP (sfX (gA 1)))], .f1 33 (mA 1000000)⟩
def ZSz : Cx := { specs := [(80, [Zjb])], anns := [(66, [(1, .ghost Zob [.tmp 0]), (2, .ghost (ZeE [] [] (usG 234 (gA 1) z0 z0)) [.tmp 0]), (4, .ghost (ZeE [] [] (usG 230 (gA 1) z0 z0)) [.tmp 0]), (4, .ghost Zob [.tmp 0]),
 (7, .inv (synI 14)), (9, .ghost ZpZ [.tmp 4]), (500009, .ghost Zjh []), (10, .ghost (ZIw 227) []), (11, .ghost (ZeE [] [] (usG 234 (gA 1) z0 z0)) [.tmp 0])])] }
def ZMm : SX := .f2 113 (s 13) (a 9)
def ZMu : SX := j 208 (g 1)
def ZI9 : SX := .f1 31 ZMu
def ZLE : SX := .f2 115 (r 11) (a 5)
def Zel : SX := w 218 (g 1)
def ZMj : SX := j 208 Zel
def ZS3 : VC := u 2 .int (u 3 .int (u 4 .int (u 5 .int (u 6 .int (u 7 .int (u 8 .int (u 9 .int (u 10 .int (u 11 .rows (u 12 .amap (u 13 .ints (i (l z (a 5)) (i (l (a 5) (.f1 32 (r 11))) (i (e (a 5) (v 211 (g 1))) (i (l (a 5) (a 6)) (i (l z (a 9)) (i (l (a 9) (.f1 30 (s 13))) (i (.f2 153 ZMm (o 209 (g 1))) (i (c 214 (m 12) (g 1)) (i (p 215 (g 1)) (i (l ZI9 (a 3)) (i (l z (a 2)) (i (p 237 (m 12)) (n (.f2 155 ZLE ZLE) (n (.f2 153 ZMm (o 209 Zel)) (n (c 214 (m 12) Zel) (n (p 215 Zel) (n (c 216 Zel (g 1)) (n (.f2 155 ZMj ZMu) (n (e (v 207 Zel) (v 207 (g 1))) (n (e (v 206 Zel) (v 206 (g 1))) (n (e (v 205 Zel) (v 205 (g 1))) (n (e (v 204 Zel) (v 204 (g 1))) (n (e (v 203 Zel) (v 203 (g 1))) (n (e (v 202 Zel) (v 202 (g 1))) (n (.f2 155 (p 201 Zel) (.bool false)) (n (e (.f1 31 ZMj) ZI9) (n (e (v 200 Zel) (v 200 (g 1))) .tt))))))))))))))))))))))))))))))))))))))
theorem ZSn : Yk Tryz.prog ZPR 12 64 ZDg = ZS3 := by kernel_rfl
def ZKu : SX := .f2 115 (r 12) (a 6)
def ZSk : VC := u 2 .int (i (l z (a 2)) (u 3 .int (u 4 .int (u 5 .int (u 6 .int (u 7 .int (u 8 .int (u 9 .int (u 10 .int (u 11 .int (u 12 .rows (u 13 .amap (u 14 .ints (i (l z (a 6)) (i (l (a 6) (.f1 32 (r 12))) (i (e (a 6) (v 211 (g 1))) (i (l (a 6) (a 7)) (i (l z (a 10)) (i (l (a 10) (.f1 30 (s 14))) (i (.f2 153 (.f2 113 (s 14) (a 10)) (o 209 (g 1))) (i (c 214 (m 13) (g 1)) (i (p 215 (g 1)) (i (l (.f1 31 (j 208 (g 1))) (a 4)) (i (l z (a 3)) (i (p 237 (m 13)) (n (.f2 155 ZKu ZKu) (n (c 216 (g 1) (g 1)) .tt)))))))))))))))))))))))))))
theorem ZO2 : Yk Tryz.prog ZT5 12 70 ZAf = ZSk := by kernel_rfl
theorem ZzL (S : Sig GG) (hS : DvSig S) : Zs S Tryz.prog 64 ZDg := by
 refine Zd S (C := ZPR) (fuel := 12) (Zx trivial ⟨⟨⟨by decide, ZcI S hS⟩, ⟨by decide, Y9 S hS _ _ _⟩, trivial⟩, trivial⟩ trivial) fun ρ => ?_
 rw [ZSn]
 simp only [ZS3, ZMm, ZMu, ZI9, ZLE, Zel, ZMj, Zbf, Zr, VC.den, SX.den, ZN, Env.upd, ZS, ZB, ZI, ZJ, ZH, beq_iff_eq, Bool.not_eq_true', beq_eq_false_iff_ne, ne_eq, Bool.not_not, U.tMi, Int.toNat_zero, Nat.reduceEqDiff, reduceIte, Zf, ZK, ZG, U.int.injEq, sdv hS, sB]
 generalize Zk (U.co S .g (ρ 1)) = d
 intro i2 i3 i4 i5 i6 i7 i8 i9 i10 R11 M12 I13 h1 h2 h3 h4 h5 h6 h7 h8 hg h9 h10 h11
 refine ⟨by first | rfl | trivial, h7, h8, ⟨hg.size, hg.pgs, hg.w, hg.acts, hg.cnt⟩, by first | rfl | trivial, by first | rfl | trivial, by first | rfl | trivial, by first | rfl | trivial, by first | rfl | trivial, by first | rfl | trivial, by first | rfl | trivial, by first | rfl | trivial, ?_⟩
 exact ⟨by first | rfl | trivial, by first | rfl | trivial, by first | rfl | trivial, trivial⟩
theorem ZDC (S : Sig GG) (hS : DvSig S) : Zs S Tryz.prog 70 ZAf := by
 refine Zd S (C := ZT5) (fuel := 12) (Zx trivial ⟨⟨⟨by decide, ZcI S hS⟩, ⟨by decide, Y9 S hS _ _ _⟩, trivial⟩, trivial⟩ trivial) fun ρ => ?_
 rw [ZO2]
 simp only [ZSk, ZKu, Zbf, Zr, VC.den, SX.den, ZN, Env.upd, ZS, ZB, ZI, ZJ, ZH, beq_iff_eq, Bool.not_eq_true', beq_eq_false_iff_ne, ne_eq, Bool.not_not, U.tMi, Int.toNat_zero, Nat.reduceEqDiff, reduceIte, Zf, ZK, ZG, U.int.injEq, sdv hS, sB]
 generalize Zk (U.co S .g (ρ 1)) = d
 intro i2 hi i3 i4 i5 i6 i7 i8 i9 i10 i11 R12 M13 I14 h1 h2 h3 h4 h5 h6 h7 h8 hg h9 h10 h11
 exact ⟨by first | rfl | trivial, by first | rfl | trivial, trivial⟩
def ZE2 : SX := v 207 (g 1)
def ZNq : SX := v 211 (g 1)
def ZJa : SX := o 209 (g 1)
def ZCy : SX := .f2 113 (s 13) (a 9)
def ZDK : SX := j 208 (g 1)
def Zkd : SX := .f1 31 ZDK
def Ztm : SX := p 201 (g 1)
def ZIL : SX := .f2 115 (r 11) (a 5)
def ZNJ : SX := .f2 155 ZIL ZIL
def ZdT : SX := w 234 (g 1)
def ZzN : SX := j 208 ZdT
def Zrc : SX := v 206 (g 1)
def ZsE : SX := v 205 (g 1)
def Zr4 : SX := v 204 (g 1)
def ZsB : SX := v 203 (g 1)
def Zlq : SX := v 202 (g 1)
def ZiF : SX := v 200 (g 1)
def Zhk : SX := w 227 (g 1)
def Zxw : SX := v 228 (g 1)
def Zt7 : SX := e Zxw (k 3)
def Zq7 : SX := .f2 40 ZE2 (k 1)
def ZDw : SX := e Zlq z
def Zam : SX := w 230 (g 1)
def ZBI : SX := o 209 Zam
def ZzR : SX := p 215 Zam
def ZCY : SX := j 208 Zam
def ZzW : SX := .f1 31 ZCY
def Zuo : SX := l z (a 14)
def ZCU : SX := .f2 40 Zlq (k (-1))
def ZaV : SX := w 234 Zhk
def ZDL : SX := j 208 ZaV
def Zev : SX := .f3 140 z (m 12) (a 18)
def Zih : SX := .f3 112 (r 11) Zev (k 2)
def ZBz : SX := .f2 114 (b 19) Zih
def Zdd : SX := .f2 42 (a 18) ZiF
def ZBH : SX := .f2 40 (a 18) (k 1)
def ZiB : SX := .f2 42 ZBH ZiF
def Zm3 : SX := .f2 41 ZiB Zdd
def Zrf : SX := .f2 143 (m 15) (a 18)
def ZDY : SX := .f2 114 (b 17) Zdd
def ZwT : SX := .f2 51 Zih Zm3
def ZAd : SX := .f2 114 ZBz ZwT
def ZDy : SX := .f2 117 (b 17) (.f2 40 Zdd ZwT)
def ZTV : VC := i (l ZE2 k2) (i (l ZNq k2) (i (l (.f1 30 ZJa) k1) (u 2 .int (u 3 .int (u 4 .int (u 5 .int (u 6 .int (u 7 .int (u 8 .int (u 9 .int (u 10 .int (u 11 .rows (u 12 .amap (u 13 .ints (i (l z (a 5)) (i (l (a 5) (.f1 32 (r 11))) (i (e (a 5) ZNq) (i (l (a 5) (a 6)) (i (l z (a 9)) (i (l (a 9) (.f1 30 (s 13))) (i (.f2 153 ZCy ZJa) (i (c 214 (m 12) (g 1)) (i (p 215 (g 1)) (i (l Zkd (a 3)) (i (l z (a 2)) (i (p 237 (m 12)) (.and (i Ztm (n ZNJ (n (.f2 153 ZCy (o 209 ZdT)) (n (c 214 (m 12) ZdT) (n (p 215 ZdT) (n (c 216 ZdT (g 1)) (n (.f2 155 ZzN ZDK) (n (e (v 207 ZdT) ZE2) (n (e (v 206 ZdT) Zrc) (n (e (v 205 ZdT) ZsE) (n (e (v 204 ZdT) Zr4) (n (e (v 203 ZdT) ZsB) (n (e (v 202 ZdT) Zlq) (n (.f2 155 (p 201 ZdT) Ztm) (n (e (.f1 31 ZzN) Zkd) (n (e (v 200 ZdT) ZiF) (n (.f2 155 Zhk ZdT) (n Zt7 .tt)))))))))))))))))) (i (.f1 2 Ztm) (n (.f1 23 Zq7) (.and (i ZDw (n ZNJ (n (.f2 153 ZCy ZBI) (n (c 214 (m 12) Zam) (n ZzR (n (c 216 Zam (g 1)) (n (.f2 155 ZCY ZDK) (n (e (v 207 Zam) Zq7) (n (e (v 206 Zam) Zrc) (n (e (v 205 Zam) ZsE) (n (e (v 204 Zam) Zr4) (n (e (v 203 Zam) ZsB) (n (e (v 202 Zam) Zlq) (n (.f2 155 (p 201 Zam) Ztm) (n (e ZzW Zkd) (n (e (v 200 Zam) ZiF) (u 14 .int (u 15 .int (u 16 .int (u 17 .int (u 18 .int (u 19 .int (u 20 .int (u 21 .int (u 22 .int (u 23 .rows (u 24 .amap (u 25 .ints (i (l z (a 17)) (i (l (a 17) (.f1 32 (r 23))) (i (e (a 17) (v 211 Zam)) (i (l (a 17) (a 18)) (i (l z (a 21)) (i (l (a 21) (.f1 30 (s 25))) (i (.f2 153 (.f2 113 (s 25) (a 21)) ZBI) (i (c 214 (m 24) Zam) (i ZzR (i (l ZzW (a 15)) (i Zuo (i (p 237 (m 24)) (n (l (a 17) k2) (n (l (a 21) k1) (n (.f2 155 Zhk (w 225 Zam)) (n Zt7 .tt)))))))))))))))))))))))))))))))))))))))))))) (i (.f1 2 ZDw) (n (.f1 23 ZCU) (u 14 .int (i Zuo (n (y 235 ZDK (m 12) (g 1)) (n (c 236 (m 12) (m 12)) (n (e Zkd Zkd) (u 15 .amap (u 16 .ints (u 17 .bytes (i (y 235 (b 17) (m 15) (g 1)) (i (c 236 (m 15) (m 12)) (i (e (.f1 31 (b 17)) Zkd) (.and (i (e (.f1 33 (m 15)) z) (n (e (v 211 Zhk) z) (n (.f2 155 (.f1 154 z) (.f1 154 z)) (n (.f2 153 ZCy (o 209 ZaV)) (n (c 214 (.f1 155 z) ZaV) (n (p 215 ZaV) (n (c 216 ZaV Zhk) (n (.f2 155 ZDL (b 17)) (n (e (v 207 ZaV) Zq7) (n (e (v 206 ZaV) Zrc) (n (e (v 205 ZaV) ZsE) (n (e (v 204 ZaV) Zr4) (n (e (v 203 ZaV) ZsB) (n (e (v 202 ZaV) (.f2 52 ZCU (k (-1)))) (n (.f2 155 (p 201 ZaV) Ztm) (n (e (.f1 31 ZDL) Zkd) (n (e (v 200 ZaV) ZiF) (n (.f2 155 Zhk ZaV) (n (e Zxw z) .tt))))))))))))))))))) (u 18 .int (i (.f2 141 (m 15) (a 18)) (n (l z Zev) (n (t Zev (a 5)) (u 19 .bytes (i (l z Zih) (i (l Zih (.f1 31 (b 19))) (i (.f2 155 ZBz (wB 212 (g 1) Zev)) (i (e (.f3 112 (r 11) Zev z) (d 217 (g 1) Zev)) (i (l Zih (.f3 112 (r 11) Zev (k 3))) (n (t Zev (.f1 32 (r 11))) (n (.f1 23 Zdd) (n (.f1 23 ZBH) (n (.f1 23 ZiB) (n (l z (a 3)) (n (l z Zdd) (n (l Zdd ZiB) (n (l z ZiB) (n (l ZiB (a 3)) (n (l z Zm3) (n (l Zm3 (.f2 41 (a 3) Zdd)) (n (l Zdd (.f1 31 (b 17))) (n (l (.f2 40 Zdd Zm3) (a 3)) (n (t (.f1 33 Zrf) (.f1 33 (m 15))) (n (y 235 (.f2 120 ZDY (.f2 120 ZAd ZDy)) Zrf (g 1)) (n (c 236 Zrf (m 12)) (n (e (.f2 40 (.f1 31 ZDY) (.f2 40 (.f1 31 ZAd) (.f1 31 ZDy))) Zkd) .tt)))))))))))))))))))))))))))))))))))))))))))))))))))))))))))))))))))))))
theorem ZPB : Yk Tryz.prog ZSz 12 66 Zy0 = ZTV := by kernel_rfl
theorem ZC5 (S : Sig GG) (hS : DvSig S) : Zs S Tryz.prog 66 Zy0 := by
 refine Zd S (C := ZSz) (fuel := 12) (Zx ⟨Zc (by decide) (ZBG S hS), trivial⟩ ⟨⟨⟨by decide, ZcI S hS⟩, ⟨by decide, Y9 S hS _ _ _⟩, ⟨by decide, Y9 S hS _ _ _⟩, ⟨by decide, ZcI S hS⟩, trivial, ⟨by decide, Zfe S hS⟩, ⟨by decide, Zfd S hS⟩, ⟨by decide, Zqw S hS 227⟩, ⟨by decide, Y9 S hS _ _ _⟩, trivial⟩, trivial⟩ trivial) fun ρ => ?_
 rw [ZPB]
 simp only [ZTV, ZE2, ZNq, ZJa, ZCy, ZDK, Zkd, Ztm, ZIL, ZNJ, ZdT, ZzN, Zrc, ZsE, Zr4, ZsB, Zlq, ZiF, Zhk, Zxw, Zt7, Zq7, ZDw, Zam, ZBI, ZzR, ZCY, ZzW, Zuo, ZCU, ZaV, ZDL, Zev, Zih, ZBz, Zdd, ZBH, ZiB, Zm3, Zrf, ZDY, ZwT, ZAd, ZDy, Zbf, Zr, Zq, VC.den, SX.den, ZN, Env.upd, ZS, Zao, Z3, Z2, ZB, ZI, ZJ, ZeO, Zeb, Zcs, Zcq, ZR, ZW, ZiY, ZH, beq_iff_eq, Bool.not_eq_true', beq_eq_false_iff_ne, ne_eq, Bool.not_not, U.tMi, Int.toNat_zero, Nat.reduceEqDiff, reduceIte, Zf, ZK, ZG, U.int.injEq, sdv hS, sB]
 generalize Zk (U.co S .g (ρ 1)) = d
 intro c1 c2 c3 i2 i3 i4 i5 i6 i7 i8 i9 i10 R M Z h1 h2 h3 h4 h5 h6 h7 h8 hg h9 h10 h11
 have hb := Yv hg
 have hc := hg.cnt
 have ha := hg.acts
 refine ⟨fun hd => ?_, fun hd => ⟨⟨by omega, by omega⟩, fun h0 => ?_, fun h0 => ?_⟩⟩
 ·have e1 : d.sync = d := by unfold Dv.sync; rw [if_pos hd]
  have e2 : d.syE = 3 := by unfold Dv.syE; rw [if_pos hd]
  simp only [e1, e2]
  exact ⟨by first | rfl | trivial, h7, h8, hg, by first | rfl | trivial, by first | rfl | trivial, by first | rfl | trivial, by first | rfl | trivial, by first | rfl | trivial, by first | rfl | trivial, by first | rfl | trivial, by first | rfl | trivial, by first | rfl | trivial, by first | rfl | trivial, by first | rfl | trivial, by first | rfl | trivial, by first | rfl | trivial, by first | rfl | trivial⟩
 ·have hd : d.down = false := by simpa using hd
  have e1 : d.sync = Dv.fall { d with sy := d.sy + 1 } := by unfold Dv.sync; rw [if_neg (by rw [hd]; decide)]; exact if_pos h0
  have e2 : d.syE = 3 := by unfold Dv.syE; rw [if_neg (by rw [hd]; decide), if_pos h0]
  simp only [e1, e2]
  refine ⟨by first | rfl | trivial, h7, h8, ⟨hg.size, hg.pgs, hg.w, hg.acts, ⟨hc.1, hc.2.1, show 0 <= d.sy + 1 by omega⟩⟩, by first | rfl | trivial, by first | rfl | trivial, by first | rfl | trivial, by first | rfl | trivial, by first | rfl | trivial, by first | rfl | trivial, by first | rfl | trivial, by first | rfl | trivial, by first | rfl | trivial, by first | rfl | trivial, by first | rfl | trivial, fun j14 j15 j16 j17 j18 j19 j20 j21 j22 R' M' Z' g1 g2 g3 g4 g5 g6 g7 _ _ _ _ _ => ⟨by omega, ?_, by first | rfl | trivial, by first | rfl | trivial, trivial⟩⟩
  have := congrArg List.length g7
  rw [ZUl] at this
  omega
 ·have hd : d.down = false := by simpa using hd
  have e1 : d.sync = { d with sy := d.sy + 1, acts := Zbx d.acts, safe := d.image, w := [] } := by unfold Dv.sync; rw [if_neg (by rw [hd]; decide)]; exact if_neg h0
  have e2 : d.syE = 0 := by unfold Dv.syE; rw [if_neg (by rw [hd]; decide), if_neg h0]
  have hgs : GoodD d.sync := by
   rw [e1]
   obtain ⟨k, k1, k2, k3, k4⟩ := hg.pgs
   refine ⟨hg.size, ⟨k, k1, k2, by show d.image.length = _; rw [Zax hg]; exact k3, by show d.image.length <= _; rw [Zax hg]; exact k4⟩, (fun p hp => nomatch hp), ?_, ⟨hc.1, hc.2.1, show 0 <= d.sy + 1 by omega⟩⟩
   show -1 <= Zbx d.acts /\ Zbx d.acts <= _
   unfold Zbx Zbd; split <;> omega
  refine ⟨⟨by omega, by omega⟩, fun r r0 => ⟨Zmk hg h8.1 h8.2 rfl, sub_self h11, by first | rfl | trivial, fun left cur Y y1 y2 y3 => ⟨fun hz => ?_, fun k hk => ?_⟩⟩⟩
  ·have hz : left.length = 0 := by omega
   rw [Zpo hz] at y1
   have hY := ZrX hg y1
   have hgs' := hgs
   rw [e1] at hgs'
   have hil := Zax hg
   simp only [e1, e2, hY]
   exact ⟨by first | rfl | trivial, by first | rfl | trivial, h7, ⟨fun n => by first | rfl | trivial, fun p hp => nomatch hp⟩, hgs', by first | rfl | trivial, by first | rfl | trivial, by first | rfl | trivial, by first | rfl | trivial, by first | rfl | trivial, by first | rfl | trivial, by first | rfl | trivial, by first | rfl | trivial, by first | rfl | trivial, by omega, by first | rfl | trivial, by first | rfl | trivial, by first | rfl | trivial, by first | rfl | trivial⟩
  ·have hla := Zec h8.1 h8.2 k
   have hmk := (y2.2 k hk).1
   have hk0 := hla.1.1 hmk
   have hll := Zgj d k
   rw [hla.2 hmk]
   refine ⟨by omega, by omega, fun B q1 q2 q3 q4 q5 => ?_⟩
   have hdl := ZaB hg hk0 hll.2
   rw [ZpK hk0] at hdl
   have hin := Yn hdl.2.1 hdl.2.2 (Int.le_of_lt hb.1)
   have hL : ((R.getD (d.last k).toNat []).getD (Int.toNat 2) 0) = d.page := by
    rw [<- hdl.1, <- q3, ZUl]; omega
   have hw : (k + 1) * d.page = k * d.page + d.page := by rw [Int.add_mul, Int.one_mul]
   have hw2 : k * d.page + d.page - k * d.page = d.page := by omega
   rw [hL] at q3 ⊢
   rw [hw, hw2, q3, YF (x := d.page) (by omega)]
   have hst := ZrZ hg y2 h8.1 h8.2 y1 hk
   have hlay := ZlC (X := Y) (Y := d.dat (d.last k)) (p := k * d.page) (k := d.page) (c := d.page) rfl hin.1 (by omega) (by omega)
   rw [ZUv (l := d.dat (d.last k)) (by omega)] at hlay
   have hln := Zhr (X := Y) (Y := d.dat (d.last k)) (p := k * d.page) (k := d.page) (c := d.page) (m := d.safe.length) rfl hin.1 (by omega) (by omega) y3 (by omega)
   rw [ZUv (l := d.dat (d.last k)) (by omega)] at hln
   have hml := ZjO hk
   rw [hlay]
   exact ⟨by omega, ⟨by omega, by omega⟩, ⟨by omega, by omega⟩, ⟨by omega, by omega⟩, by omega, by omega, by omega, by omega, by omega, by omega, by omega, by omega, by omega, by omega, hst, Zon y2, hln, trivial⟩
def blI (r : List Int) (x : List UInt8) : HProp := fun h => g1 r = x.length /\ bAD (g0 r) x (g2 r) h
def blH : List (List Int) -> List (List UInt8) -> HProp
 | [], [] => emp
 | r :: rs, x :: xs => Zb (blI r x) (blH rs xs)
 | _, _ => fun _ => False
theorem ZdR : ∀ {k : List (List Int)} {q : List (List UInt8)} {h : Hl}, blH k q h -> k.length = q.length
 | [], [], _, _ => rfl
 | r :: k, p :: q, h, hx => by
  obtain ⟨a, b, _, _, _, hb⟩ := hx
  rw [ZUD, ZUD, ZdR hb]
 | [], _ :: _, _, hx => hx.elim
 | _ :: _, [], _, hx => hx.elim
theorem ZdL : ∀ {a : List (List Int)} {c : List (List UInt8)} (b : List (List Int)) (d : List (List UInt8)), a.length = c.length -> blH (a ++ b) (c ++ d) = Zb (blH a c) (blH b d)
 | [], [], b, d, _ => by rw [List.nil_append, List.nil_append]; show _ = Zb emp _; rw [emp_star]
 | r :: a, p :: c, b, d, h => by
  rw [List.cons_append, List.cons_append]
  show Zb _ (blH (a ++ b) (c ++ d)) = Zb (Zb _ (blH a c)) (blH b d)
  rw [ZdL b d (by simpa using h), star_assoc]
 | [], _ :: _, _, _, h => by simp at h
 | _ :: _, [], _, _, h => by simp at h
theorem Zi0 (r : List Int) (p : List UInt8) : blH [r] [p] = blI r p := by
 show Zb _ emp = _
 rw [Za]
theorem Zeh {k : List (List Int)} {m : List (List UInt8)} {i : Nat} (hl : k.length = m.length) (hi : i < k.length) :
  blH k m = Zb (Zb (blH (k.take i) (m.take i)) (blH (k.drop (i + 1)) (m.drop (i + 1)))) (blI (k.getD i []) (m.getD i [])) := by
 conv => lhs; rw [ZO (d := []) hi, ZO (d := ([] : List UInt8)) (show i < m.length by omega)]
 rw [ZdL _ _ (by rw [ZUl, ZUl]; omega), ZdL _ _ (show [k.getD i []].length = [m.getD i []].length from rfl), Zi0, star_assoc, Zp (blI _ _)]
def Dv.pgs (d : Dv) : List (List UInt8) := (List.range d.pages.toNat).map fun (i : Nat) => d.place (i : Int)
def Dv.putPg (d : Dv) (i : Int) (x : List UInt8) : Dv := { d with safe := ZdV d.safe (i * d.page).toNat x }
theorem ZbI (d : Dv) : d.pgs.length = d.pages.toNat := by unfold Dv.pgs; rw [ZUt, ZUF]
theorem ZIs {d : Dv} {i : Nat} (h : i < d.pages.toNat) : d.pgs.getD i [] = d.place i := by
 unfold Dv.pgs
 rw [ZUj, List.getElem?_map, List.getElem?_range h]; rfl
theorem Zmy {d : Dv} (hg : GoodD d) {i : Int} {x : List UInt8} (h0 : 0 <= i) (h1 : i < d.pages) (hx : (x.length : Int) = d.page) : (d.putPg i x).safe.length = d.safe.length /\ (d.putPg i x).pages = d.pages := by
 have hb := Yv hg
 have hp := Yn h0 h1 (Int.le_of_lt hb.1)
 have e : (d.putPg i x).safe.length = d.safe.length := Zek (by omega)
 refine ⟨e, ?_⟩
 show ((d.putPg i x).safe.length : Int).tdiv d.page = _
 rw [e]; rfl
theorem ZwG {d : Dv} (hg : GoodD d) {i n : Int} {x : List UInt8} (h0 : 0 <= i) (h1 : i < d.pages) (hx : (x.length : Int) = d.page) (n0 : 0 <= n) (n1 : n < d.pages) : (d.putPg i x).place n = if n = i then x else d.place n := by
 have hb := Yv hg
 exact ZgI hb.1 (K := d.pages) hb.2.2.2.2.1 hx h0 h1 n0 n1
theorem ZGo {α : Type} {A B : List α} {i : Nat} {x : α} (hl : B.length = A.length) (hi : i < A.length) (h : ∀ j, j < A.length -> B[j]? = if j = i then some x else A[j]?) : B = A.take i ++ x :: A.drop (i + 1) := by
 refine List.ext_getElem? fun j => ?_
 have hlt : (A.take i).length = i := by rw [ZUl]; omega
 rcases Nat.lt_or_ge j A.length with hj | hj
 ·rw [h j hj]
  rcases Nat.lt_trichotomy j i with h2 | h2 | h2
  ·rw [if_neg (by omega), ZUB (by omega), List.getElem?_take_of_lt h2]
  ·rw [if_pos h2, ZUC (by omega), hlt, h2, Nat.sub_self]; rfl
  ·rw [if_neg (by omega), ZUC (by omega), hlt, show j - i = (j - i - 1) + 1 by omega, List.getElem?_cons_succ, ZUI]
   congr 1; omega
 ·rw [List.getElem?_eq_none (by omega), List.getElem?_eq_none (by rw [ZUo, ZUD, ZUx, hlt]; omega)]
theorem ZK6 {d : Dv} (hg : GoodD d) {i : Int} {x : List UInt8} (h0 : 0 <= i) (h1 : i < d.pages) (hx : (x.length : Int) = d.page) : (d.putPg i x).pgs = d.pgs.take i.toNat ++ x :: d.pgs.drop (i.toNat + 1) := by
 have hp := Zmy hg h0 h1 hx
 refine ZGo (by rw [ZbI, ZbI, hp.2]) (by rw [ZbI]; omega) fun j hj => ?_
 rw [ZbI] at hj
 unfold Dv.pgs
 rw [List.getElem?_map, List.getElem?_map, hp.2, List.getElem?_range hj]
 show some ((d.putPg i x).place j) = _
 rw [ZwG hg h0 h1 hx (by omega) (by omega)]
 by_cases e : (j : Int) = i
 ·rw [if_pos e, if_pos (by omega)]
 ·rw [if_neg e, if_neg (by omega)]; rfl
def ZF5 (d : Dv) (n i : Int) : List UInt8 := if 0 <= Zaw n 0 (d.w.take i.toNat) (-1) then d.dat (Zaw n 0 (d.w.take i.toNat) (-1)) else d.place n
def Zcg (d : Dv) (i : Int) : Dv := { d with safe := Zcd d 0 (d.w.take i.toNat) d.safe }
def ZhT (d : Dv) (i k : Int) : Int := if (d.keep.take k.toNat).contains i = true then d.page else 0
def ZhO (d : Dv) (i : Int) : Dv := { d with safe := ZtQ d.page (d.w.take i.toNat) d.safe }
def Zjn (x y : List UInt8) (k : Int) : List UInt8 := x.take k.toNat ++ y.drop k.toNat
def ZOB (y : List (List Int)) (d : Dv) : Prop := ∀ i : Int, 0 <= i -> i < d.w.length -> (y.getD i.toNat []).getD 0 0 = d.pg i
theorem ZIr : ∀ {k : List (List Int)} {q : List (Int × List UInt8)} {h : Hl}, lsH k q h -> k.map g0 = q.map (·.1)
 | [], [], _, _ => rfl
 | r :: k, p :: q, h, hx => by
  obtain ⟨a, b, _, _, ⟨_, ha, _⟩, hb⟩ := hx
  rw [ZUs, ZUs, ZIr hb, ha.1]
 | [], _ :: _, _, hx => hx.elim
 | _ :: _, [], _, hx => hx.elim
theorem ZS0 {y : List (List Int)} {n : Nat} {d : Dv} {h : Hl} (hx : lsH (y.take n) d.w h) : ZOB y d := by
 intro i i0 i1
 have e := congrArg (fun l : List Int => l[i.toNat]?) (ZIr hx)
 have hl := Zhu hx
 rw [ZUl] at hl
 simp only [List.getElem?_map] at e
 rw [List.getElem?_take_of_lt (by omega), ZUm (show i.toNat < y.length by omega), ZUm (show i.toNat < d.w.length by omega)] at e
 have e := Option.some.inj e
 have k1 : y.getD i.toNat [] = y[i.toNat] := by rw [ZUj, ZUm (show i.toNat < y.length by omega)]; rfl
 have k2 : d.w.getD i.toNat (0, []) = d.w[i.toNat] := by rw [ZUj, ZUm (show i.toNat < d.w.length by omega)]; rfl
 show g0 (y.getD i.toNat []) = (d.w.getD i.toNat (0, [])).1
 rw [k1, k2]; exact e
def kp81 (k : List (List Int)) (d : Dv) : HProp := Zb (blH ((k.drop 1).take (g0 (k.getD 0 [])).toNat) (d.pgs.take (g0 (k.getD 0 [])).toNat)) (blH ((k.drop 1).drop ((g0 (k.getD 0 [])).toNat + 1)) (d.pgs.drop ((g0 (k.getD 0 [])).toNat + 1)))
theorem ZoW (i : Int) (R : List (List Int)) (d : Dv) : kp81 ([i] :: R) d = Zb (blH (R.take i.toNat) (d.pgs.take i.toNat)) (blH (R.drop (i.toNat + 1)) (d.pgs.drop (i.toNat + 1))) := rfl
def ZhV (d : Dv) : Bool := decide (0 <= d.acts)
def ZNi (K : Int) (d : Dv) (lb lc wb wn wc ac fb fl fc : Int) : HProp := fun h => (0 <= K \/ False) /\ row K.toNat 0 [.int .i64 d.page, slV lb d.pages lc, slV wb wn wc, .bool d.down, .bool (ZhV d), .int .i64 ac, slV fb fl fc, .int .i64 d.torn, .int .i64 d.at', .int .i64 d.rd, .int .i64 d.wr, .int .i64 d.sy] true h
def rpP (K : Int) (d : Dv) : HProp := fun h => GoodD d /\ ∃ (lb lc wb wn wc ac fb fl fc : Int) (R y : List (List Int)) (z : List Int), ((R.length : Int) = d.pages /\ 0 <= wn /\ wn <= y.length /\ 0 <= fl /\ fl <= z.length /\ z.take fl.toNat = d.keep /\ (0 <= d.acts -> ac = d.acts)) ∧
 Zb (ZNi K d lb lc wb wn wc ac fb fl fc) (Zb (rAD slT lb R lc) (Zb (rAD lsT wb y wc) (Zb (iAD fb z fc) (Zb (blH R d.pgs) (lsH (y.take wn.toNat) d.w))))) h
structure RpSig (S : Sig GG) : Prop where
 cs : CsSig S
 p80 : ∀ w0 k x, S.prd 80 w0 k x = blH k.tR (Zk x).pgs
 p81 : ∀ w0 k x, S.prd 81 w0 k x = kp81 k.tR (Zk x)
 p82 : ∀ w0 k x, S.prd 82 w0 k x = blH k.tR (List.replicate x.tI.toNat (List.replicate 512 0))
 p84 : ∀ w0 k x, S.prd 84 w0 k x = rpP k.tI (Zk x)
 u400 : ∀ a b c d, S.usr 400 a b c d = .g (.dv ((Zk a).putPg b.tI c.tB))
 u401 : ∀ a b c d, S.usr 401 a b c d = .bool (ZhV (Zk a))
 u402 : ∀ a b c d, S.usr 402 a b c d = .bool (Zz (0 <= (Zk a).acts -> b.tI = (Zk a).acts))
 u403 : ∀ a b c d, S.usr 403 a b c d = .bool (Zz ((Zk a).page = (Zk b).page /\ (Zk a).safe = (Zk b).safe))
 u404 : ∀ a b c d, S.usr 404 a b c d = .bytes (ZF5 (Zk a) b.tI c.tI)
 u406 : ∀ a b c d, S.usr 406 a b c d = .g (.dv (Zcg (Zk a) b.tI))
 u407 : ∀ a b c d, S.usr 407 a b c d = .bytes (Zjn a.tB b.tB c.tI)
 u408 : ∀ a b c d, S.usr 408 a b c d = .g (.dv (ZhO (Zk a) b.tI))
 u409 : ∀ a b c d, S.usr 409 a b c d = .bytes ((Zk a).safe.take (b.tI * (Zk a).page).toNat)
 u410 : ∀ a b c d, S.usr 410 a b c d = .int (ZeW (Zk a) b.tI)
 u411 : ∀ a b c d, S.usr 411 a b c d = .bytes ((Zk a).read b.tI)
 u413 : ∀ a b c d, S.usr 413 a b c d = .bool (Zz (ZOB a.tR (Zk b)))
 u412 : ∀ a b c d, S.usr 412 a b c d = .int (ZhT (Zk a) b.tI c.tI)
abbrev srp {S : Sig GG} (h : RpSig S) := (And.intro h.u400 (And.intro h.u401 (And.intro h.u402 (And.intro h.u403 (And.intro h.u404 (And.intro h.u406 (And.intro h.u407 (And.intro h.u408 (And.intro h.u409 (And.intro h.u410 (And.intro h.u411 (And.intro h.u413 h.u412))))))))))))
theorem RpSig.of {S T : Sig GG} (h : RpSig S) (hu : T.usr = S.usr) (hp : T.prd = S.prd) (hd : T.dg = S.dg) : RpSig T := by
 constructor
 ·exact h.cs.of hu hp hd
 all_goals first | (rw [hp]; first | exact h.p80 | exact h.p81 | exact h.p82 | exact h.p84) | (rw [hu]; first | exact h.u400 | exact h.u401 | exact h.u402 | exact h.u403 | exact h.u404 | exact h.u406 | exact h.u407 | exact h.u408 | exact h.u409 | exact h.u410 | exact h.u411 | exact h.u412 | exact h.u413)
def rpC (K g : SX) : Ch := .prd 84 K g
def pgC (R g : SX) : Ch := .prd 80 R g
def pgO (i R g : SX) : Ch := .prd 81 (Zj (Yy i) R) g
def ZFy (g : SX) : List SC := [.int .i64 (pgX g), sl1 (ai 2) (usI 210 g z0 z0) (ai 3), slC (ai 4) (ai 5) (ai 6) 2, .bool (usB 201 g z0 z0), .bool (usB 401 g z0 z0), .int .i64 (ai 7), sl1 (ai 8) (ai 9) (ai 10), .int .i64 (usI 203 g z0 z0), .int .i64 (usI 204 g z0 z0), .int .i64 (usI 205 g z0 z0), .int .i64 (usI 206 g z0 z0), .int .i64 (usI 207 g z0 z0)]
def ZOI : List Ch := [slA (ai 2) (rA 11) (ai 3), lsA (ai 4) (rA 12) (ai 6), iAr (ai 8) (iA 13) (ai 10)]
def Znt : Ctr := ⟨[.int, .g], [.one (.ptr (ai 0) 0)], [rpC (ai 0) (gA 1)], [], [.int, .int, .int, .int, .int, .int, .int, .int, .int, .rows, .rows, .ints], .tup [],
 .cel (ai 0) 0 (ZFy (gA 1)) :: ZOI ++ [pgC (rA 11) (gA 1), lsC (ai 5) (rA 12) (gA 1)],
 [.f2 45 (ZA (rA 11)) (usI 210 (gA 1) z0 z0), eLe (.int 0) (ai 5), eLe (ai 5) (ZA (rA 12)), .f2 45 (ai 5) (usI 211 (gA 1) z0 z0), eLe (ai 5) (ai 6), eLe (.int 0) (ai 9), eLe (ai 9) (Zb7 (iA 13)), .f2 153 (tkI (iA 13) (ai 9)) (usN 209 (gA 1) z0 z0), usB 402 (gA 1) (ai 7) z0, usB 215 (gA 1) z0 z0, eLe (.int 0) (ai 2), eLe (ZA (rA 11)) (ai 3), usB 413 (rA 12) (gA 1) z0]⟩
def ZcU (more : List Srt) (args : List SV) (g : SX) : Ctr := ⟨[.int, .g, .int, .int, .int, .int, .int, .int, .int, .int, .int, .rows, .rows, .ints, .rows, .g] ++ more, .one (.ptr (ai 0) 0) :: args,
 .cel (ai 0) 0 (ZFy g) :: ZOI ++ [pgC (rA 11) (gA 1), lsC (ai 5) (rA 14) (gA 15)],
 [eLe (.int 0) (ai 5), eLe (ai 5) (ZA (rA 12)), eqS (tk (rA 12) (ai 5)) (tk (rA 14) (ai 5)), eLe (.int 0) (ai 9), eLe (ai 9) (Zb7 (iA 13)), .f2 153 (tkI (iA 13) (ai 9)) (usN 209 g z0 z0), usB 402 g (ai 7) z0, usB 215 g z0 z0, usB 403 g (gA 1) z0, usB 216 g (gA 15) z0, .f2 45 (ZA (rA 11)) (usI 210 g z0 z0)], [], .tup [], [rpC (ai 0) g], []⟩
def ZwQ (ix : SX) (ss : List Srt) (args : List SV) (pc : List Ch) : Ctr := ⟨[.rows, .g] ++ ss, args, pgC (rA 0) (gA 1) :: pc, [eLe z0 ix, eLt ix (usI 210 (gA 1) z0 z0)], [], .tup [],
 pgO ix (rA 0) (gA 1) :: bAr (nt (rA 0) ix 0) (usY 232 (gA 1) ix z0) (nt (rA 0) ix 2) :: pc, [.f2 45 (nt (rA 0) ix 1) (ZP (usY 232 (gA 1) ix z0)), eLe (ZP (usY 232 (gA 1) ix z0)) (nt (rA 0) ix 2)]⟩
def ZF4 : Ctr := ⟨[.int, .rows, .g], [], [pgO (ai 0) (rA 1) (gA 2), bAr (nt (rA 1) (ai 0) 0) (usY 232 (gA 2) (ai 0) z0) (nt (rA 1) (ai 0) 2)], [eLe z0 (ai 0), eLt (ai 0) (usI 210 (gA 2) z0 z0), .f2 45 (ZA (rA 1)) (usI 210 (gA 2) z0 z0), .f2 45 (nt (rA 1) (ai 0) 1) (ZP (usY 232 (gA 2) (ai 0) z0))], [], .tup [], [pgC (rA 1) (gA 2)], []⟩
def ZCH : Ctr := ⟨[.int, .rows, .g, .bytes], [], [pgO (ai 0) (rA 1) (gA 2), bAr (nt (rA 1) (ai 0) 0) (bA 3) (nt (rA 1) (ai 0) 2)], [eLe z0 (ai 0), eLt (ai 0) (usI 210 (gA 2) z0 z0), .f2 45 (ZA (rA 1)) (usI 210 (gA 2) z0 z0), .f2 45 (nt (rA 1) (ai 0) 1) (ZP (bA 3)), .f2 45 (ZP (bA 3)) (pgX (gA 2)), usB 215 (gA 2) z0 z0], [], .tup [], [pgC (rA 1) (usG 400 (gA 2) (ai 0) (bA 3))], []⟩
def ZE7 (g : SX) (more : List Srt) (args : List SV) (pc : List Ch) : Ctr := ⟨[.rows, .g] ++ more, args, pgC (rA 0) (gA 1) :: pc, [usB 403 g (gA 1) z0], [], .tup [], pgC (rA 0) g :: pc, []⟩
theorem ZrS {T : Sig GG} (hT : RpSig T) (ρ : Go.Eng.Env GG) (w0 : World) (g : SX) : (Ch.cel (ai 0) 0 (ZFy g)).den T ρ w0 =
  ZNi (ρ 0).tI (Zk (g.den T ρ)) (ρ 2).tI (ρ 3).tI (ρ 4).tI (ρ 5).tI (ρ 6).tI (ρ 7).tI (ρ 8).tI (ρ 9).tI (ρ 10).tI := by
 simp only [ZFy, ZNi, Ch.den, ZUs, List.map_nil, sl1, ZaA, SC.den, pgX, sfX, usI, usB, usY, ZP, SX.den, hT.cs.dv.u200, hT.cs.dv.u201, hT.cs.dv.u202, hT.cs.dv.u203, hT.cs.dv.u204, hT.cs.dv.u205, hT.cs.dv.u206, hT.cs.dv.u207, hT.cs.dv.u208, hT.cs.dv.u210, hT.u401, Zi, Zv, Zu, ai, Za1, U.tIi, U.tQi, U.tBi, reduceCtorEq]
 rfl
theorem Zre (T : Sig GG) (ρ : Go.Eng.Env GG) (w0 : World) (g : SX) (l : List Ch) : hpDen T ρ w0 (.cel (ai 0) 0 (ZFy g) :: ZOI ++ l) =
  Zb ((Ch.cel (ai 0) 0 (ZFy g)).den T ρ w0) (Zb (rAD slT (ρ 2).tI (ρ 11).tR (ρ 3).tI) (Zb (rAD lsT (ρ 4).tI (ρ 12).tR (ρ 6).tI)
   (Zb (iAD (ρ 8).tI (ρ 13).tN (ρ 10).tI) (hpDen T ρ w0 l)))) := rfl
theorem ZaK (S : Sig GG) (hS : RpSig S) : Z7 S Znt := by
 refine Zw S fun T w0 ρ h hu hp hd hr hpre => ?_
 have hT := hS.of hu hp hd
 have e1 : hpDen T ρ w0 Znt.pre = Zb (T.prd 84 w0 ((ai 0).den T ρ) ((gA 1).den T ρ)) emp := rfl
 rw [e1, Za, hT.p84] at hpre
 have hK : ((ai 0).den T ρ).tI = (ρ 0).tI := rfl
 rw [hK] at hpre
 generalize hd' : Zk ((gA 1).den T ρ) = d at hpre
 obtain ⟨hg, lb, lc, wb, wn, wc, ac, fb, fl, fc, R, y, z, ⟨f1, f2, f3, f4, f5, f6, f7⟩, hst⟩ := hpre
 let ρ' : Go.Eng.Env GG := (((((((((((ρ.upd 2 (.int lb)).upd 3 (.int lc)).upd 4 (.int wb)).upd 5 (.int wn)).upd 6 (.int wc)).upd 7 (.int ac)).upd 8 (.int fb)).upd 9 (.int fl)).upd 10 (.int fc)).upd 11 (.rows R)).upd 12 (.rows y)).upd 13 (.ints z)
 have hlow : ∀ i, i < 2 -> ρ' i = ρ i := fun i hi => by
  show ((((((((((((ρ.upd 2 (.int lb)).upd 3 (.int lc)).upd 4 (.int wb)).upd 5 (.int wn)).upd 6 (.int wc)).upd 7 (.int ac)).upd 8 (.int fb)).upd 9 (.int fl)).upd 10 (.int fc)).upd 11 (.rows R)).upd 12 (.rows y)).upd 13 (.ints z)) i = ρ i
  simp only [Env.upd]
  repeat rw [if_neg (by omega)]
 have hgd : Zk ((gA 1).den T ρ') = d := by rw [<- hd']; rfl
 refine ⟨ρ', hlow, ?_, ?_⟩
 ·have e2 : hpDen T ρ' w0 Znt.post = hpDen T ρ' w0 (.cel (ai 0) 0 (ZFy (gA 1)) :: ZOI ++ [pgC (rA 11) (gA 1), lsC (ai 5) (rA 12) (gA 1)]) := rfl
  have e3 : hpDen T ρ' w0 [pgC (rA 11) (gA 1), lsC (ai 5) (rA 12) (gA 1)] = Zb (T.prd 80 w0 ((rA 11).den T ρ') ((gA 1).den T ρ')) (Zb (T.prd 51 w0 ((Zj (Yy (ai 5)) (rA 12)).den T ρ') ((gA 1).den T ρ')) emp) := rfl
  rw [e2, Zre, e3, Za, hT.p80, hT.cs.dv.p51, ZrS hT, hgd]
  have k1 : ((Zj (Yy (ai 5)) (rA 12)).den T ρ').tR = [wn] :: y := rfl
  rw [k1, Zbb]
  exact hst
 ·obtain ⟨_, _, hcel, hq⟩ := Zo hst
  obtain ⟨_, _, hla, hq⟩ := Zo hq
  obtain ⟨_, _, hwa, hq⟩ := Zo hq
  obtain ⟨_, _, _, hq⟩ := Zo hq
  obtain ⟨_, _, _, hq⟩ := Zo hq
  have hlen := Zhu hq
  have hqw := hq
  have hll := Zfr (fs := [.slice 1]) (by decide) hla
  have hwl := Zfr (fs := [.int .i64, .slice 1]) (by decide) hwa
  have hb0 : 0 <= lb \/ lc = 0 := by obtain ⟨_, _, _, h3, _⟩ := hla; exact h3
  have hgp := hg.pages
  intro q hq
  simp only [Znt, List.mem_cons, List.not_mem_nil, or_false] at hq
  rcases hq with rfl | rfl | rfl | rfl | rfl | rfl | rfl | rfl | rfl | rfl | rfl | rfl | rfl
  ·have : ((Go.Eng.SX.f2 45 (ZA (rA 11)) (usI 210 (gA 1) z0 z0)).den T ρ').tP ↔ (R.length : Int) = d.pages := by
    simp only [usI, ZA, SX.den, hT.cs.dv.u210, Zi, U.tIi, p45, Y8]
    rw [hgd]; exact Iff.rfl
   exact this.2 f1
  ·rw [Zg]; exact f2
  ·rw [Zg]; exact f3
  ·have : ((Go.Eng.SX.f2 45 (ai 5) (usI 211 (gA 1) z0 z0)).den T ρ').tP ↔ wn = (d.w.length : Nat) := by
    simp only [usI, SX.den, hT.cs.dv.u211, Zi, U.tIi, p45]
    rw [hgd]; exact Iff.rfl
   rw [this, <- hlen, ZUl]; omega
  ·rw [Zg]; exact Int.le_trans f3 hwl
  ·rw [Zg]; exact f4
  ·rw [Zg]; exact f5
  ·have : ((Go.Eng.SX.f2 153 (tkI (iA 13) (ai 9)) (usN 209 (gA 1) z0 z0)).den T ρ').tP ↔ z.take fl.toNat = d.keep := by
    simp only [usN, tkI, SX.den, hT.cs.dv.u209, ZQ, U.tNi, ZON, ZB]
    rw [hgd]; exact Iff.rfl
   rw [this]; exact f6
  ·have : ((usB 402 (gA 1) (ai 7) z0).den T ρ').tP ↔ (0 <= d.acts -> ac = d.acts) := by
    simp only [usB, SX.den, hT.u402, Zv, U.tPi, U.tQi, Zf]
    rw [hgd]; exact Iff.rfl
   exact this.2 f7
  ·have : ((usB 215 (gA 1) z0 z0).den T ρ').tP ↔ GoodD d := by
    simp only [usB, SX.den, hT.cs.dv.u215, Zv, U.tPi, U.tQi, Zf]
    rw [hgd]
   rw [this]; exact hg
  ·rw [Zg]
   show 0 <= lb
   rcases hb0 with h | h
   ·exact h
   ·omega
  ·rw [Zg]; exact hll
  ·have : ((usB 413 (rA 12) (gA 1) z0).den T ρ').tP ↔ ZOB y d := by
    simp only [usB, SX.den, hT.u413, Zv, U.tPi, U.tQi, Zf]
    rw [hgd]; exact Iff.rfl
   exact this.2 (ZS0 hqw)
theorem Yw (S : Sig GG) (hS : RpSig S) (more : List Srt) (args : List SV) (g : SX) : Z7 S (ZcU more args g) := by
 refine Zw S fun T w0 ρ h hu hp hd hr hpre => ⟨ρ, Ext.refl _ _, ?_, by intro x hx; exact nomatch hx⟩
 have hT := hS.of hu hp hd
 have e1 : hpDen T ρ w0 (ZcU more args g).pre = hpDen T ρ w0 (.cel (ai 0) 0 (ZFy g) :: ZOI ++ [pgC (rA 11) (gA 1), lsC (ai 5) (rA 14) (gA 15)]) := rfl
 have e2 : hpDen T ρ w0 (ZcU more args g).post = Zb (T.prd 84 w0 ((ai 0).den T ρ) (g.den T ρ)) emp := rfl
 have e3 : hpDen T ρ w0 [pgC (rA 11) (gA 1), lsC (ai 5) (rA 14) (gA 15)] = Zb (T.prd 80 w0 ((rA 11).den T ρ) ((gA 1).den T ρ)) (Zb (T.prd 51 w0 ((Zj (Yy (ai 5)) (rA 14)).den T ρ) ((gA 15).den T ρ)) emp) := rfl
 rw [e1, Zre, e3, Za, hT.p80, hT.cs.dv.p51, ZrS hT] at hpre
 rw [e2, Za, hT.p84]
 have k1 : ((Zj (Yy (ai 5)) (rA 14)).den T ρ).tR = [(ρ 5).tI] :: (ρ 14).tR := rfl
 rw [k1, Zbb] at hpre
 have r1 := hr (eLe (.int 0) (ai 5)) (by simp [ZcU])
 have r2 := hr (eLe (ai 5) (ZA (rA 12))) (by simp [ZcU])
 have r3 := hr (eqS (tk (rA 12) (ai 5)) (tk (rA 14) (ai 5))) (by simp [ZcU])
 have r4 := hr (eLe (.int 0) (ai 9)) (by simp [ZcU])
 have r5 := hr (eLe (ai 9) (Zb7 (iA 13))) (by simp [ZcU])
 have r6 := hr (.f2 153 (tkI (iA 13) (ai 9)) (usN 209 g z0 z0)) (by simp [ZcU])
 have r7 := hr (usB 402 g (ai 7) z0) (by simp [ZcU])
 have r8 := hr (usB 215 g z0 z0) (by simp [ZcU])
 have r9 := hr (usB 403 g (gA 1) z0) (by simp [ZcU])
 have r10 := hr (usB 216 g (gA 15) z0) (by simp [ZcU])
 have r11 := hr (.f2 45 (ZA (rA 11)) (usI 210 g z0 z0)) (by simp [ZcU])
 rw [Zg] at r1 r2 r4 r5
 simp only [eqS, tk, tkI, usN, usB, usI, ZA, SX.den, hT.cs.dv.u209, hT.cs.dv.u210, hT.u402, hT.cs.dv.u215, hT.cs.dv.u216, hT.u403, Zv, ZQ, Zt, Zi, p45, ZON, ZfH, Y8, ZB, ZeI, rA, iA, ai, U.tIi, U.tNi, U.tRi, U.tPi, U.tQi, Zf, U.rows.injEq] at r3 r6 r7 r8 r9 r10 r11
 have hK : ((ai 0).den T ρ).tI = (ρ 0).tI := rfl
 rw [hK]
 have hpg : (Zk ((gA 1).den T ρ)).pgs = (Zk (g.den T ρ)).pgs := by
  unfold Dv.pgs Dv.pages Dv.place
  rw [<- r9.1, <- r9.2]
 rw [hpg, <- r10, <- r3] at hpre
 exact ⟨r8, (ρ 2).tI, (ρ 3).tI, (ρ 4).tI, (ρ 5).tI, (ρ 6).tI, (ρ 7).tI, (ρ 8).tI, (ρ 9).tI, (ρ 10).tI, (ρ 11).tR, (ρ 12).tR, (ρ 13).tN, ⟨r11, r1, r2, r4, r5, r6, r7⟩, hpre⟩
theorem ZiK (S : Sig GG) (hS : RpSig S) (ix : SX) (ss : List Srt) (args : List SV) (pc : List Ch) : Z7 S (ZwQ ix ss args pc) := by
 refine Zw S fun T w0 ρ h hu hp hd hr hpre => ⟨ρ, Ext.refl _ _, ?_⟩
 have hT := hS.of hu hp hd
 have e1 : hpDen T ρ w0 (ZwQ ix ss args pc).pre = Zb (T.prd 80 w0 ((rA 0).den T ρ) ((gA 1).den T ρ)) (hpDen T ρ w0 pc) := rfl
 have e2 : hpDen T ρ w0 (ZwQ ix ss args pc).post = Zb (T.prd 81 w0 ((Zj (Yy ix) (rA 0)).den T ρ) ((gA 1).den T ρ)) (Zb (bAD ((nt (rA 0) ix 0).den T ρ).tI ((usY 232 (gA 1) ix z0).den T ρ).tB ((nt (rA 0) ix 2).den T ρ).tI) (hpDen T ρ w0 pc)) := rfl
 have r0 := hr (eLe z0 ix) (by simp [ZwQ])
 have r1 := hr (eLt ix (usI 210 (gA 1) z0 z0)) (by simp [ZwQ])
 rw [Zg] at r0
 rw [Yc] at r1
 have kg : ((usI 210 (gA 1) z0 z0).den T ρ).tI = (Zk ((gA 1).den T ρ)).pages := by simp only [usI, SX.den, hT.cs.dv.u210, Zi, U.tIi]
 have ky : ((usY 232 (gA 1) ix z0).den T ρ).tB = (Zk ((gA 1).den T ρ)).place (ix.den T ρ).tI := by simp only [usY, SX.den, hT.cs.dv.u232, Zu, U.tBi]
 have kn : ∀ k : Nat, ((nt (rA 0) ix k).den T ρ).tI = (((ρ 0).tR.getD (ix.den T ρ).tI.toNat []).getD k 0) := fun k => rfl
 have k1 : ((Zj (Yy ix) (rA 0)).den T ρ).tR = [(ix.den T ρ).tI] :: (ρ 0).tR := rfl
 have k2 : ((rA 0).den T ρ).tR = (ρ 0).tR := rfl
 have r0 : 0 <= (ix.den T ρ).tI := r0
 have r1 : (ix.den T ρ).tI < (Zk ((gA 1).den T ρ)).pages := by rw [<- kg]; exact r1
 rw [e1, hT.p80, k2] at hpre
 rw [e2, hT.p81, k1, ZoW, kn, kn, ky]
 have hf : ∀ x ∈ (ZwQ ix ss args pc).facts, x = .f2 45 (nt (rA 0) ix 1) (ZP (usY 232 (gA 1) ix z0)) \/ x = eLe (ZP (usY 232 (gA 1) ix z0)) (nt (rA 0) ix 2) := by
  intro x hx; simpa [ZwQ] using hx
 have kl : ((ZP (usY 232 (gA 1) ix z0)).den T ρ).tI = ((Zk ((gA 1).den T ρ)).place (ix.den T ρ).tI).length := by
  show (ap1 31 ((usY 232 (gA 1) ix z0).den T ρ)).tI = _
  rw [Za1, ky]; rfl
 generalize Zk ((gA 1).den T ρ) = d at hpre r1 ky kl ⊢
 generalize (ρ 0).tR = R at hpre kn ⊢
 generalize (ix.den T ρ).tI = n at *
 have hl : R.length = d.pgs.length := by obtain ⟨_, _, q, _⟩ := Zo hpre; exact ZdR (by assumption)
 rw [ZbI] at hl
 rw [Zeh (by rw [ZbI]; exact hl) (i := n.toNat) (by omega), ZIs (by omega), Int.toNat_of_nonneg r0, star_assoc] at hpre
 have hq : (R.getD n.toNat []).getD 1 0 = (d.place n).length /\ ((d.place n).length : Int) <= (R.getD n.toNat []).getD 2 0 := by
  obtain ⟨_, _, _, hq⟩ := Zo hpre
  obtain ⟨_, _, hq, _⟩ := Zo hq
  exact ⟨hq.1, Zgy hq.2⟩
 refine ⟨Zy (fun _ x => x) (fun _ x => Zy (fun _ y => y.2) (fun _ y => y) _ x) _ hpre, fun x hx => ?_⟩
 rcases hf x hx with rfl | rfl
 ·have : ((Go.Eng.SX.f2 45 (nt (rA 0) ix 1) (ZP (usY 232 (gA 1) ix z0))).den T ρ).tP ↔ ((nt (rA 0) ix 1).den T ρ).tI = ((ZP (usY 232 (gA 1) ix z0)).den T ρ).tI := by rw [SX.den, p45]
  rw [this, kl, kn]; exact hq.1
 ·rw [Zg, kl, kn]; exact hq.2
theorem Zt0 (S : Sig GG) (hS : RpSig S) : Z7 S ZF4 := by
 refine Zw S fun T w0 ρ h hu hp hd hr hpre => ⟨ρ, Ext.refl _ _, ?_, by intro x hx; exact nomatch hx⟩
 have hT := hS.of hu hp hd
 have e1 : hpDen T ρ w0 ZF4.post = Zb (T.prd 80 w0 ((rA 1).den T ρ) ((gA 2).den T ρ)) emp := rfl
 have e2 : hpDen T ρ w0 ZF4.pre = Zb (T.prd 81 w0 ((Zj (Yy (ai 0)) (rA 1)).den T ρ) ((gA 2).den T ρ)) (Zb (bAD ((nt (rA 1) (ai 0) 0).den T ρ).tI ((usY 232 (gA 2) (ai 0) z0).den T ρ).tB ((nt (rA 1) (ai 0) 2).den T ρ).tI) emp) := rfl
 have r0 := hr (eLe z0 (ai 0)) (by simp [ZF4])
 have r1 := hr (eLt (ai 0) (usI 210 (gA 2) z0 z0)) (by simp [ZF4])
 have r2 := hr (.f2 45 (ZA (rA 1)) (usI 210 (gA 2) z0 z0)) (by simp [ZF4])
 have r3 := hr (.f2 45 (nt (rA 1) (ai 0) 1) (ZP (usY 232 (gA 2) (ai 0) z0))) (by simp [ZF4])
 rw [Zg] at r0
 rw [Yc] at r1
 rw [SX.den, p45] at r2 r3
 have kg : ((usI 210 (gA 2) z0 z0).den T ρ).tI = (Zk ((gA 2).den T ρ)).pages := by simp only [usI, SX.den, hT.cs.dv.u210, Zi, U.tIi]
 have ky : ((usY 232 (gA 2) (ai 0) z0).den T ρ).tB = (Zk ((gA 2).den T ρ)).place (ρ 0).tI := by simp only [usY, SX.den, hT.cs.dv.u232, Zu, U.tBi]; rfl
 have kn : ∀ k : Nat, ((nt (rA 1) (ai 0) k).den T ρ).tI = (((ρ 1).tR.getD (ρ 0).tI.toNat []).getD k 0) := fun k => rfl
 have k1 : ((Zj (Yy (ai 0)) (rA 1)).den T ρ).tR = [(ρ 0).tI] :: (ρ 1).tR := rfl
 have k2 : ((rA 1).den T ρ).tR = (ρ 1).tR := rfl
 have kl : ((ZP (usY 232 (gA 2) (ai 0) z0)).den T ρ).tI = ((Zk ((gA 2).den T ρ)).place (ρ 0).tI).length := by
  show (ap1 31 ((usY 232 (gA 2) (ai 0) z0).den T ρ)).tI = _
  rw [Za1, ky]; rfl
 have r0 : 0 <= (ρ 0).tI := r0
 rw [kg] at r1 r2
 rw [kl, kn] at r3
 have r1 : (ρ 0).tI < (Zk ((gA 2).den T ρ)).pages := r1
 have r2 : ((ρ 1).tR.length : Int) = (Zk ((gA 2).den T ρ)).pages := r2
 rw [e2, Za, hT.p81, k1, ZoW, kn, kn, ky] at hpre
 rw [e1, Za, hT.p80, k2]
 generalize Zk ((gA 2).den T ρ) = d at hpre r1 r2 r3 ⊢
 generalize (ρ 1).tR = R at hpre r2 r3 ⊢
 generalize (ρ 0).tI = n at *
 rw [Zeh (by rw [ZbI]; omega) (i := n.toNat) (by omega), ZIs (by omega), Int.toNat_of_nonneg r0]
 obtain ⟨a, b, dd, rfl, ha, hb⟩ := hpre
 exact ⟨a, b, dd, rfl, ha, r3, hb⟩
theorem ZC6 (S : Sig GG) (hS : RpSig S) : Z7 S ZCH := by
 refine Zw S fun T w0 ρ h hu hp hd hr hpre => ⟨ρ, Ext.refl _ _, ?_, by intro x hx; exact nomatch hx⟩
 have hT := hS.of hu hp hd
 have e1 : hpDen T ρ w0 ZCH.post = Zb (T.prd 80 w0 ((rA 1).den T ρ) ((usG 400 (gA 2) (ai 0) (bA 3)).den T ρ)) emp := rfl
 have e2 : hpDen T ρ w0 ZCH.pre = Zb (T.prd 81 w0 ((Zj (Yy (ai 0)) (rA 1)).den T ρ) ((gA 2).den T ρ)) (Zb (bAD ((nt (rA 1) (ai 0) 0).den T ρ).tI (ρ 3).tB ((nt (rA 1) (ai 0) 2).den T ρ).tI) emp) := rfl
 have r0 := hr (eLe z0 (ai 0)) (by simp [ZCH])
 have r1 := hr (eLt (ai 0) (usI 210 (gA 2) z0 z0)) (by simp [ZCH])
 have r2 := hr (.f2 45 (ZA (rA 1)) (usI 210 (gA 2) z0 z0)) (by simp [ZCH])
 have r3 := hr (.f2 45 (nt (rA 1) (ai 0) 1) (ZP (bA 3))) (by simp [ZCH])
 have r4 := hr (.f2 45 (ZP (bA 3)) (pgX (gA 2))) (by simp [ZCH])
 have r5 := hr (usB 215 (gA 2) z0 z0) (by simp [ZCH])
 rw [Zg] at r0
 rw [Yc] at r1
 rw [SX.den, p45] at r2 r3 r4
 simp only [usB, SX.den, hT.cs.dv.u215, Zv, U.tPi, U.tQi, Zf] at r5
 have kg : ((usI 210 (gA 2) z0 z0).den T ρ).tI = (Zk ((gA 2).den T ρ)).pages := by simp only [usI, SX.den, hT.cs.dv.u210, Zi, U.tIi]
 have kp : ((pgX (gA 2)).den T ρ).tI = (Zk ((gA 2).den T ρ)).page := by simp only [pgX, usI, SX.den, hT.cs.dv.u200, Zi, U.tIi]
 have kn : ∀ k : Nat, ((nt (rA 1) (ai 0) k).den T ρ).tI = (((ρ 1).tR.getD (ρ 0).tI.toNat []).getD k 0) := fun k => rfl
 have k1 : ((Zj (Yy (ai 0)) (rA 1)).den T ρ).tR = [(ρ 0).tI] :: (ρ 1).tR := rfl
 have k2 : ((rA 1).den T ρ).tR = (ρ 1).tR := rfl
 have k3 : Zk ((usG 400 (gA 2) (ai 0) (bA 3)).den T ρ) = (Zk ((gA 2).den T ρ)).putPg (ρ 0).tI (ρ 3).tB := by simp only [usG, SX.den, hT.u400, Zbf, Zr]; rfl
 have r0 : 0 <= (ρ 0).tI := r0
 rw [kg] at r1 r2
 rw [kn] at r3
 rw [kp] at r4
 have r1 : (ρ 0).tI < (Zk ((gA 2).den T ρ)).pages := r1
 have r2 : ((ρ 1).tR.length : Int) = (Zk ((gA 2).den T ρ)).pages := r2
 have r3 : ((ρ 1).tR.getD (ρ 0).tI.toNat []).getD 1 0 = ((ρ 3).tB.length : Nat) := r3
 have r4 : (((ρ 3).tB.length : Nat) : Int) = (Zk ((gA 2).den T ρ)).page := r4
 have r5 : GoodD (Zk ((gA 2).den T ρ)) := r5
 rw [e2, Za, hT.p81, k1, ZoW, kn, kn] at hpre
 rw [e1, Za, hT.p80, k2, k3]
 generalize Zk ((gA 2).den T ρ) = d at hpre r1 r2 r3 r4 r5 ⊢
 generalize (ρ 1).tR = R at hpre r2 r3 ⊢
 generalize (ρ 0).tI = n at *
 generalize (ρ 3).tB = x at *
 have hput := ZK6 r5 r0 r1 r4
 have hl := ZbI d
 have e3 : (d.putPg n x).pgs.take n.toNat = d.pgs.take n.toNat := by rw [hput, List.take_append_of_le_length (by rw [ZUl]; omega), List.take_take, Nat.min_self]
 have e4 : (d.putPg n x).pgs.drop (n.toNat + 1) = d.pgs.drop (n.toNat + 1) := by
  rw [hput, List.drop_append, List.drop_of_length_le (by rw [ZUl]; omega), List.nil_append, ZUl, Nat.min_eq_left (by omega), show n.toNat + 1 - n.toNat = 1 by omega]; rfl
 have e5 : (d.putPg n x).pgs.getD n.toNat [] = x := by
  rw [hput, ZUj, ZUC (by rw [ZUl]; omega), ZUl, Nat.min_eq_left (by omega), Nat.sub_self]; rfl
 rw [Zeh (by rw [ZbI, (Zmy r5 r0 r1 r4).2]; omega) (i := n.toNat) (by omega), e3, e4, e5]
 obtain ⟨a, b, dd, rfl, ha, hb⟩ := hpre
 exact ⟨a, b, dd, rfl, ha, r3, hb⟩
theorem ZgJ (S : Sig GG) (hS : RpSig S) (g : SX) (more : List Srt) (args : List SV) (pc : List Ch) : Z7 S (ZE7 g more args pc) := by
 refine Zw S fun T w0 ρ h hu hp hd hr hpre => ⟨ρ, Ext.refl _ _, ?_, by intro x hx; exact nomatch hx⟩
 have hT := hS.of hu hp hd
 have e1 : hpDen T ρ w0 (ZE7 g more args pc).pre = Zb (T.prd 80 w0 ((rA 0).den T ρ) ((gA 1).den T ρ)) (hpDen T ρ w0 pc) := rfl
 have e2 : hpDen T ρ w0 (ZE7 g more args pc).post = Zb (T.prd 80 w0 ((rA 0).den T ρ) (g.den T ρ)) (hpDen T ρ w0 pc) := rfl
 have r := hr (usB 403 g (gA 1) z0) (by simp [ZE7])
 simp only [usB, SX.den, hT.u403, Zv, U.tPi, U.tQi, Zf] at r
 rw [e1, hT.p80] at hpre
 rw [e2, hT.p80]
 have hpg : (Zk ((gA 1).den T ρ)).pgs = (Zk (g.den T ρ)).pgs := by
  unfold Dv.pgs Dv.pages Dv.place
  rw [<- r.1, <- r.2]
 rw [<- hpg]; exact hpre
def ZuV : Ctr := ⟨[.int, .g, .int], [.one (.ptr (ai 0) 0), .one (.int .i64 (ai 2))], [rpC (ai 0) (gA 1)], [eLe z0 (ai 2), eLt (ai 2) (usI 210 (gA 1) z0 z0), eLe (usI 211 (gA 1) z0 z0) Zau], [.int, .bytes, .int],
 .one (sl1 (ai 3) (ZP (bA 4)) (ai 5)), [rpC (ai 0) (gA 1), bAr (ai 3) (bA 4) (ai 5)], [eqS (bA 4) (usY 411 (gA 1) (ai 2) z0), eLe z0 (ai 3), eLe (ZP (bA 4)) (ai 5)]⟩
def rdgI : Inv := ⟨[.int, .int, .int, .bytes], [(6, .one (.int .i64 (di 0))), (5, .one (sl1 (di 1) (ZP (bA 1000003)) (di 2)))], [bAr (di 1) (bA 1000003) (di 2)],
 [eLe z0 (di 0), eLe (di 0) (ai 6), eqS (bA 1000003) (usY 404 (gA 1) (ai 2) (di 0)), eLe z0 (di 1), eLe (ZP (bA 1000003)) (di 2)], .f2 41 (ai 6) (di 0)⟩
def ZQU : Cx := { specs := [], anns := [(91, [(1, .ghost Znt [.tmp 0]), (1, .ghost (ZwQ (ai 2) [.int] [.one (.int .i64 (ai 2))] []) [.tmp 1]), (500001, .ghost ZF4 []), (3, .inv rdgI), (6, .ghost ZpZ [.tmp 6]), (500006, .ghost Zjh []), (999999, .ghost (ZcU [] [] (gA 1)) [.tmp 0])])] }
def ZAc : Ctr := ⟨[.int, .g, .int], [.one (.ptr (ai 0) 0), .one (.int .i64 (ai 2))], [rpC (ai 0) (gA 1)], [eLe (usI 205 (gA 1) z0 z0) Zau, eLe (usI 211 (gA 1) z0 z0) Zau], [.int, .int, .int, .bytes, .int],
 .tup [(false, [sl1 (ai 3) (ai 4) (ai 5)]), (false, [.int .i64 (ai 7)])], [rpC (ai 0) (usG 220 (gA 1) (ai 2) z0), bAr (ai 3) (bA 6) (ai 5)],
 [eqS (bA 6) (usY 223 (gA 1) (ai 2) z0), .f2 45 (ai 4) (ZP (bA 6)), eLe (ai 4) (ai 5), .f2 45 (ai 7) (usI 213 (gA 1) (ai 2) z0), .f2 50 (eLe (.int 0) (ai 3)) (.f2 45 (ai 4) z0)]⟩
def ZQh : Cx := { specs := [(91, [ZuV])], anns := [(82, [(1, .ghost Znt [.tmp 0]), (2, .ghost Ztn []), (2, .ghost (ZcU [] [] (usG 234 (gA 1) z0 z0)) [.tmp 0]), (4, .ghost Ztn []), (4, .ghost (ZcU [] [] (usG 234 (gA 1) z0 z0)) [.tmp 0]), (6, .ghost (ZcU [.int] [.one (.int .i64 (ai 16))] (usG 220 (gA 1) (ai 16) z0)) [.tmp 0, .tmp 1])])] }
def ZrW : Ctr := ⟨[.int, .g, .int, .int, .int, .int, .int, .int, .int, .int, .int, .rows, .rows, .ints], [.one (.ptr (ai 0) 0), .agg [sl1 (ai 8) (ai 9) (ai 10), .int .i64 (usI 203 (gA 1) z0 z0), .int .i64 (usI 204 (gA 1) z0 z0)]],
 .cel (ai 0) 0 (ZFy (gA 1)) :: ZOI ++ [pgC (rA 11) (gA 1), lsC (ai 5) (rA 12) (gA 1)],
 [eLe (.int 0) (ai 5), eLe (ai 5) (ZA (rA 12)), .f2 45 (ai 5) (usI 211 (gA 1) z0 z0), eLe (ai 5) Zau, eLe (.int 0) (ai 9), eLe (ai 9) (Zb7 (iA 13)), eLe (ai 9) (.int 140737488355328), .f2 153 (tkI (iA 13) (ai 9)) (usN 209 (gA 1) z0 z0), usB 215 (gA 1) z0 z0, usB 413 (rA 12) (gA 1) z0, .f2 45 (ZA (rA 11)) (usI 210 (gA 1) z0 z0)], [], .tup [], [rpC (ai 0) (usG 225 (gA 1) z0 z0)], []⟩
def wpX : SX := nt (rA 12) (ai 15) 0
def rfaI1 : Inv := ⟨[.int], [(4, .one (.int .i64 (di 0)))], [pgC (rA 11) (usG 406 (gA 1) (di 0) z0)], [eLe z0 (di 0), eLe (di 0) (ai 5)], .f2 41 (ai 5) (di 0)⟩
def rfaI2 : Inv := ⟨[.int], [(7, .one (.int .i64 (di 0))), (6, .one (.int .i64 (usI 412 (gA 1) (ai 15) (di 0))))], [], [eLe z0 (di 0), eLe (di 0) (ai 9)], .f2 41 (ai 9) (di 0)⟩
def rfaI3 : Inv := ⟨[.int, .int, .bytes], [(8, .one (.int .i64 (di 0))), (6, .one (.int .i64 (di 1)))], [bAr (nt (rA 11) wpX 0) (bA 1000002) (nt (rA 11) wpX 2)],
 [eLe z0 (di 0), eLe (di 0) (pgX (gA 1)), .f2 50 (eLe (di 0) z0) (eLe (di 0) (di 1)), eqS (bA 1000002) (usY 407 (usY 212 (gA 1) (ai 15) z0) (usY 232 (usG 406 (gA 1) (ai 15) z0) wpX z0) (di 0)), .f2 45 (ZP (bA 1000002)) (pgX (gA 1)), .f2 45 (.f2 51 (.f2 52 (di 1) z0) (pgX (gA 1))) (usI 410 (gA 1) (ai 15) z0)], .f2 41 (pgX (gA 1)) (di 0)⟩
def ZTB : Cx := { specs := [], anns := [(84, [(1, .ghost (ZE7 (usG 406 (gA 2) z0 z0) [.g, .int, .rows] [] [lsC (ai 3) (rA 4) (gA 2)]) []), (2, .inv rfaI1), (7, .inv rfaI2), (13, .ghost ZpZ [.tmp 4]), (13, .ghost (ZwQ (ai 3) [.int, .int, .int, .int, .int] [.one (.ptr (ai 2) 0)] [.cel (ai 2) 0 [.int .i64 (ai 3), sl1 (ai 4) (ai 5) (ai 6)]]) [.tmp 5]), (14, .inv rfaI3),
 (3, .ghost Zjh []), (3, .ghost ZCH []), (3, .ghost (ZE7 (usG 406 (gA 2) (Zgf (ai 5)) z0) [.g, .int, .rows, .int] [.one (.int .i64 (ai 5))] [lsC (ai 3) (rA 4) (gA 2)]) [.tmp 4]), (17, .ghost (ZIw 225) []), (999999, .ghost (ZcU [] [] (usG 234 (gA 15) z0 z0)) [.tmp 0])])] }
def ZrT : Ctr := ⟨[.int, .g, .int, .int, .int, .int, .int, .bytes, .int], [.one (.ptr (ai 0) 0), .one (.int .i64 (ai 2)), .one (slR 3)], [rpC (ai 0) (gA 1), ZtS 0 3],
 [eLe (.int 0) (ai 5), eLe (ai 5) (ZP (bA 7)), eLe (ai 5) (ai 6), eLe (ai 5) (.int 1099511627776), .f2 50 (eLe (.int 0) (ai 3)) (.f2 45 (ai 5) z0), eLe (usI 206 (gA 1) z0 z0) Zau, eLe (usI 211 (gA 1) z0 z0) (.int 1099511627776), eLe (.f1 30 (usN 209 (gA 1) z0 z0)) (.int 140737488355328)], [],
 .one (.int .i64 (usI 222 (gA 1) (ai 2) wbX)), [rpC (ai 0) (usG 221 (gA 1) (ai 2) wbX), ZtS 0 3], []⟩
def ZPI : Cx := { specs := [(84, [ZrW])], anns := [(59, [(1, .ghost Znt [.tmp 0]),
 (2, .ghost (ZcU [] [] (usG 234 (gA 1) z0 z0)) [.tmp 0]), (4, .ghost (ZcU [] [] (usG 234 (gA 1) z0 z0)) [.tmp 0]), (6, .ghost (ZcU [] [] (usG 234 (gA 1) z0 z0)) [.tmp 0]), (10, .ghost ZEP [.tmp 1, .tmp 51]), (10, .ghost (ZE7 (gA 2) [.g, .int, .rows] [] [lsC (ai 3) (rA 4) (gA 2)]) []), (13, .ghost (ZcU [] [] (usG 233 (gA 15) z0 z0)) [.tmp 0])])] }
def ZIX : SX := v 210 (g 1)
def ZNL : SX := v 211 (g 1)
def ZhP : SX := .f3 112 (r 12) (a 2) (k 1)
def ZNT : SX := wB 232 (g 1) (a 2)
def ZGh : SX := .f1 31 ZNT
def ZJg : SX := .f3 112 (r 12) (a 2) (k 2)
def ZJt : SX := l z (a 15)
def ZMa : SX := .f2 114 ZNT ZhP
def ZK7 : SX := .f1 31 ZMa
def ZKj : SX := .f3 112 (r 13) (a 17) z
def ZC0 : SX := e ZKj (a 2)
def Zez : SX := .f3 112 (r 13) (a 17) (k 2)
def Zrz : SX := .f2 114 (b 21) Zez
def Zw0 : SX := l z (a 22)
def ZhY : SX := .f2 40 (a 17) (k 1)
def ZxZ : SX := .f1 23 ZhY
def Zx7 : SX := .f2 41 (a 6) ZhY
def ZvJ : SX := l z Zx7
def Zw3 : SX := t Zx7 (.f2 41 (a 6) (a 17))
def ZDS : SX := l z ZhY
def ZyJ : SX := l ZhY (a 6)
def ZDf : SX := hB 404 (g 1) (a 2) ZhY
def Zv0 : SX := .f1 31 Zrz
def Zzw : SX := .f2 115 (r 13) (a 6)
def ZS5 : VC := i (l z (a 2)) (i (t (a 2) ZIX) (i (l ZNL k2) (u 3 .int (u 4 .int (u 5 .int (u 6 .int (u 7 .int (u 8 .int (u 9 .int (u 10 .int (u 11 .int (u 12 .rows (u 13 .rows (u 14 .ints (i (e (.f1 32 (r 12)) ZIX) (i (l z (a 6)) (i (l (a 6) (.f1 32 (r 13))) (i (e (a 6) ZNL) (i (l (a 6) (a 7)) (i (l z (a 10)) (i (l (a 10) (.f1 30 (s 14))) (i (.f2 153 (.f2 113 (s 14) (a 10)) (o 209 (g 1))) (i (c 402 (g 1) (a 8)) (i (p 215 (g 1)) (i (l z (a 3)) (i (l (.f1 32 (r 12)) (a 4)) (i (c 413 (r 13) (g 1)) (i (e ZhP ZGh) (i (l ZGh ZJg) (n (t (a 2) (.f1 32 (r 12))) (n (l (.f2 42 ZhP (k 1)) k1) (n (l z ZhP) (n (l ZhP ZJg) (n (l ZhP ZGh) (u 15 .int (u 16 .int (i (l ZhP (a 16)) (i (.f2 50 ZJt (e ZhP z)) (n (.f2 155 ZMa (wB 404 (g 1) (a 2))) (n ZJt (n (l ZK7 (a 16)) (n (e ZK7 ZhP) (u 17 .int (u 18 .int (u 19 .int (u 20 .bytes (i (l z (a 17)) (i (l (a 17) (a 6)) (i (.f2 155 (b 20) (hB 404 (g 1) (a 2) (a 17))) (i (l z (a 18)) (i (l (.f1 31 (b 20)) (a 19)) (.and (i (t (a 17) (a 6)) (n (t (a 17) (.f1 32 (r 13))) (.and (i ZC0 (u 21 .bytes (i (l z Zez) (i (l Zez (.f1 31 (b 21))) (i (.f2 155 Zrz (wB 212 (g 1) (a 17))) (i (e ZKj (d 217 (g 1) (a 17))) (i (l Zez (.f3 112 (r 13) (a 17) (k 3))) (n (l (.f2 42 Zez (k 1)) k1) (u 22 .int (u 23 .int (i (l Zez (a 23)) (i (.f2 50 Zw0 (e Zez z)) (n ZxZ (n ZvJ (n Zw3 (n ZDS (n ZyJ (n (.f2 155 Zrz ZDf) (n Zw0 (n (l Zv0 (a 23)) (n (e Zv0 Zez) .tt))))))))))))))))))))) (i (.f1 2 ZC0) (n ZxZ (n ZvJ (n Zw3 (n ZDS (n ZyJ (n (.f2 155 (b 20) ZDf) .tt)))))))))) (i (l (a 6) (a 17)) (n (.f2 155 Zzw Zzw) (n (c 403 (g 1) (g 1)) (n (c 216 (g 1) (g 1)) (n (.f2 155 (b 20) (wB 411 (g 1) (a 2))) .tt)))))))))))))))))))))))))))))))))))))))))))))))))))))))))
theorem ZRr : Yk Tryz.prog ZQU 12 91 ZuV = ZS5 := by kernel_rfl
theorem ZGt (d : Dv) (n : Int) : ZF5 d n 0 = d.place n := by
 unfold ZF5
 rw [if_neg (by show ¬ (0 : Int) <= -1; decide)]
theorem ZKI {d : Dv} {n i : Int} (h0 : 0 <= i) (h1 : i < d.w.length) : ZF5 d n (i + 1) = if d.pg i = n then d.dat i else ZF5 d n i := by
 have e : d.w.take (i + 1).toNat = d.w.take i.toNat ++ [d.w.getD i.toNat (0, [])] := by
  rw [show (i + 1).toNat = i.toNat + 1 by omega, List.take_add_one, ZUj, ZUm (by omega)]; rfl
 have e2 : Zaw n 0 (d.w.take (i + 1).toNat) (-1) = if d.pg i = n then i else Zaw n 0 (d.w.take i.toNat) (-1) := by
  rw [e, Zho]
  show (if d.pg i = n then (0 : Int) + ((d.w.take i.toNat).length : Nat) else _) = _
  rw [ZUl, Nat.min_eq_left (by omega), Int.zero_add, Int.toNat_of_nonneg h0]
 unfold ZF5
 rw [e2]
 by_cases h : d.pg i = n
 ·rw [if_pos h, if_pos h0, if_pos h]
 ·rw [if_neg h, if_neg h]
theorem ZSh (d : Dv) (n : Int) : ZF5 d n d.w.length = d.read n := by
 unfold ZF5 Dv.read Dv.last
 rw [ZUq, List.take_length]
theorem ZTM (S : Sig GG) (hS : RpSig S) : Zs S Tryz.prog 91 ZuV := by
 refine Zd S (C := ZQU) (fuel := 12) (Zx trivial ⟨⟨⟨by decide, ZaK S hS⟩, ⟨by decide, ZiK S hS _ _ _ _⟩, ⟨by decide, Zt0 S hS⟩, trivial, ⟨by decide, Zfe S hS.cs.dv⟩, ⟨by decide, Zfd S hS.cs.dv⟩, ⟨by decide, Yw S hS _ _ _⟩, trivial⟩, trivial⟩ trivial) fun ρ => ?_
 rw [ZRr]
 simp only [ZS5, ZIX, ZNL, ZhP, ZNT, ZGh, ZJg, ZJt, ZMa, ZK7, ZKj, ZC0, Zez, Zrz, Zw0, ZhY, ZxZ, Zx7, ZvJ, Zw3, ZDS, ZyJ, ZDf, Zv0, Zzw, Zbf, Zr, Zq, VC.den, SX.den, ZN, Env.upd, ZS, Zao, Z3, Z2, ZB, ZI, ZJ, ZeO, Zeb, Zcs, Zcq, ZR, ZW, ZiY, ZH, beq_iff_eq, Bool.not_eq_true', beq_eq_false_iff_ne, ne_eq, Bool.not_not, U.tMi, Int.toNat_zero, Nat.reduceEqDiff, reduceIte, Zf, ZK, ZG, U.int.injEq, sdv hS.cs.dv, srp hS, sB]
 generalize Zk (U.co S .g (ρ 1)) = d
 generalize (ρ 2).tI = n
 intro n0 n1 hw i3 i4 i5 i6 i7 i8 i9 i10 i11 R Y Z hR h1 h2 h3 h4 h5 h6 h7 h8 hg h9 h10 hY p1 p2
 have hb := Yv hg
 have hpl := Za0 hg n0 n1
 rw [hpl] at p1 p2
 have hp1 : (R.getD n.toNat []).getD (Int.toNat 1) 0 = d.page := p1
 have hts : d.place n = (d.place n).take d.page.toNat := by rw [ZUv (by omega)]
 rw [hp1, <- hts, hpl]
 refine ⟨by omega, by omega, by omega, by omega, by omega, fun b c q1 q2 => ⟨(ZGt d n).symm, by omega, by omega, by first | rfl | trivial, fun i k kc X i0 i1 hX k0 kl => ⟨fun hi => ?_, fun hi => ?_⟩⟩⟩
 ·have hyi := hY i i0 (by omega)
  have hst := ZKI (n := n) i0 (show i < d.w.length by omega)
  refine ⟨by omega, fun he => ?_, fun hne => ?_⟩
  ·intro B s1 s2 s3 s4 s5
   have hdl := ZaB hg i0 (show i < d.w.length by omega)
   have hL : ((Y.getD i.toNat []).getD (Int.toNat 2) 0) = d.page := by
    rw [<- hdl.1, <- s3, ZUl]; omega
   have hpg : d.pg i = n := by rw [<- hyi]; exact he
   rw [if_pos hpg] at hst
   rw [hL] at s3 s2 s5 ⊢
   rw [hst, s3]
   exact ⟨by omega, fun b2 c2 t1 t2 => ⟨⟨by omega, by omega⟩, by omega, by omega, by omega, by omega, rfl, by omega, by omega, by omega, trivial⟩⟩
  ·have hpg : ¬ d.pg i = n := fun h => hne (by rw [<- h, <- hyi])
   rw [if_neg hpg] at hst
   rw [hst]
   exact ⟨⟨by omega, by omega⟩, by omega, by omega, by omega, by omega, hX, trivial⟩
 ·have hi : i = d.w.length := by omega
  rw [hi, ZSh] at hX
  exact ⟨by first | rfl | trivial, ⟨by first | rfl | trivial, by first | rfl | trivial⟩, by first | rfl | trivial, hX, trivial⟩
def ZFp : SX := v 205 (g 1)
def ZJz : SX := v 211 (g 1)
def Zpe : SX := v 210 (g 1)
def ZGz : SX := .f2 113 (s 14) (a 10)
def Zyf : SX := p 201 (g 1)
def ZLQ : SX := .f2 115 (r 13) (a 6)
def ZBK : SX := .f2 155 ZLQ ZLQ
def Zc9 : SX := w 234 (g 1)
def ZF1 : SX := .f2 153 ZGz (o 209 Zc9)
def ZEY : SX := c 402 Zc9 (a 8)
def Zr7 : SX := p 215 Zc9
def ZqO : SX := c 403 Zc9 (g 1)
def Zqr : SX := c 216 Zc9 (g 1)
def Zwz : SX := v 210 Zc9
def ZrP : SX := e (.f1 32 (r 12)) Zwz
def Zxt : SX := v 207 (g 1)
def Zso : SX := e (v 207 Zc9) Zxt
def ZuZ : SX := v 206 (g 1)
def Zqe : SX := e (v 206 Zc9) ZuZ
def Zr0 : SX := e (v 205 Zc9) ZFp
def ZAu : SX := v 204 (g 1)
def Zqf : SX := e (v 204 Zc9) ZAu
def ZvT : SX := v 203 (g 1)
def Zr6 : SX := e (v 203 Zc9) ZvT
def ZuP : SX := p 401 (g 1)
def Zqb : SX := .f2 155 (p 401 Zc9) ZuP
def ZqR : SX := .f2 155 (p 201 Zc9) Zyf
def ZrJ : SX := e Zwz Zpe
def ZwY : SX := v 200 (g 1)
def ZqQ : SX := e (v 200 Zc9) ZwY
def Zzy : SX := wB 223 (g 1) (a 2)
def Zq5 : SX := .f2 155 (.f1 153 z) Zzy
def ZqI : SX := d 213 (g 1) (a 2)
def Y7 : SX := f 220 (g 1) (a 2)
def ZqH : SX := .f2 155 Y7 Zc9
def Zxx : SX := e (k 30) ZqI
def ZAK : SX := .f2 40 ZFp (k 1)
def Zqx : SX := v 210 Y7
def ZBq : SX := l z (a 15)
def ZQJ : VC := i (l ZFp k2) (i (l ZJz k2) (u 3 .int (u 4 .int (u 5 .int (u 6 .int (u 7 .int (u 8 .int (u 9 .int (u 10 .int (u 11 .int (u 12 .rows (u 13 .rows (u 14 .ints (i (e (.f1 32 (r 12)) Zpe) (i (l z (a 6)) (i (l (a 6) (.f1 32 (r 13))) (i (e (a 6) ZJz) (i (l (a 6) (a 7)) (i (l z (a 10)) (i (l (a 10) (.f1 30 (s 14))) (i (.f2 153 ZGz (o 209 (g 1))) (i (c 402 (g 1) (a 8)) (i (p 215 (g 1)) (i (l z (a 3)) (i (l (.f1 32 (r 12)) (a 4)) (i (c 413 (r 13) (g 1)) (.and (i Zyf (n ZBK (n ZF1 (n ZEY (n Zr7 (n ZqO (n Zqr (n ZrP (n Zso (n Zqe (n Zr0 (n Zqf (n Zr6 (n Zqb (n ZqR (n ZrJ (n ZqQ (n Zq5 (n (e (k 3) ZqI) (n ZqH .tt)))))))))))))))))))) (i (.f1 2 Zyf) (.and (i (l z (a 2)) (n (l z Zpe) (.and (i (l Zpe (a 2)) (n ZBK (n ZF1 (n ZEY (n Zr7 (n ZqO (n Zqr (n ZrP (n Zso (n Zqe (n Zr0 (n Zqf (n Zr6 (n Zqb (n ZqR (n ZrJ (n ZqQ (n Zq5 (n Zxx (n ZqH .tt)))))))))))))))))))) (i (t (a 2) Zpe) (n (.f1 23 ZAK) (n ZBK (n (.f2 153 ZGz (o 209 Y7)) (n (c 402 Y7 (a 8)) (n (p 215 Y7) (n (c 403 Y7 (g 1)) (n (c 216 Y7 (g 1)) (n (e (.f1 32 (r 12)) Zqx) (n (e (v 207 Y7) Zxt) (n (e (v 206 Y7) ZuZ) (n (e (v 205 Y7) ZAK) (n (e (v 204 Y7) ZAu) (n (e (v 203 Y7) ZvT) (n (.f2 155 (p 401 Y7) ZuP) (n (.f2 155 (p 201 Y7) Zyf) (n (e Zqx Zpe) (n (e (v 200 Y7) ZwY) (n (t (a 2) Zqx) (n (l (v 211 Y7) k2) (u 15 .int (u 16 .bytes (u 17 .int (i (.f2 155 (b 16) (wB 411 Y7 (a 2))) (i ZBq (i (l (.f1 31 (b 16)) (a 17)) (n (.f2 155 (b 16) Zzy) (n (e (.f1 31 (b 16)) (.f1 31 (b 16))) (n (e z ZqI) (n (.f2 50 ZBq (e (.f1 31 (b 16)) z)) .tt))))))))))))))))))))))))))))))))) (i (t (a 2) z) (n ZBK (n ZF1 (n ZEY (n Zr7 (n ZqO (n Zqr (n ZrP (n Zso (n Zqe (n Zr0 (n Zqf (n Zr6 (n Zqb (n ZqR (n ZrJ (n ZqQ (n Zq5 (n Zxx (n ZqH .tt)))))))))))))))))))))))))))))))))))))))))))))))))
theorem ZQp : Yk Tryz.prog ZQh 12 82 ZAc = ZQJ := by kernel_rfl
theorem ZSN (S : Sig GG) (hS : RpSig S) : Zs S Tryz.prog 82 ZAc := by
 refine Zd S (C := ZQh) (fuel := 12) (Zx ⟨Zc (by decide) (ZTM S hS), trivial⟩ ⟨⟨⟨by decide, ZaK S hS⟩, ⟨by decide, Zcx S⟩, ⟨by decide, Yw S hS _ _ _⟩, ⟨by decide, Zcx S⟩, ⟨by decide, Yw S hS _ _ _⟩, ⟨by decide, Yw S hS _ _ _⟩, trivial⟩, trivial⟩ trivial) fun ρ => ?_
 rw [ZQp]
 simp only [ZQJ, ZFp, ZJz, Zpe, ZGz, Zyf, ZLQ, ZBK, Zc9, ZF1, ZEY, Zr7, ZqO, Zqr, Zwz, ZrP, Zxt, Zso, ZuZ, Zqe, Zr0, ZAu, Zqf, ZvT, Zr6, ZuP, Zqb, ZqR, ZrJ, ZwY, ZqQ, Zzy, Zq5, ZqI, Y7, ZqH, Zxx, ZAK, Zqx, ZBq, Zbf, Zr, Zq, VC.den, SX.den, ZN, Env.upd, ZS, Zao, Z3, Z2, ZB, ZI, ZJ, ZeO, Zeb, Zcs, Zcq, ZR, ZW, ZiY, ZH, beq_iff_eq, Bool.not_eq_true', beq_eq_false_iff_ne, ne_eq, Bool.not_not, U.tMi, Int.toNat_zero, Nat.reduceEqDiff, reduceIte, Zf, ZK, ZG, U.int.injEq, sdv hS.cs.dv, srp hS, sB]
 generalize Zk (U.co S .g (ρ 1)) = d
 generalize (ρ 2).tI = n
 intro hr hw i3 i4 i5 i6 i7 i8 i9 i10 i11 R Y Z hR h1 h2 h3 h4 h5 h6 h7 h8 hg h9 h10 hY
 have hb := Yv hg
 have hc := hg.cnt
 have hgr := Zn1 hg
 rcases (Bool.eq_false_or_eq_true d.down).symm with hd | hd
 ·refine ⟨(fun h => by rw [hd] at h; cases h), fun _ => ⟨fun hn0 => ⟨by omega, fun hout => ?_, fun hin => ?_⟩, fun hn0 => ?_⟩⟩
  ·have hr := Zcz (n := n) hd (.inr hout)
   have e1 := Zlv (show d.ref n ≠ 0 by rw [hr]; decide)
   have e2 := Zrb (show d.ref n ≠ 0 by rw [hr]; decide)
   rw [e1, e2, hr]
   repeat' (first | exact trivial | rfl | assumption | apply And.intro)
  ·have hr := ZhD hd hn0 hin
   rw [ZHK hr, ZHE hr, hr]
   refine ⟨⟨by omega, by omega⟩, by first | exact trivial | rfl, h7, h8, hgr, ⟨rfl, rfl⟩, rfl, hR, by first | exact trivial | rfl, by first | exact trivial | rfl, by first | exact trivial | rfl, by first | exact trivial | rfl, by first | exact trivial | rfl, by first | exact trivial | rfl, by first | exact trivial | rfl, by first | exact trivial | rfl, by first | exact trivial | rfl, hin, hw, fun b X c q1 q2 q3 => ⟨q1, by first | exact trivial | rfl, by first | exact trivial | rfl, .inl q2, trivial⟩⟩
  ·have hr := Zcz (n := n) hd (.inl hn0)
   have e1 := Zlv (show d.ref n ≠ 0 by rw [hr]; decide)
   have e2 := Zrb (show d.ref n ≠ 0 by rw [hr]; decide)
   rw [e1, e2, hr]
   repeat' (first | exact trivial | rfl | assumption | apply And.intro)
 ·have hr := ZfS (n := n) hd
  have e1 := Zlv (show d.ref n ≠ 0 by rw [hr]; decide)
  have e2 := Zrb (show d.ref n ≠ 0 by rw [hr]; decide)
  rw [e1, e2, hr]
  refine ⟨fun _ => ?_, (fun h => by rw [hd] at h; cases h)⟩
  repeat' (first | exact trivial | rfl | assumption | apply And.intro)
def ZJm : SX := .f2 113 (s 13) (a 9)
def ZHh : SX := v 210 (g 1)
def ZK4 : SX := e (.f2 110 (s 13) (a 17)) (a 15)
def ZtB : SX := .f2 40 (a 17) (k 1)
def ZJi : SX := .f1 23 ZtB
def ZJX : SX := .f2 41 (a 9) ZtB
def ZIV : SX := l z ZJX
def ZJJ : SX := t ZJX (.f2 41 (a 9) (a 17))
def ZMI : SX := l z ZtB
def ZMs : SX := l ZtB (a 9)
def Zwk : SX := x 412 (g 1) (a 15) ZtB
def Za6 : SX := v 200 (g 1)
def Zxz : SX := x 412 (g 1) (a 15) (a 17)
def ZCz : SX := v 203 (g 1)
def Zzb : SX := e ZCz (a 15)
def Zii : SX := .f3 112 (r 12) (a 15) (k 2)
def Zyl : SX := l z Zii
def ZCE : SX := l Zii (.f1 31 (b 18))
def Zly : SX := wB 212 (g 1) (a 15)
def Zxc : SX := .f2 155 (.f2 114 (b 18) Zii) Zly
def Zdl : SX := .f3 112 (r 12) (a 15) z
def ZBd : SX := e Zdl (d 217 (g 1) (a 15))
def ZDd : SX := l Zii (.f3 112 (r 12) (a 15) (k 3))
def ZvP : SX := l z Zdl
def Zg8 : SX := f 406 (g 1) (a 15)
def ZCf : SX := v 210 Zg8
def ZBF : SX := t Zdl ZCf
def Zqc : SX := .f3 112 (r 11) Zdl (k 1)
def Ziu : SX := wB 232 Zg8 Zdl
def Zp9 : SX := .f1 31 Ziu
def Zy1 : SX := e Zqc Zp9
def ZuD : SX := l Zp9 (.f3 112 (r 11) Zdl (k 2))
def ZBr : SX := l z Za6
def ZBX : SX := .f2 155 Ziu (wB 407 Zly Ziu)
def ZEl : SX := e Zp9 Za6
def Zvf : SX := v 204 (g 1)
def ZqF : SX := d 410 (g 1) (a 15)
def ZuH : SX := l z (a 19)
def ZB3 : SX := l (a 19) Za6
def ZBl : SX := .f2 50 (l (a 19) z) (l (a 19) (a 20))
def ZDU : SX := .f2 155 (b 21) (hB 407 Zly Ziu (a 19))
def ZxW : SX := e (.f1 31 (b 21)) Za6
def ZyA : SX := e (.f2 51 (.f2 52 (a 20) z) Za6) ZqF
def ZzB : SX := t (a 19) (a 20)
def ZvO : SX := t (a 19) Za6
def ZyW : SX := t Zdl ZHh
def ZA6 : SX := t Zdl (.f1 32 (r 11))
def ZxA : SX := t (a 19) Zii
def ZzH : SX := t (a 19) (.f1 31 (b 18))
def ZCX : SX := t (a 19) Zqc
def ZCa : SX := t (a 19) (.f1 31 (b 21))
def Zfn : SX := .f2 40 (a 19) (k 1)
def Zw4 : SX := .f1 23 Zfn
def ZwR : SX := .f2 41 Za6 Zfn
def Zzq : SX := l z ZwR
def Zuq : SX := t ZwR (.f2 41 Za6 (a 19))
def ZAV : SX := l z Zfn
def Zwm : SX := l Zfn Za6
def ZB7 : SX := .f2 50 (l Zfn z) (l Zfn (a 20))
def Zz9 : SX := .f2 155 (.f3 131 (b 21) (a 19) (.f2 111 (b 18) (a 19))) (hB 407 Zly Ziu Zfn)
def Zzk : SX := l Za6 (a 19)
def ZlI : SX := e (.f1 32 (r 11)) ZCf
def Zmw : SX := e Zqc (.f1 31 (b 21))
def Zna : SX := e (.f1 31 (b 21)) (v 200 Zg8)
def ZmD : SX := p 215 Zg8
def ZhZ : SX := .f2 40 (a 15) (k 1)
def Zlc : SX := c 403 (f 406 (g 1) ZhZ) (h 400 Zg8 Zdl (b 21))
def Zmd : SX := .f1 23 ZhZ
def ZBi : SX := .f2 41 (a 5) ZhZ
def Znq : SX := l z ZBi
def ZmO : SX := t ZBi (.f2 41 (a 5) (a 15))
def Zli : SX := l z ZhZ
def Zm9 : SX := l ZhZ (a 5)
def ZA3 : SX := l (a 20) (a 19)
def Zm7 : SX := w 225 (g 1)
def ZaM : SX := w 234 Zm7
def ZBU : SX := v 210 ZaM
def ZQ8 : VC := i (l z (a 5)) (i (l (a 5) (.f1 32 (r 12))) (i (e (a 5) (v 211 (g 1))) (i (l (a 5) k2) (i (l z (a 9)) (i (l (a 9) (.f1 30 (s 13))) (i (l (a 9) k1) (i (.f2 153 ZJm (o 209 (g 1))) (i (p 215 (g 1)) (i (c 413 (r 12) (g 1)) (i (e (.f1 32 (r 11)) ZHh) (u 14 .int (i (l z (a 14)) (n (c 403 (w 406 (g 1)) (g 1)) (u 15 .int (i (l z (a 15)) (i (l (a 15) (a 5)) (.and (i (t (a 15) (a 5)) (n (t (a 15) (.f1 32 (r 12))) (u 16 .int (i (l z (a 16)) (n (e (d 412 (g 1) (a 15)) z) (u 17 .int (i (l z (a 17)) (i (l (a 17) (a 9)) (.and (i (t (a 17) (a 9)) (n (t (a 17) (.f1 30 (s 13))) (.and (i ZK4 (n ZJi (n ZIV (n ZJJ (n ZMI (n ZMs (n (e Zwk Za6) .tt))))))) (i (.f1 2 ZK4) (n ZJi (n ZIV (n ZJJ (n ZMI (n ZMs (n (e Zwk Zxz) .tt)))))))))) (i (l (a 9) (a 17)) (.and (i Zzb (u 18 .bytes (i Zyl (i ZCE (i Zxc (i ZBd (i ZDd (n ZvP (n ZBF (i Zy1 (i ZuD (n ZBr (n ZBX (n ZEl (n (e (.f2 51 (.f2 52 Zvf z) Za6) ZqF) (u 19 .int (u 20 .int (u 21 .bytes (i ZuH (i ZB3 (i ZBl (i ZDU (i ZxW (i ZyA (.and (i ZzB (.and (i ZvO (n ZyW (n ZA6 (n ZxA (n ZzH (n ZCX (n ZCa (n Zw4 (n Zzq (n Zuq (n ZAV (n Zwm (n ZB7 (n Zz9 .tt)))))))))))))) (i Zzk (n ZlI (n Zmw (n Zna (n ZmD (n Zlc (n Zmd (n Znq (n ZmO (n Zli (n Zm9 .tt))))))))))))) (i ZA3 (n ZlI (n Zmw (n Zna (n ZmD (n Zlc (n Zmd (n Znq (n ZmO (n Zli (n Zm9 .tt)))))))))))))))))))))))))))))))))))) (i (.f1 2 Zzb) (u 18 .bytes (i Zyl (i ZCE (i Zxc (i ZBd (i ZDd (n ZvP (n ZBF (i Zy1 (i ZuD (n ZBr (n ZBX (n ZEl (n (e (.f2 51 (.f2 52 Zxz z) Za6) ZqF) (u 19 .int (u 20 .int (u 21 .bytes (i ZuH (i ZB3 (i ZBl (i ZDU (i ZxW (i ZyA (.and (i ZzB (.and (i ZvO (n ZyW (n ZA6 (n ZxA (n ZzH (n ZCX (n ZCa (n Zw4 (n Zzq (n Zuq (n ZAV (n Zwm (n ZB7 (n Zz9 .tt)))))))))))))) (i Zzk (n ZlI (n Zmw (n Zna (n ZmD (n Zlc (n Zmd (n Znq (n ZmO (n Zli (n Zm9 .tt))))))))))))) (i ZA3 (n ZlI (n Zmw (n Zna (n ZmD (n Zlc (n Zmd (n Znq (n ZmO (n Zli (n Zm9 .tt))))))))))))))))))))))))))))))))))))))))))))))) (i (l (a 5) (a 15)) (n (e (v 211 Zm7) z) (n (.f2 155 (.f1 154 z) (.f1 154 z)) (n (.f2 153 ZJm (o 209 ZaM)) (n (c 402 ZaM (a 7)) (n (p 215 ZaM) (n (c 403 ZaM Zg8) (n (c 216 ZaM Zm7) (n (e (.f1 32 (r 11)) ZBU) (n (e (v 207 ZaM) (v 207 (g 1))) (n (e (v 206 ZaM) (v 206 (g 1))) (n (e (v 205 ZaM) (v 205 (g 1))) (n (e (v 204 ZaM) Zvf) (n (e (v 203 ZaM) ZCz) (n (.f2 155 (p 401 ZaM) (.bool false)) (n (.f2 155 (p 201 ZaM) (.bool true)) (n (e ZBU ZHh) (n (e (v 200 ZaM) Za6) (n (.f2 155 Zm7 ZaM) .tt))))))))))))))))))))))))))))))))))))
theorem ZTm : Yk Tryz.prog ZTB 12 84 ZrW = ZQ8 := by kernel_rfl
theorem Zlx {d : Dv} {i k : Int} (h0 : 0 <= k) (h1 : k < d.keep.length) : ZhT d i (k + 1) = if d.keep.getD k.toNat 0 = i then d.page else ZhT d i k := by
 unfold ZhT
 rw [Zjx h0 h1]
 by_cases h : d.keep.getD k.toNat 0 = i
 ·rw [if_pos h, h]; simp
 ·rw [if_neg h]
  have : (i == d.keep.getD k.toNat 0) = false := by simpa using fun e => h e.symm
  rw [this, Bool.or_false]
theorem Zx8 (d : Dv) (i : Int) : ZhT d i 0 = 0 := by unfold ZhT; rw [if_neg (by simp)]
theorem ZHg {d : Dv} {i k : Int} (h : (d.keep.length : Int) <= k) : ZhT d i k = if d.keep.contains i = true then d.page else 0 := by
 unfold ZhT; rw [ZUv (by omega)]
theorem ZBn {s x : List UInt8} {P pg c : Nat} (hc : c <= pg) (hx : x.length = pg) (hs : P + pg <= s.length) : ZdV s P (x.take c ++ ((s.drop P).take pg).drop c) = ZdV s P (x.take c) := by
 unfold ZdV
 have hl : (x.take c ++ ((s.drop P).take pg).drop c).length = pg := by simp only [ZUo, ZUl, ZUx]; omega
 have hl2 : (x.take c).length = c := by rw [ZUl]; omega
 rw [hl, hl2, ZUH]
 congr 2
 have e : ((s.drop P).take pg).drop c ++ (s.drop P).drop pg = (s.drop P).drop c := by
  conv => rhs; rw [<- List.take_append_drop pg (s.drop P)]
  rw [List.drop_append_of_le_length (by simp only [ZUl, ZUx]; omega)]
 rw [List.drop_drop, List.drop_drop] at e
 exact e
theorem Zhc {d : Dv} (hg : GoodD d) (i : Int) : (Zcg d i).safe.length = d.safe.length := ZdW hg _ _ _ rfl fun p hp => List.mem_of_mem_take hp
theorem ZdA {d : Dv} (hg : GoodD d) (i : Int) : (Zcg d i).pages = d.pages := by
 show (((Zcg d i).safe.length : Nat) : Int).tdiv d.page = _
 rw [Zhc hg]; rfl
theorem ZsK {d : Dv} (hg : GoodD d) (i : Int) : GoodD (Zcg d i) := by
 have hl := Zhc hg i
 obtain ⟨k, k1, k2, k3, k4⟩ := hg.pgs
 refine ⟨hg.size, ⟨k, k1, k2, by rw [hl]; exact k3, by rw [hl]; exact k4⟩, fun p hm => ?_, hg.acts, hg.cnt⟩
 rw [ZdA hg]; exact hg.w p hm
theorem ZtF {d : Dv} (hg : GoodD d) {i c : Int} (h0 : 0 <= i) (h1 : i < d.w.length) (hc : c = ZeW d i) :
  (Zcg d (i + 1)).page = ((Zcg d i).putPg (d.pg i) (Zjn (d.dat i) ((Zcg d i).place (d.pg i)) c)).page /\ (Zcg d (i + 1)).safe = ((Zcg d i).putPg (d.pg i) (Zjn (d.dat i) ((Zcg d i).place (d.pg i)) c)).safe := by
 refine ⟨rfl, ?_⟩
 have hb := Yv hg
 obtain ⟨hdl, hp0, hp1⟩ := ZaB hg h0 h1
 have hin := Yn hp0 hp1 (Int.le_of_lt hb.1)
 have hcl := ZwH (Int.le_of_lt hb.1) (d := d) i
 have hl := Zhc hg i
 show Zcd d 0 (d.w.take (i + 1).toNat) d.safe = ZdV (Zcg d i).safe (d.pg i * d.page).toNat ((d.dat i).take c.toNat ++ (((Zcg d i).safe.drop (d.pg i * d.page).toNat).take d.page.toNat).drop c.toNat)
 rw [Zk6 h0 h1, ZBn (by omega) (by omega) (by omega), hc]; rfl
theorem Zl2 (x y : List UInt8) : Zjn x y 0 = y := by unfold Zjn; simp
theorem Zlo {x y : List UInt8} {k : Int} (h0 : 0 <= k) (h1 : k < x.length) (h2 : x.length = y.length) : (Zjn x y k).set k.toNat (x.getD k.toNat 0) = Zjn x y (k + 1) := by
 unfold Zjn
 have hl : (x.take k.toNat).length = k.toNat := by rw [ZUl]; omega
 rw [List.set_append_right _ _ (by omega), hl, Nat.sub_self, show (k + 1).toNat = k.toNat + 1 by omega, List.take_add_one, List.drop_eq_getElem_cons (show k.toNat < y.length by omega), List.set_cons_zero, ZUm (show k.toNat < x.length by omega), ZUH, ZUj, ZUm (show k.toNat < x.length by omega)]
 rfl
theorem Zg3 (b : UInt8) : UInt8.ofNat ((b.toNat : Int)).toNat = b := by rw [ZUq]; exact UInt8.ofNat_toNat
theorem ZHF (S : Sig GG) (hS : RpSig S) : Zs S Tryz.prog 84 ZrW := by
 refine Zd S (C := ZTB) (fuel := 12) (Zx trivial ⟨⟨⟨by decide, ZgJ S hS _ _ _ _⟩, trivial, trivial, ⟨by decide, Zfe S hS.cs.dv⟩, ⟨by decide, ZiK S hS _ _ _ _⟩, trivial, ⟨by decide, Zfd S hS.cs.dv⟩, ⟨by decide, ZC6 S hS⟩, ⟨by decide, ZgJ S hS _ _ _ _⟩, ⟨by decide, Zqw S hS.cs.dv 225⟩, ⟨by decide, Yw S hS _ _ _⟩, trivial⟩, trivial⟩ trivial) fun ρ => ?_
 rw [ZTm]
 simp only [ZQ8, ZJm, ZHh, ZK4, ZtB, ZJi, ZJX, ZIV, ZJJ, ZMI, ZMs, Zwk, Za6, Zxz, ZCz, Zzb, Zii, Zyl, ZCE, Zly, Zxc, Zdl, ZBd, ZDd, ZvP, Zg8, ZCf, ZBF, Zqc, Ziu, Zp9, Zy1, ZuD, ZBr, ZBX, ZEl, Zvf, ZqF, ZuH, ZB3, ZBl, ZDU, ZxW, ZyA, ZzB, ZvO, ZyW, ZA6, ZxA, ZzH, ZCX, ZCa, Zfn, Zw4, ZwR, Zzq, Zuq, ZAV, Zwm, ZB7, Zz9, Zzk, ZlI, Zmw, Zna, ZmD, ZhZ, Zlc, Zmd, ZBi, Znq, ZmO, Zli, Zm9, ZA3, Zm7, ZaM, ZBU, Zr, Zq, VC.den, SX.den, Env.upd, beq_iff_eq, Bool.not_eq_true', beq_eq_false_iff_ne, ne_eq, Bool.not_not, Int.toNat_zero, Nat.reduceEqDiff, reduceIte, sdv hS.cs.dv, srp hS, sB, sC]
 generalize Zk (U.co S .g (ρ 1)) = d
 generalize (ρ 11).tR = R
 generalize (ρ 12).tR = Y
 generalize (ρ 13).tN = Z
 generalize (ρ 5).tI = m
 generalize (ρ 9).tI = fl
 generalize (ρ 7).tI = ac
 intro h1 h2 h3 hbig h4 h5 h6 h7 hg hY hR _ _
 have hb := Yv hg
 have hfl : fl = d.keep.length := by have := congrArg List.length h7; rw [ZUl] at this; omega
 have hZ : ∀ k : Int, 0 <= k -> k < fl -> Z.getD k.toNat 0 = d.keep.getD k.toNat 0 := fun k k0 k1 => by rw [<- h7, Zag (by omega)]
 refine ⟨⟨rfl, rfl⟩, fun i i0 i1 => ⟨fun him => ?_, fun him => ?_⟩⟩
 ·have hyi := hY i i0 (by omega)
  have hst := @ZtF d hg i _ i0 (by omega) rfl
  obtain ⟨hdl, hp0, hp1⟩ := ZaB hg i0 (show i < d.w.length by omega)
  have hgf := ZsK hg i
  have hpf := ZdA hg i
  have hpe : (Zcg d i).page = d.page := rfl
  have hpl : (((Zcg d i).place (d.pg i)).length : Int) = d.page := Za0 hgf hp0 (by rw [hpf]; exact hp1)
  have hin := Yn hp0 hp1 (Int.le_of_lt hb.1)
  refine ⟨by omega, fun _ _ => ⟨Zx8 d i, fun k k0 k1 => ⟨fun hk => ⟨by omega, fun he => ?_, fun he => ?_⟩, fun hk => ⟨fun ht => ?_, fun ht => ?_⟩⟩⟩⟩
  ·have hs := @Zlx d i k k0 (by omega)
   rw [<- hZ k k0 hk, if_pos he] at hs
   exact ⟨⟨by omega, by omega⟩, by omega, by omega, by omega, by omega, hs, trivial⟩
  ·have hs := @Zlx d i k k0 (by omega)
   rw [<- hZ k k0 hk, if_neg he] at hs
   exact ⟨⟨by omega, by omega⟩, by omega, by omega, by omega, by omega, hs, trivial⟩
  ·have hcut : Zkt (Zbd d.at' 0) d.page = ZeW d i := by unfold ZeW; rw [if_pos ht.symm]
   intro B s1 s2 s3 s4 s5
   have hL : ((Y.getD i.toNat []).getD (Int.toNat 2) 0) = d.page := by
    rw [<- hdl, <- s3, ZUl]; omega
   have s4 : (Y.getD i.toNat []).getD 0 0 = d.pg i := s4
   have hB : ∀ k : Int, 0 <= k -> k < d.page -> B.getD k.toNat 0 = (d.dat i).getD k.toNat 0 := fun k k0 k1 => by rw [<- s3, hL, Zag (by omega)]
   rw [hL] at s2 s3 ⊢
   simp only [s4, hpf, hpl, Zg3]
   refine ⟨hp0, hp1, fun t1 t2 => ⟨by omega, (Zl2 _ _).symm, by first | trivial | rfl, hcut, fun k n X x0 x1 x2 x3 x4 x5 => ⟨fun hkn => ⟨fun hkp => ?_, fun hkp => ?_⟩, fun hkn => ?_⟩⟩⟩
   ·rw [hB k x0 hkp, x3, Zlo x0 (by omega) (by omega)]
    exact ⟨by omega, by omega, by omega, by omega, by omega, by rw [<- x3]; omega, ⟨by omega, by omega⟩, by omega, by omega, by omega, by omega, .inr (by omega), rfl, trivial⟩
   ·have hkc : k = ZeW d i := by rw [<- x5]; unfold Zkt Zbd; (repeat' split) <;> omega
    rw [<- hkc, <- x3] at hst
    exact ⟨by omega, by omega, by omega, hgf, hst, ⟨by omega, by omega⟩, by omega, by omega, by omega, by omega, trivial⟩
   ·have hkc : k = ZeW d i := by rw [<- x5]; unfold Zkt Zbd; (repeat' split) <;> omega
    rw [<- hkc, <- x3] at hst
    exact ⟨by omega, by omega, by omega, hgf, hst, ⟨by omega, by omega⟩, by omega, by omega, by omega, by omega, trivial⟩
  ·have hkn0 := @ZHg d i k (by omega)
   have hcut : Zkt (Zbd (ZhT d i k) 0) d.page = ZeW d i := by
    unfold ZeW; rw [if_neg (fun h => ht h.symm), hkn0]
    unfold Zkt Zbd; (repeat' split) <;> omega
   intro B s1 s2 s3 s4 s5
   have hL : ((Y.getD i.toNat []).getD (Int.toNat 2) 0) = d.page := by
    rw [<- hdl, <- s3, ZUl]; omega
   have s4 : (Y.getD i.toNat []).getD 0 0 = d.pg i := s4
   have hB : ∀ k : Int, 0 <= k -> k < d.page -> B.getD k.toNat 0 = (d.dat i).getD k.toNat 0 := fun k k0 k1 => by rw [<- s3, hL, Zag (by omega)]
   rw [hL] at s2 s3 ⊢
   simp only [s4, hpf, hpl, Zg3]
   refine ⟨hp0, hp1, fun t1 t2 => ⟨by omega, (Zl2 _ _).symm, by first | trivial | rfl, hcut, fun k n X x0 x1 x2 x3 x4 x5 => ⟨fun hkn => ⟨fun hkp => ?_, fun hkp => ?_⟩, fun hkn => ?_⟩⟩⟩
   ·rw [hB k x0 hkp, x3, Zlo x0 (by omega) (by omega)]
    exact ⟨by omega, by omega, by omega, by omega, by omega, by rw [<- x3]; omega, ⟨by omega, by omega⟩, by omega, by omega, by omega, by omega, .inr (by omega), rfl, trivial⟩
   ·have hkc : k = ZeW d i := by rw [<- x5]; unfold Zkt Zbd; (repeat' split) <;> omega
    rw [<- hkc, <- x3] at hst
    exact ⟨by omega, by omega, by omega, hgf, hst, ⟨by omega, by omega⟩, by omega, by omega, by omega, by omega, trivial⟩
   ·have hkc : k = ZeW d i := by rw [<- x5]; unfold Zkt Zbd; (repeat' split) <;> omega
    rw [<- hkc, <- x3] at hst
    exact ⟨by omega, by omega, by omega, hgf, hst, ⟨by omega, by omega⟩, by omega, by omega, by omega, by omega, trivial⟩
 ·have him : i = d.w.length := by omega
  have hall : (Zcg d i).safe = d.fall.safe := by rw [him]; show Zcd d 0 (d.w.take ((d.w.length : Nat) : Int).toNat) d.safe = Zcd d 0 d.w d.safe; rw [ZUq, List.take_length]
  have hpg : d.fall.pages = d.pages := by rw [<- ZdA hg i]; show ((d.fall.safe.length : Nat) : Int).tdiv d.page = (((Zcg d i).safe.length : Nat) : Int).tdiv d.page; rw [hall]
  have hgf := ZmP hg
  refine ⟨rfl, by first | trivial | rfl, h7, fun h => absurd h (by show ¬ (0 : Int) <= -1; decide), hgf, ⟨rfl, hall.symm⟩, by first | trivial | rfl, by rw [hpg]; exact hR, ?_⟩
  repeat' (first | exact trivial | rfl | assumption | apply And.intro)
def ZNy : SX := e (a 5) z
def ZE9 : SX := v 206 (g 1)
def ZMf : SX := v 211 (g 1)
def ZIJ : SX := o 209 (g 1)
def ZmH : SX := v 210 (g 1)
def ZD0 : SX := .f2 113 (s 20) (a 16)
def Zth : SX := p 201 (g 1)
def ZC1 : SX := .f2 115 (r 19) (a 12)
def ZuS : SX := .f2 155 ZC1 ZC1
def Zc7 : SX := w 234 (g 1)
def Zk5 : SX := .f2 153 ZD0 (o 209 Zc7)
def Zma : SX := c 402 Zc7 (a 14)
def Zme : SX := p 215 Zc7
def Zld : SX := c 403 Zc7 (g 1)
def Zkw : SX := c 216 Zc7 (g 1)
def ZD7 : SX := v 210 Zc7
def Zlb : SX := e (.f1 32 (r 18)) ZD7
def Zrh : SX := v 207 (g 1)
def Zls : SX := e (v 207 Zc7) Zrh
def Zlk : SX := e (v 206 Zc7) ZE9
def Zqn : SX := v 205 (g 1)
def ZlT : SX := e (v 205 Zc7) Zqn
def ZqL : SX := v 204 (g 1)
def Zmb : SX := e (v 204 Zc7) ZqL
def Zqy : SX := v 203 (g 1)
def ZlZ : SX := e (v 203 Zc7) Zqy
def Zmv : SX := p 401 (g 1)
def Zm6 : SX := .f2 155 (p 401 Zc7) Zmv
def Zl7 : SX := .f2 155 (p 201 Zc7) Zth
def Zmx : SX := e ZD7 ZmH
def Zl0 : SX := v 200 (g 1)
def Zla : SX := e (v 200 Zc7) Zl0
def Zlm : SX := .f2 114 (b 7) (a 5)
def Zqi : SX := h 221 (g 1) (a 2) Zlm
def Zm2 : SX := .f2 155 Zqi Zc7
def ZlU : SX := x 222 (g 1) (a 2) Zlm
def ZBE : SX := e ZlU (k 3)
def ZDT : SX := e ZlU (k 30)
def Zzc : SX := e (a 5) Zl0
def Zsu : SX := .f2 40 ZE9 (k 1)
def ZDJ : SX := .f1 2 Zmv
def Zsd : SX := l (.f2 42 (a 5) (k 1)) k1
def Zrd : SX := l (a 5) (a 22)
def Zr3 : SX := .f2 50 (l z (a 21)) ZNy
def ZsJ : SX := l z (a 23)
def Zd8 : SX := .f2 40 (a 12) (k 1)
def ZqA : SX := l (.f2 42 Zd8 (k 32)) k1
def ZrB : SX := l Zd8 (a 25)
def Zqz : SX := .f2 50 (l z (a 24)) (e Zd8 z)
def Zrk : SX := l (a 5) (.f1 31 Zlm)
def YS : SX := h 224 (g 1) (a 2) (.f2 114 Zlm (a 5))
def Zqk : SX := c 403 YS (g 1)
def ZrV : SX := l z Zd8
def ZqT : SX := l Zd8 (.f2 40 (.f1 32 ZC1) (k 1))
def Zvt : SX := .f2 121 ZC1 (.f2 124 (.f2 122 (a 2) (.f2 122 (a 21) (.f2 122 (a 5) (.f2 122 (a 22) (.f1 152 z))))) (.f1 154 z))
def ZyM : SX := .f2 115 Zvt Zd8
def ZAZ : SX := .f2 155 ZyM ZyM
def Zas : SX := w 233 YS
def ZCW : SX := .f2 153 ZD0 (o 209 Zas)
def Zxh : SX := p 215 Zas
def ZyQ : SX := c 403 Zas YS
def Zv1 : SX := c 216 Zas YS
def Zws : SX := v 210 Zas
def ZyE : SX := e (.f1 32 (r 18)) Zws
def ZyY : SX := e (v 207 Zas) Zrh
def Zyw : SX := e (v 206 Zas) Zsu
def Zu0 : SX := e (v 205 Zas) Zqn
def Zyn : SX := e (v 204 Zas) ZqL
def ZBN : SX := e (v 203 Zas) Zqy
def Zuf : SX := .f2 155 (p 401 Zas) Zmv
def ZDp : SX := .f2 155 (p 201 Zas) Zth
def ZxT : SX := e Zws ZmH
def ZxB : SX := e (v 200 Zas) Zl0
def Zvj : SX := .f2 155 Zqi Zas
def ZyK : SX := e ZlU z
def ZC8 : SX := e (a 14) z
def Zx5 : SX := v 210 YS
def ZEs : SX := .f2 40 (a 14) (k (-1))
def ZSG : VC := i (l z (a 5)) (i (l (a 5) (.f1 31 (b 7))) (i (l (a 5) (a 6)) (i (l (a 5) k0) (i (.f2 50 (l z (a 3)) ZNy) (i (l ZE9 k2) (i (l ZMf k0) (i (l (.f1 30 ZIJ) k1) (u 9 .int (u 10 .int (u 11 .int (u 12 .int (u 13 .int (u 14 .int (u 15 .int (u 16 .int (u 17 .int (u 18 .rows (u 19 .rows (u 20 .ints (i (e (.f1 32 (r 18)) ZmH) (i (l z (a 12)) (i (l (a 12) (.f1 32 (r 19))) (i (e (a 12) ZMf) (i (l (a 12) (a 13)) (i (l z (a 16)) (i (l (a 16) (.f1 30 (s 20))) (i (.f2 153 ZD0 ZIJ) (i (c 402 (g 1) (a 14)) (i (p 215 (g 1)) (i (l z (a 9)) (i (l (.f1 32 (r 18)) (a 10)) (i (c 413 (r 19) (g 1)) (.and (i Zth (n ZuS (n Zk5 (n Zma (n Zme (n Zld (n Zkw (n Zlb (n Zls (n Zlk (n ZlT (n Zmb (n ZlZ (n Zm6 (n Zl7 (n Zmx (n Zla (n Zm2 (n ZBE .tt))))))))))))))))))) (i (.f1 2 Zth) (.and (i (l z (a 2)) (n (l z ZmH) (.and (i (l ZmH (a 2)) (n ZuS (n Zk5 (n Zma (n Zme (n Zld (n Zkw (n Zlb (n Zls (n Zlk (n ZlT (n Zmb (n ZlZ (n Zm6 (n Zl7 (n Zmx (n Zla (n Zm2 (n ZDT .tt))))))))))))))))))) (i (t (a 2) ZmH) (.and (i (.f1 2 Zzc) (n ZuS (n Zk5 (n Zma (n Zme (n Zld (n Zkw (n Zlb (n Zls (n Zlk (n ZlT (n Zmb (n ZlZ (n Zm6 (n Zl7 (n Zmx (n Zla (n Zm2 (n (e ZlU (k 31)) .tt))))))))))))))))))) (i Zzc (n (.f1 23 Zsu) (.and (i ZDJ (n Zsd (u 21 .int (u 22 .int (i Zrd (i Zr3 (u 23 .int (i ZsJ (n ZqA (u 24 .int (u 25 .int (i ZrB (i Zqz (n Zrk (n Zqk (n ZrV (n ZqT (n ZAZ (n ZCW (n (c 402 Zas (a 14)) (n Zxh (n ZyQ (n Zv1 (n ZyE (n ZyY (n Zyw (n Zu0 (n Zyn (n ZBN (n Zuf (n ZDp (n ZxT (n ZxB (n Zvj (n ZyK .tt))))))))))))))))))))))))))))))))))) (i (.f1 2 ZDJ) (.and (i ZC8 (n Zsd (u 21 .int (u 22 .int (i Zrd (i Zr3 (u 23 .int (i ZsJ (n ZqA (u 24 .int (u 25 .int (i ZrB (i Zqz (n Zrk (n Zqk (n ZrV (n ZqT (n (e Zd8 (v 211 YS)) (n (l Zd8 k2) (n (l (a 16) k1) (n (.f2 153 ZD0 (o 209 YS)) (n (p 215 YS) (n (c 413 Zvt YS) (n (e (.f1 32 (r 18)) Zx5) (n (e (v 207 YS) Zrh) (n (e (v 206 YS) Zsu) (n (e (v 205 YS) Zqn) (n (.f2 155 (p 401 YS) Zmv) (n (.f2 155 (p 201 YS) Zth) (n (e Zx5 ZmH) (n (e (v 200 YS) Zl0) (n (e (v 204 YS) ZqL) (n (e (v 203 YS) Zqy) (n (.f2 155 Zqi (w 225 YS)) (n ZBE .tt))))))))))))))))))))))))))))))))))) (i (.f1 2 ZC8) (n (.f1 23 ZEs) (n Zsd (u 21 .int (u 22 .int (i Zrd (i Zr3 (u 23 .int (i ZsJ (n ZqA (u 24 .int (u 25 .int (i ZrB (i Zqz (n Zrk (n Zqk (n ZrV (n ZqT (n ZAZ (n ZCW (n (c 402 Zas ZEs) (n Zxh (n ZyQ (n Zv1 (n ZyE (n ZyY (n Zyw (n Zu0 (n Zyn (n ZBN (n Zuf (n ZDp (n ZxT (n ZxB (n Zvj (n ZyK .tt)))))))))))))))))))))))))))))))))))))))))))))) (i (t (a 2) z) (n ZuS (n Zk5 (n Zma (n Zme (n Zld (n Zkw (n Zlb (n Zls (n Zlk (n ZlT (n Zmb (n ZlZ (n Zm6 (n Zl7 (n Zmx (n Zla (n Zm2 (n ZDT .tt))))))))))))))))))))))))))))))))))))))))))))))))))))))
theorem ZQi : Yk Tryz.prog ZPI 12 59 ZrT = ZSG := by kernel_rfl
theorem ZEb {Y : List (List Int)} {d : Dv} {m n b l c : Int} {x : List UInt8} (h : ZOB Y d) (hm : m = d.w.length) (hY : m <= Y.length) : ZOB (Y.take m.toNat ++ [[n, b, l, c]]) { d with wr := d.wr + 1, w := d.w ++ [(n, x)] } := by
 intro i i0 i1
 have i1 : i < ((d.w ++ [(n, x)]).length : Nat) := i1
 rw [ZUo, List.length_singleton] at i1
 have hl : (Y.take m.toNat).length = m.toNat := by rw [ZUl]; omega
 show _ = ((d.w ++ [(n, x)]).getD i.toNat (0, [])).1
 by_cases hi : i < m
 ·have e1 : (Y.take m.toNat ++ [[n, b, l, c]]).getD i.toNat [] = Y.getD i.toNat [] := by
   rw [ZUj, ZUB (by omega), List.getElem?_take_of_lt (by omega), <- ZUj]
  have e2 : (d.w ++ [(n, x)]).getD i.toNat (0, []) = d.w.getD i.toNat (0, []) := by
   rw [ZUj, ZUB (by omega), <- ZUj]
  rw [e1, e2]; exact h i i0 (by omega)
 ·have e1 : (Y.take m.toNat ++ [[n, b, l, c]]).getD i.toNat [] = [n, b, l, c] := by
   rw [ZUj, ZUC (by omega), hl, show i.toNat - m.toNat = 0 by omega]; rfl
  have e2 : (d.w ++ [(n, x)]).getD i.toNat (0, []) = (n, x) := by
   rw [ZUj, ZUC (by omega), show i.toNat - d.w.length = 0 by omega]; rfl
  rw [e1, e2]; rfl
theorem ZiD {d : Dv} : ZhV d = true ↔ 0 <= d.acts := by unfold ZhV; exact decide_eq_true_iff
theorem Zrn (S : Sig GG) (hS : RpSig S) : Zs S Tryz.prog 59 ZrT := by
 refine Zd S (C := ZPI) (fuel := 12) (Zx ⟨Zc (by decide) (ZHF S hS), trivial⟩ ⟨⟨⟨by decide, ZaK S hS⟩, ⟨by decide, Yw S hS _ _ _⟩, ⟨by decide, Yw S hS _ _ _⟩, ⟨by decide, Yw S hS _ _ _⟩, ⟨by decide, ZHA S hS.cs.dv⟩, ⟨by decide, ZgJ S hS _ _ _ _⟩, ⟨by decide, Yw S hS _ _ _⟩, trivial⟩, trivial⟩ trivial) fun ρ => ?_
 rw [ZQi]
 simp only [ZSG, ZNy, ZE9, ZMf, ZIJ, ZmH, ZD0, Zth, ZC1, ZuS, Zc7, Zk5, Zma, Zme, Zld, Zkw, ZD7, Zlb, Zrh, Zls, Zlk, Zqn, ZlT, ZqL, Zmb, Zqy, ZlZ, Zmv, Zm6, Zl7, Zmx, Zl0, Zla, Zlm, Zqi, Zm2, ZlU, ZBE, ZDT, Zzc, Zsu, ZDJ, Zsd, Zrd, Zr3, ZsJ, Zd8, ZqA, ZrB, Zqz, Zrk, YS, Zqk, ZrV, ZqT, Zvt, ZyM, ZAZ, Zas, ZCW, Zxh, ZyQ, Zv1, Zws, ZyE, ZyY, Zyw, Zu0, Zyn, ZBN, Zuf, ZDp, ZxT, ZxB, Zvj, ZyK, ZC8, Zx5, ZEs, Zr, Zq, VC.den, SX.den, Env.upd, beq_iff_eq, Bool.not_eq_true', beq_eq_false_iff_ne, ne_eq, Bool.not_not, Int.toNat_zero, Nat.reduceEqDiff, reduceIte, sdv hS.cs.dv, srp hS, sB, sC]
 generalize Zk (U.co S .g (ρ 1)) = d
 generalize (ρ 7).tB = X
 generalize (ρ 2).tI = n
 generalize (ρ 5).tI = l
 generalize (ρ 3).tI = b
 generalize (ρ 6).tI = c
 intro a1 a2 a3 a4 a5 a6 a7 a8 i9 i10 i11 m i13 ac i15 i16 i17 R Y Z hR h1 h2 h3 h4 h5 h6 h7 h8 hg h9 h10 hY
 have hb := Yv hg
 have hc := hg.cnt
 have ha := hg.acts
 have hxl : ((X.take l.toNat).length : Int) = l := by rw [ZUl]; omega
 have hkl : i16 <= d.keep.length := by rw [<- h7, ZUl]; omega
 have htt : (X.take l.toNat).take l.toNat = X.take l.toNat := by rw [List.take_take, Nat.min_self]
 rw [htt]
 rcases (Bool.eq_false_or_eq_true d.down).symm with hd | hd
 ·refine ⟨(fun h => by rw [hd] at h; cases h), fun _ => ⟨fun hn0 => ⟨by omega, fun hout => ?_, fun hin => ⟨fun hsz => ?_, fun hsz => ?_⟩⟩, fun hn0 => ?_⟩⟩
  ·have hr := Zcz (n := n) hd (.inr hout)
   obtain ⟨e1, e2⟩ := ZiE (x := X.take l.toNat) (show d.ref n ≠ 0 by rw [hr]; decide)
   rw [e1, e2, hr]
   repeat' (first | exact trivial | rfl | assumption | apply And.intro)
  ·have hr := ZhD hd hn0 hin
   obtain ⟨e1, e2⟩ := ZHJ (x := X.take l.toNat) hr (by rw [hxl]; exact hsz)
   rw [e1, e2]
   repeat' (first | exact trivial | rfl | assumption | apply And.intro)
  ·have hr := ZhD hd hn0 hin
   have hsz' : ((X.take l.toNat).length : Int) = d.page := by rw [hxl]; exact hsz
   have hgp := ZgZ hg hn0 hin hsz'
   have hga := Zl4 hgp
   refine ⟨⟨by omega, by omega⟩, fun hna => ?_, fun har => ⟨fun hz => ?_, fun hz => ?_⟩⟩
   ·have hna : ¬ 0 <= d.acts := fun h => by rw [ZiD.2 h] at hna; cases hna
    have hz : ¬ d.acts = 0 := by omega
    obtain ⟨e1, e2⟩ := ZCN (x := X.take l.toNat) hr hsz' hz
    rw [e1, e2]
    have harm : ZhV { d with wr := d.wr + 1, w := d.w ++ [(n, X.take l.toNat)], acts := Zbx d.acts } = ZhV d := by
     have : ¬ 0 <= Zbx d.acts := by unfold Zbx Zbd; split <;> omega
     unfold ZhV
     rw [decide_eq_false hna]; exact decide_eq_false this
    refine ⟨by omega, fun b2 c2 q1 q2 r r0 => ⟨by omega, fun b3 c3 q3 q4 => ⟨by omega, by repeat' (first | exact trivial | rfl | apply And.intro), by omega, by simp only [ZUl]; omega, by first | trivial | rfl, h7, fun h => absurd h (by show ¬ 0 <= Zbx d.acts; unfold Zbx Zbd; split <;> omega), hga, by repeat' (first | exact trivial | rfl | apply And.intro), by repeat' (first | exact trivial | rfl | apply And.intro), hR, ?_⟩⟩⟩
    repeat' (first | exact trivial | rfl | assumption | apply And.intro)
   ·have har : 0 <= d.acts := ZiD.1 (by simpa using har)
    have hz : d.acts = 0 := by rw [<- h8 har]; exact hz
    obtain ⟨e1, e2⟩ := ZqZ (x := X.take l.toNat) hr hsz' hz
    rw [e1, e2]
    refine ⟨by omega, fun b2 c2 q1 q2 r r0 => ⟨by omega, fun b3 c3 q3 q4 => ⟨by omega, by repeat' (first | exact trivial | rfl | apply And.intro), by omega, by simp only [ZUl]; omega, by simp only [ZUo, ZUD, List.length_nil]; omega, by omega, by omega, h7, hgp, ZEb hY h3 h2, hR, ?_⟩⟩⟩
    repeat' (first | exact trivial | rfl | assumption | apply And.intro)
   ·have har : 0 <= d.acts := ZiD.1 (by simpa using har)
    have hac := h8 har
    have hz : ¬ d.acts = 0 := by rw [<- hac]; exact hz
    obtain ⟨e1, e2⟩ := ZCN (x := X.take l.toNat) hr hsz' hz
    rw [e1, e2]
    have han : Zbx d.acts = d.acts + -1 := by unfold Zbx Zbd; split <;> omega
    have harm : ZhV { d with wr := d.wr + 1, w := d.w ++ [(n, X.take l.toNat)], acts := Zbx d.acts } = ZhV d := by
     unfold ZhV
     rw [decide_eq_true har]; exact decide_eq_true (show 0 <= Zbx d.acts by omega)
    refine ⟨⟨by omega, by omega⟩, by omega, fun b2 c2 q1 q2 r r0 => ⟨by omega, fun b3 c3 q3 q4 => ⟨by omega, by repeat' (first | exact trivial | rfl | apply And.intro), by omega, by simp only [ZUl]; omega, by first | trivial | rfl, h7, fun _ => by show ac + -1 = Zbx d.acts; omega, hga, by repeat' (first | exact trivial | rfl | apply And.intro), by repeat' (first | exact trivial | rfl | apply And.intro), hR, ?_⟩⟩⟩
    repeat' (first | exact trivial | rfl | assumption | apply And.intro)
  ·have hr := Zcz (n := n) hd (.inl hn0)
   obtain ⟨e1, e2⟩ := ZiE (x := X.take l.toNat) (show d.ref n ≠ 0 by rw [hr]; decide)
   rw [e1, e2, hr]
   repeat' (first | exact trivial | rfl | assumption | apply And.intro)
 ·have hr := ZfS (n := n) hd
  obtain ⟨e1, e2⟩ := ZiE (x := X.take l.toNat) (show d.ref n ≠ 0 by rw [hr]; decide)
  rw [e1, e2, hr]
  refine ⟨fun _ => ?_, (fun h => by rw [hd] at h; cases h)⟩
  repeat' (first | exact trivial | rfl | assumption | apply And.intro)
def ZAt : Ctr := ⟨[.int, .g], [.one (.ptr (ai 0) 0)], [rpC (ai 0) (gA 1)], [eLe (usI 207 (gA 1) z0 z0) Zau, eLe (usI 211 (gA 1) z0 z0) Zau, eLe (.f1 30 (usN 209 (gA 1) z0 z0)) (.int 140737488355328)], [], .one (.int .i64 (usI 228 (gA 1) z0 z0)), [rpC (ai 0) (usG 227 (gA 1) z0 z0)], []⟩
def rsyI : Inv := ⟨[.int], [(4, .one (.int .i64 (di 0)))], [pgC (rA 11) (usG 408 (gA 1) (di 0) z0)], [eLe z0 (di 0), eLe (di 0) (ai 5)], .f2 41 (ai 5) (di 0)⟩
def ZPW : Cx := { specs := [(84, [ZrW])], anns := [(67, [(1, .ghost Znt [.tmp 0]), (2, .ghost (ZcU [] [] (usG 234 (gA 1) z0 z0)) [.tmp 0]), (6, .ghost (ZcU [] [] (usG 230 (gA 1) z0 z0)) [.tmp 0]), (6, .ghost Znt [.tmp 0]),
 (8, .ghost (ZE7 (usG 408 (gA 2) z0 z0) [.g, .int, .rows] [] [lsC (ai 3) (rA 4) (gA 2)]) []), (9, .inv rsyI), (11, .ghost ZpZ [.tmp 4]), (11, .ghost (ZwQ (nt (rA 4) (ai 2) 0) [.int, .int, .rows, .g] [.one (.int .i64 (ai 2))] [lsO (ai 2) (ai 3) (rA 4) (gA 5)]) [.tmp 4]),
 (10, .ghost Zjh []), (10, .ghost ZCH []), (10, .ghost (ZE7 (usG 408 (gA 2) (Zgf (ai 5)) z0) [.g, .int, .rows, .int] [.one (.int .i64 (ai 5))] [lsC (ai 3) (rA 4) (gA 2)]) [.tmp 4]), (13, .ghost (ZIw 227) []), (13, .ghost (ZcU [] [] (usG 234 (gA 15) z0 z0)) [.tmp 0])])] }
def ZvX : Ctr := ⟨[.int, .g], [.one (.ptr (ai 0) 0)], [rpC (ai 0) (gA 1)], [eLe (usI 211 (gA 1) z0 z0) Zau], [.int, .bytes, .int], .one (sl1 (ai 2) (ZP (bA 3)) (ai 4)), [rpC (ai 0) (gA 1), bAr (ai 2) (bA 3) (ai 4)],
 [eqS (bA 3) (usY 229 (gA 1) z0 z0), eLe (ZP (bA 3)) (ai 4)]⟩
def rimI1 : Inv := ⟨[.int, .int, .int, .bytes], [(4, .one (.int .i64 (di 0))), (3, .one (sl1 (di 1) (ZP (bA 1000003)) (di 2)))], [bAr (di 1) (bA 1000003) (di 2)], [eLe z0 (di 0), eLe (di 0) (usI 210 (gA 1) z0 z0), eqS (bA 1000003) (usY 409 (gA 1) (di 0) z0), eLe (ZP (bA 1000003)) (di 2)], .f2 41 (usI 210 (gA 1) z0 z0) (di 0)⟩
def rimI2 : Inv := ⟨[.int, .bytes], [(5, .one (.int .i64 (di 0)))], [bAr (ai 15) (bA 1000001) (ai 16)], [eLe z0 (di 0), eLe (di 0) (ai 5), eqS (bA 1000001) (usY 208 (usG 408 (gA 1) (di 0) z0) z0 z0), .f2 45 (ZP (bA 1000001)) (ZP (bA 17))], .f2 41 (ai 5) (di 0)⟩
def ZQ3 : Cx := { specs := [], anns := [(69, [(1, .ghost Znt [.tmp 0]), (2, .ghost Ztn []), (3, .inv rimI1), (5, .ghost (ZwQ (ai 2) [.int] [.one (.int .i64 (ai 2))] []) [.tmp 4]), (500005, .ghost ZF4 []), (7, .inv rimI2), (9, .ghost ZpZ [.tmp 5]), (500009, .ghost Zjh []), (10, .ghost (ZcU [] [] (gA 1)) [.tmp 0])])] }
def armT : List Srt := [.int, .g, .int, .int, .int, .int, .int, .ints, .int, .int, .int]
def armA : List SV := [.one (.ptr (ai 0) 0), .one (.int .i64 (ai 2)), .agg [slR 3, .int .i64 (ai 9), .int .i64 (ai 10)]]
def armR : List SX := [.f1 23 (ai 2), eLe (.int 0) (ai 5), eLe (ai 5) (Zb7 (iA 7)), eLe (ai 5) (ai 6), eLe (ai 5) (.int 1099511627776), .f2 50 (eLe (.int 0) (ai 3)) (.f2 45 (ai 5) z0)]
def armG : SX := .us .g 219 (gA 1) (ai 2) (tkI (iA 7) (ai 5)) (ZT (ai 9) (ai 10))
def ZuC : Ctr := ⟨armT, armA, [plC (ai 0) (gA 1), rdI 0 3], armR, [], .tup [], [plC (ai 0) armG, rdI 0 3], []⟩
def clnI : Ctr := ⟨[.int, .int, .int, .int, .ints, .int], [.one (slR 0)], [rdI 0 0], [eLe (.int 0) (ai 2), eLe (ai 2) (Zb7 (iA 4)), eLe (ai 2) (ai 3), eLe (ai 2) (.int 1099511627776), .f2 50 (eLe (.int 0) (ai 0)) (.f2 45 (ai 2) z0)], [.int, .ints, .int],
 .one (sl1 (ai 6) (ai 2) (ai 8)), [rdI 0 0, iAr (ai 6) (iA 7) (ai 8)], [.f2 153 (tkI (iA 7) (ai 2)) (tkI (iA 4) (ai 2)), .f2 45 (Zb7 (iA 7)) (ai 2), eLe (ai 2) (ai 8)]⟩
def Zys : Ctr := clnI
def ZO5 : Cx := { specs := [], anns := [(85, [(999999, .ghost ZNX [])])] }
def ZP7 : Cx := { specs := [(85, [Zys])], anns := [(62, [(1, .ghost Zob [.tmp 0]), (999999, .ghost (ZeE [.int, .int, .int, .int, .int, .int, .int] [.one (.int .i64 (ai 15)), .agg [.slice (ai 16) (ai 17) z0 z0 (ai 18) (ai 19) 1, .int .i64 (ai 20), .int .i64 (ai 21)]] (.us .g 219 (gA 1) (ai 15) (tkI (iA 13) (ai 9)) (ZT (ai 20) (ai 21)))) [.tmp 0, .tmp 1, .tmp 2])])] }
def Zyb : Ctr := ⟨armT, armA, [rpC (ai 0) (gA 1), rdI 0 3], armR, [], .tup [], [rpC (ai 0) armG, rdI 0 3], []⟩
def ZOY : Cx := { specs := [], anns := [(63, [(1, .ghost Znt [.tmp 0]), (5, .ghost ZNX []), (999999, .ghost (ZcU [.int, .int, .int, .int, .int, .int, .int] [.one (.int .i64 (ai 16)), .agg [.slice (ai 17) (ai 18) z0 z0 (ai 19) (ai 20) 1, .int .i64 (ai 21), .int .i64 (ai 22)]] (.us .g 219 (gA 1) (ai 16) (tkI (iA 13) (ai 9)) (ZT (ai 21) (ai 22)))) [.tmp 0, .tmp 1, .tmp 2])])] }
def ZGX : SX := v 207 (g 1)
def ZMB : SX := v 211 (g 1)
def ZN4 : SX := o 209 (g 1)
def Ztp : SX := v 210 (g 1)
def ZCi : SX := .f2 113 (s 13) (a 9)
def ZsN : SX := p 201 (g 1)
def ZMD : SX := .f2 115 (r 12) (a 5)
def ZKa : SX := .f2 155 ZMD ZMD
def Zda : SX := w 234 (g 1)
def ZJb : SX := v 210 Zda
def Zru : SX := v 206 (g 1)
def ZqB : SX := v 205 (g 1)
def Zsa : SX := v 204 (g 1)
def ZqY : SX := v 203 (g 1)
def ZlO : SX := p 401 (g 1)
def ZqU : SX := v 200 (g 1)
def Zhn : SX := w 227 (g 1)
def ZAD : SX := v 228 (g 1)
def ZBm : SX := e ZAD (k 3)
def ZrY : SX := .f2 40 ZGX (k 1)
def ZAJ : SX := .f1 2 ZlO
def ZBf : SX := c 403 (w 408 (g 1)) (g 1)
def ZrE : SX := l z (a 14)
def ZzZ : SX := l (a 14) (a 5)
def Zy2 : SX := t (a 14) (a 5)
def Zic : SX := .f3 112 (r 12) (a 14) (k 2)
def ZCs : SX := l z Zic
def Zuj : SX := l Zic (.f1 31 (b 15))
def Zu6 : SX := .f2 114 (b 15) Zic
def ZBQ : SX := .f2 155 Zu6 (wB 212 (g 1) (a 14))
def Zde : SX := .f3 112 (r 12) (a 14) z
def Zyr : SX := e Zde (d 217 (g 1) (a 14))
def Zvw : SX := l Zic (.f3 112 (r 12) (a 14) (k 3))
def Zzz : SX := l z Zde
def Zgw : SX := f 408 (g 1) (a 14)
def ZwV : SX := v 210 Zgw
def ZDo : SX := t Zde ZwV
def Ziz : SX := .f3 112 (r 11) Zde (k 1)
def ZrA : SX := wB 232 Zgw Zde
def Zww : SX := .f1 31 ZrA
def ZwI : SX := e Ziz Zww
def Zxl : SX := .f3 112 (r 11) Zde (k 2)
def ZEd : SX := l Zww Zxl
def ZCI : SX := t (a 14) (.f1 32 (r 12))
def Zul : SX := t Zde Ztp
def Zwn : SX := t Zde (.f1 32 (r 11))
def Zuv : SX := l z Ziz
def ZB0 : SX := l Ziz Zxl
def ZAT : SX := e (.f1 32 (r 11)) ZwV
def ZDc : SX := .f2 114 ZrA z
def ZyG : SX := .f2 51 Zic Ziz
def ZEa : SX := .f2 114 Zu6 ZyG
def Zzi : SX := .f2 117 ZrA ZyG
def Zyu : SX := .f2 40 (.f1 31 ZDc) (.f2 40 (.f1 31 ZEa) (.f1 31 Zzi))
def ZDW : SX := e Ziz Zyu
def ZvM : SX := e Zyu (v 200 Zgw)
def ZDX : SX := p 215 Zgw
def Ziy : SX := .f2 40 (a 14) (k 1)
def ZDH : SX := c 403 (f 408 (g 1) Ziy) (h 400 Zgw Zde (.f2 120 ZDc (.f2 120 ZEa Zzi)))
def ZBj : SX := .f1 23 Ziy
def Zxr : SX := .f2 41 (a 5) Ziy
def ZvA : SX := l z Zxr
def ZxG : SX := t Zxr (.f2 41 (a 5) (a 14))
def Zv6 : SX := l z Ziy
def ZEI : SX := l Ziy (a 5)
def ZAL : SX := l (a 5) (a 14)
def ZC7 : SX := e (v 211 Zhn) z
def Zwh : SX := .f2 155 (.f1 154 z) (.f1 154 z)
def Zak : SX := w 234 Zhn
def ZCQ : SX := .f2 153 ZCi (o 209 Zak)
def ZEi : SX := p 215 Zak
def Zyi : SX := c 403 Zak Zgw
def Zwp : SX := c 216 Zak Zhn
def ZCP : SX := v 210 Zak
def ZzA : SX := e (.f1 32 (r 11)) ZCP
def Zvl : SX := e (v 207 Zak) ZrY
def ZyU : SX := e (v 206 Zak) Zru
def ZBk : SX := e (v 205 Zak) ZqB
def ZwD : SX := e (v 204 Zak) Zsa
def ZAj : SX := e (v 203 Zak) ZqY
def ZEC : SX := .f2 155 (p 401 Zak) ZlO
def Zyk : SX := .f2 155 (p 201 Zak) ZsN
def ZAm : SX := e ZCP Ztp
def ZCx : SX := e (v 200 Zak) ZqU
def ZvN : SX := .f2 155 Zhn Zak
def ZDN : SX := e ZAD z
def ZBt : SX := e (a 7) z
def YR : SX := w 230 (g 1)
def Zy4 : SX := o 209 YR
def ZyN : SX := p 215 YR
def ZqV : SX := v 210 YR
def Zwv : SX := .f2 40 (a 7) (k (-1))
def ZQg : VC := i (l ZGX k2) (i (l ZMB k2) (i (l (.f1 30 ZN4) k1) (u 2 .int (u 3 .int (u 4 .int (u 5 .int (u 6 .int (u 7 .int (u 8 .int (u 9 .int (u 10 .int (u 11 .rows (u 12 .rows (u 13 .ints (i (e (.f1 32 (r 11)) Ztp) (i (l z (a 5)) (i (l (a 5) (.f1 32 (r 12))) (i (e (a 5) ZMB) (i (l (a 5) (a 6)) (i (l z (a 9)) (i (l (a 9) (.f1 30 (s 13))) (i (.f2 153 ZCi ZN4) (i (c 402 (g 1) (a 7)) (i (p 215 (g 1)) (i (l z (a 2)) (i (l (.f1 32 (r 11)) (a 3)) (i (c 413 (r 12) (g 1)) (.and (i ZsN (n ZKa (n (.f2 153 ZCi (o 209 Zda)) (n (c 402 Zda (a 7)) (n (p 215 Zda) (n (c 403 Zda (g 1)) (n (c 216 Zda (g 1)) (n (e (.f1 32 (r 11)) ZJb) (n (e (v 207 Zda) ZGX) (n (e (v 206 Zda) Zru) (n (e (v 205 Zda) ZqB) (n (e (v 204 Zda) Zsa) (n (e (v 203 Zda) ZqY) (n (.f2 155 (p 401 Zda) ZlO) (n (.f2 155 (p 201 Zda) ZsN) (n (e ZJb Ztp) (n (e (v 200 Zda) ZqU) (n (.f2 155 Zhn Zda) (n ZBm .tt))))))))))))))))))) (i (.f1 2 ZsN) (n (.f1 23 ZrY) (.and (i ZAJ (n ZBf (u 14 .int (i ZrE (i ZzZ (.and (i Zy2 (u 15 .bytes (i ZCs (i Zuj (i ZBQ (i Zyr (i Zvw (n Zzz (n ZDo (i ZwI (i ZEd (n ZCI (n Zul (n Zwn (n Zuv (n ZB0 (n ZAT (n ZDW (n ZvM (n ZDX (n ZDH (n ZBj (n ZvA (n ZxG (n Zv6 (n ZEI .tt)))))))))))))))))))))))))) (i ZAL (n ZC7 (n Zwh (n ZCQ (n (c 402 Zak (a 7)) (n ZEi (n Zyi (n Zwp (n ZzA (n Zvl (n ZyU (n ZBk (n ZwD (n ZAj (n ZEC (n Zyk (n ZAm (n ZCx (n ZvN (n ZDN .tt)))))))))))))))))))))))))) (i (.f1 2 ZAJ) (.and (i ZBt (n ZKa (n (.f2 153 ZCi Zy4) (n (c 402 YR (a 7)) (n ZyN (n (c 403 YR (g 1)) (n (c 216 YR (g 1)) (n (e (.f1 32 (r 11)) ZqV) (n (e (v 207 YR) ZrY) (n (e (v 206 YR) Zru) (n (e (v 205 YR) ZqB) (n (e (v 204 YR) Zsa) (n (e (v 203 YR) ZqY) (n (.f2 155 (p 401 YR) ZlO) (n (.f2 155 (p 201 YR) ZsN) (n (e ZqV Ztp) (n (e (v 200 YR) ZqU) (u 14 .int (u 15 .int (u 16 .int (u 17 .int (u 18 .int (u 19 .int (u 20 .int (u 21 .int (u 22 .int (u 23 .rows (u 24 .rows (u 25 .ints (i (e (.f1 32 (r 23)) ZqV) (i (l z (a 17)) (i (l (a 17) (.f1 32 (r 24))) (i (e (a 17) (v 211 YR)) (i (l (a 17) (a 18)) (i (l z (a 21)) (i (l (a 21) (.f1 30 (s 25))) (i (.f2 153 (.f2 113 (s 25) (a 21)) Zy4) (i (c 402 YR (a 19)) (i ZyN (i ZrE (i (l (.f1 32 (r 23)) (a 15)) (i (c 413 (r 24) YR) (n (l (a 17) k2) (n (l (a 21) k1) (n (.f2 155 Zhn (w 225 YR)) (n ZBm .tt)))))))))))))))))))))))))))))))))))))))))))))) (i (.f1 2 ZBt) (n (.f1 23 Zwv) (n ZBf (u 14 .int (i ZrE (i ZzZ (.and (i Zy2 (u 15 .bytes (i ZCs (i Zuj (i ZBQ (i Zyr (i Zvw (n Zzz (n ZDo (i ZwI (i ZEd (n ZCI (n Zul (n Zwn (n Zuv (n ZB0 (n ZAT (n ZDW (n ZvM (n ZDX (n ZDH (n ZBj (n ZvA (n ZxG (n Zv6 (n ZEI .tt)))))))))))))))))))))))))) (i ZAL (n ZC7 (n Zwh (n ZCQ (n (c 402 Zak Zwv) (n ZEi (n Zyi (n Zwp (n ZzA (n Zvl (n ZyU (n ZBk (n ZwD (n ZAj (n ZEC (n Zyk (n ZAm (n ZCx (n ZvN (n ZDN .tt))))))))))))))))))))))))))))))))))))))))))))))))))))))))))))
theorem ZRP : Yk Tryz.prog ZPW 12 67 ZAt = ZQg := by kernel_rfl
def ZLF : SX := v 211 (g 1)
def Zkr : SX := v 210 (g 1)
def Zpu : SX := .f3 112 (r 11) (a 14) (k 1)
def ZMq : SX := wB 232 (g 1) (a 14)
def ZFv : SX := .f1 31 ZMq
def ZI3 : SX := .f3 112 (r 11) (a 14) (k 2)
def ZCS : SX := .f2 40 (.f1 31 (b 17)) Zpu
def ZKq : SX := l z (a 18)
def Ztq : SX := .f2 40 (a 14) (k 1)
def ZNP : SX := .f2 41 Zkr Ztq
def ZCq : SX := .f2 114 ZMq Zpu
def ZyI : SX := .f2 40 (.f1 31 (b 17)) (.f1 31 ZCq)
def Zie : SX := .f3 112 (r 12) (a 18) (k 2)
def Zxm : SX := .f2 114 (b 20) Zie
def Zt4 : SX := .f3 112 (r 12) (a 18) z
def Zdm : SX := .f2 42 Zt4 (v 200 (g 1))
def Zlg : SX := .f2 41 (.f1 31 (b 17)) Zdm
def Zh0 : SX := .f2 40 (a 18) (k 1)
def ZwB : SX := .f2 41 (a 5) Zh0
def ZxY : SX := .f2 114 (b 19) Zdm
def Zyh : SX := .f2 51 Zie Zlg
def Zzs : SX := .f2 114 Zxm Zyh
def Zup : SX := .f2 117 (b 19) (.f2 40 Zdm Zyh)
def ZC2 : SX := .f2 115 (r 12) (a 5)
def ZPp : VC := i (l ZLF k2) (u 2 .int (u 3 .int (u 4 .int (u 5 .int (u 6 .int (u 7 .int (u 8 .int (u 9 .int (u 10 .int (u 11 .rows (u 12 .rows (u 13 .ints (i (e (.f1 32 (r 11)) Zkr) (i (l z (a 5)) (i (l (a 5) (.f1 32 (r 12))) (i (e (a 5) ZLF) (i (l (a 5) (a 6)) (i (l z (a 9)) (i (l (a 9) (.f1 30 (s 13))) (i (.f2 153 (.f2 113 (s 13) (a 9)) (o 209 (g 1))) (i (c 402 (g 1) (a 7)) (i (p 215 (g 1)) (i (l z (a 2)) (i (l (.f1 32 (r 11)) (a 3)) (i (c 413 (r 12) (g 1)) (n (l z Zkr) (n (.f2 155 (.f1 153 z) (j 409 (g 1))) (u 14 .int (u 15 .int (u 16 .int (u 17 .bytes (i (l z (a 14)) (i (l (a 14) Zkr) (i (.f2 155 (b 17) (wB 409 (g 1) (a 14))) (i (l (.f1 31 (b 17)) (a 16)) (.and (i (t (a 14) Zkr) (i (e Zpu ZFv) (i (l ZFv ZI3) (n (t (a 14) (.f1 32 (r 11))) (n (l (.f1 31 (b 17)) (.f1 31 (b 17))) (n (l (.f2 42 ZCS (k 1)) k1) (n (l z Zpu) (n (l Zpu ZI3) (n (l Zpu ZFv) (u 18 .int (u 19 .int (i (l ZCS (a 19)) (i (.f2 50 ZKq (e ZCS z)) (n (.f1 23 Ztq) (n (l z ZNP) (n (t ZNP (.f2 41 Zkr (a 14))) (n (l z Ztq) (n (l Ztq Zkr) (n (.f2 155 (.f2 120 (b 17) ZCq) (wB 409 (g 1) Ztq)) (n (l ZyI (a 19)) (n (e ZyI ZCS) .tt))))))))))))))))))))) (i (l Zkr (a 14)) (n (.f2 155 (b 17) (j 208 (w 408 (g 1)))) (n (e (.f1 31 (b 17)) (.f1 31 (b 17))) (u 18 .int (u 19 .bytes (i ZKq (i (l (a 18) (a 5)) (i (.f2 155 (b 19) (j 208 (f 408 (g 1) (a 18)))) (i (e (.f1 31 (b 19)) (.f1 31 (b 17))) (.and (i (t (a 18) (a 5)) (u 20 .bytes (i (l z Zie) (i (l Zie (.f1 31 (b 20))) (i (.f2 155 Zxm (wB 212 (g 1) (a 18))) (i (e Zt4 (d 217 (g 1) (a 18))) (i (l Zie (.f3 112 (r 12) (a 18) (k 3))) (n (t (a 18) (.f1 32 (r 12))) (n (.f1 23 Zdm) (n (l z (a 16)) (n (l z Zdm) (n (l Zdm (.f1 31 (b 17))) (n (l z Zlg) (n (l Zlg (.f2 41 (a 16) Zdm)) (n (l Zdm (.f1 31 (b 19))) (n (l (.f2 40 Zdm Zlg) (a 16)) (n (.f1 23 Zh0) (n (l z ZwB) (n (t ZwB (.f2 41 (a 5) (a 18))) (n (l z Zh0) (n (l Zh0 (a 5)) (n (.f2 155 (.f2 120 ZxY (.f2 120 Zzs Zup)) (j 208 (f 408 (g 1) Zh0))) (n (e (.f2 40 (.f1 31 ZxY) (.f2 40 (.f1 31 Zzs) (.f1 31 Zup))) (.f1 31 (b 17))) .tt))))))))))))))))))))))) (i (l (a 5) (a 18)) (n (.f2 155 ZC2 ZC2) (n (c 403 (g 1) (g 1)) (n (c 216 (g 1) (g 1)) (n (.f2 155 (b 19) (j 229 (g 1))) (n (l (.f1 31 (b 19)) (a 16)) .tt))))))))))))))))))))))))))))))))))))))))))))))))))))
theorem ZTJ : Yk Tryz.prog ZQ3 12 69 ZvX = ZPp := by kernel_rfl
def ZMo : SX := l z (a 0)
def ZGT : SX := e (a 2) z
def ZxL : SX := .f2 113 (s 4) (a 2)
def ZOW : VC := i (l z (a 2)) (i (l (a 2) (.f1 30 (s 4))) (i (l (a 2) (a 3)) (i (l (a 2) k0) (i (.f2 50 ZMo ZGT) (.and (i (t (a 0) z) (n (.f2 153 (.f2 113 (.f1 152 z) (a 2)) ZxL) (n (e z (a 2)) (n (l (a 2) z) (n ZGT .tt))))) (i ZMo (u 6 .int (i (l z (a 6)) (n (l (.f2 42 (a 2) (k 8)) k1) (u 7 .int (u 8 .int (i (l (a 2) (a 8)) (i (.f2 50 (l z (a 7)) ZGT) (n (.f2 153 (.f2 113 ZxL (a 2)) ZxL) (n (e (.f1 30 ZxL) (a 2)) .tt)))))))))))))))
theorem ZUa : Yk Tryz.prog ZO5 12 85 Zys = ZOW := by kernel_rfl
theorem ZlV (pg : Int) (p : Int × List UInt8) : ∀ (l : List (Int × List UInt8)) (s : List UInt8), ZtQ pg (l ++ [p]) s = ZdV (ZtQ pg l s) (p.1 * pg).toNat p.2
 | [], s => rfl
 | q :: l, s => by
  show ZtQ pg (l ++ [p]) _ = _
  rw [ZlV pg p l]; rfl
theorem Zj2 {d : Dv} {i : Int} (h0 : 0 <= i) (h1 : i < d.w.length) : (ZhO d (i + 1)).safe = ZdV (ZhO d i).safe (d.pg i * d.page).toNat (d.dat i) := by
 have e : d.w.take (i + 1).toNat = d.w.take i.toNat ++ [d.w.getD i.toNat (0, [])] := by
  rw [show (i + 1).toNat = i.toNat + 1 by omega, List.take_add_one, ZUj, ZUm (by omega)]; rfl
 show ZtQ d.page (d.w.take (i + 1).toNat) d.safe = _
 rw [e, ZlV]; rfl
theorem ZjL (d : Dv) : (ZhO d d.w.length).safe = d.image := by
 show ZtQ d.page (d.w.take ((d.w.length : Nat) : Int).toNat) d.safe = _
 rw [ZUq, List.take_length]; rfl
theorem Zro {d : Dv} (hg : GoodD d) (i : Int) : (ZhO d i).safe.length = d.safe.length := by
 have h := hg.pages
 have h2 := ZcN hg.size
 have := ZjK (K := d.pages) (p := d.page) (by omega) (d.w.take i.toNat) d.safe h.2.2.1 fun q hq => hg.w q (List.mem_of_mem_take hq)
 show (ZtQ d.page (d.w.take i.toNat) d.safe).length = _
 omega
theorem ZeZ {d : Dv} (hg : GoodD d) (i : Int) : (ZhO d i).pages = d.pages := by
 show (((ZhO d i).safe.length : Nat) : Int).tdiv d.page = _
 rw [Zro hg]; rfl
theorem Zl5 {d : Dv} (hg : GoodD d) (i : Int) : GoodD (ZhO d i) := by
 have hl := Zro hg i
 obtain ⟨k, k1, k2, k3, k4⟩ := hg.pgs
 refine ⟨hg.size, ⟨k, k1, k2, by rw [hl]; exact k3, by rw [hl]; exact k4⟩, fun p hm => ?_, hg.acts, hg.cnt⟩
 rw [ZeZ hg]; exact hg.w p hm
theorem cpyG {W Y : List UInt8} {k : Int} (h1 : k = Y.length) (h2 : W.length = Y.length) : W.take 0 ++ (Y.take k.toNat ++ W.drop k.toNat) = Y := by
 rw [List.take_zero, List.nil_append, ZUv (by omega), List.drop_of_length_le (by omega), List.append_nil]
theorem ZtA {d : Dv} (hg : GoodD d) {i : Int} (h0 : 0 <= i) (h1 : i < d.pages) : d.safe.take (i * d.page).toNat ++ d.place i = d.safe.take ((i + 1) * d.page).toNat := by
 have hb := Yv hg
 have hin := Yn h0 h1 (Int.le_of_lt hb.1)
 have hw : (i + 1) * d.page = i * d.page + d.page := by rw [Int.add_mul, Int.one_mul]
 rw [hw, show (i * d.page + d.page).toNat = (i * d.page).toNat + d.page.toNat by omega, List.take_add]; rfl
theorem ZJM {d : Dv} (hg : GoodD d) : GoodD { d with sy := d.sy + 1 } := by
 have hc := hg.cnt
 exact ⟨hg.size, hg.pgs, hg.w, hg.acts, ⟨hc.1, hc.2.1, show 0 <= d.sy + 1 by omega⟩⟩
theorem Zkx {d : Dv} (hg : GoodD d) (hd : d.down = false) (h0 : ¬ d.acts = 0) : GoodD { d with sy := d.sy + 1, acts := Zbx d.acts, safe := d.image, w := [] } := by
 have hc := hg.cnt
 have ha := hg.acts
 obtain ⟨k, k1, k2, k3, k4⟩ := hg.pgs
 refine ⟨hg.size, ⟨k, k1, k2, by show d.image.length = _; rw [Zax hg]; exact k3, by show d.image.length <= _; rw [Zax hg]; exact k4⟩, (fun p hp => nomatch hp), ?_, ⟨hc.1, hc.2.1, show 0 <= d.sy + 1 by omega⟩⟩
 show -1 <= Zbx d.acts /\ Zbx d.acts <= _
 unfold Zbx Zbd; split <;> omega
theorem ZPa (S : Sig GG) (hS : RpSig S) : Zs S Tryz.prog 85 Zys := by
 refine Zd S (C := ZO5) (fuel := 12) (Zx trivial ⟨⟨⟨by decide, Zri S⟩, trivial⟩, trivial⟩ trivial) fun ρ => ?_
 rw [ZUa]
 simp only [ZOW, ZMo, ZGT, ZxL, Zr, Zq, VC.den, SX.den, Env.upd, beq_iff_eq, Bool.not_eq_true', beq_eq_false_iff_ne, ne_eq, Bool.not_not, Int.toNat_zero, Nat.reduceEqDiff, reduceIte, sB, sC]
 generalize (ρ 4).tN = X
 generalize (ρ 2).tI = l
 generalize (ρ 0).tI = b
 generalize (ρ 3).tI = c
 intro h1 h2 h3 h4 h5
 refine ⟨fun hb => ?_, fun hb _ _ => ⟨by omega, fun b' c' h6 h7 => ⟨by rw [List.take_take, Nat.min_self], by rw [ZUl]; omega, trivial⟩⟩⟩
 have hl : l = 0 := h5.resolve_left (by omega)
 subst hl
 exact ⟨rfl, rfl, ZUu 0, rfl, trivial⟩
theorem ZCc (S : Sig GG) (hS : RpSig S) : Zs S Tryz.prog 67 ZAt := by
 refine Zd S (C := ZPW) (fuel := 12) (Zx ⟨Zc (by decide) (ZHF S hS), trivial⟩ ⟨⟨⟨by decide, ZaK S hS⟩, ⟨by decide, Yw S hS _ _ _⟩, ⟨by decide, Yw S hS _ _ _⟩, ⟨by decide, ZaK S hS⟩, ⟨by decide, ZgJ S hS _ _ _ _⟩, trivial, ⟨by decide, Zfe S hS.cs.dv⟩, ⟨by decide, ZiK S hS _ _ _ _⟩, ⟨by decide, Zfd S hS.cs.dv⟩, ⟨by decide, ZC6 S hS⟩, ⟨by decide, ZgJ S hS _ _ _ _⟩, ⟨by decide, Zqw S hS.cs.dv 227⟩, ⟨by decide, Yw S hS _ _ _⟩, trivial⟩, trivial⟩ trivial) fun ρ => ?_
 rw [ZRP]
 simp only [ZQg, ZGX, ZMB, ZN4, Ztp, ZCi, ZsN, ZMD, ZKa, Zda, ZJb, Zru, ZqB, Zsa, ZqY, ZlO, ZqU, Zhn, ZAD, ZBm, ZrY, ZAJ, ZBf, ZrE, ZzZ, Zy2, Zic, ZCs, Zuj, Zu6, ZBQ, Zde, Zyr, Zvw, Zzz, Zgw, ZwV, ZDo, Ziz, ZrA, Zww, ZwI, Zxl, ZEd, ZCI, Zul, Zwn, Zuv, ZB0, ZAT, ZDc, ZyG, ZEa, Zzi, Zyu, ZDW, ZvM, ZDX, Ziy, ZDH, ZBj, Zxr, ZvA, ZxG, Zv6, ZEI, ZAL, ZC7, Zwh, Zak, ZCQ, ZEi, Zyi, Zwp, ZCP, ZzA, Zvl, ZyU, ZBk, ZwD, ZAj, ZEC, Zyk, ZAm, ZCx, ZvN, ZDN, ZBt, YR, Zy4, ZyN, ZqV, Zwv, Zr, Zq, VC.den, SX.den, Env.upd, beq_iff_eq, Bool.not_eq_true', beq_eq_false_iff_ne, ne_eq, Bool.not_not, Int.toNat_zero, Nat.reduceEqDiff, reduceIte, sdv hS.cs.dv, srp hS, sB, sC]
 generalize Zk (U.co S .g (ρ 1)) = d
 intro c1 c2 c3 i2 i3 i4 i5 i6 ac i8 i9 i10 R Y Z hR h1 h2 h3 h4 h5 h6 h7 h8 hg h9 h10 hY
 have hb := Yv hg
 have hc := hg.cnt
 have ha := hg.acts
 have hil := Zax hg
 refine ⟨fun hd => ?_, fun hd => ⟨⟨by omega, by omega⟩, fun hna => ?_, fun har => ⟨fun hz => ?_, fun hz => ?_⟩⟩⟩
 ·have e1 : d.sync = d := by unfold Dv.sync; rw [if_pos hd]
  have e2 : d.syE = 3 := by unfold Dv.syE; rw [if_pos hd]
  simp only [e1, e2]
  repeat' (first | exact trivial | rfl | assumption | apply And.intro)
 ·have hd : d.down = false := by simpa using hd
  have hna : ¬ 0 <= d.acts := fun h => by rw [ZiD.2 h] at hna; simp at hna
  have h0 : ¬ d.acts = 0 := by omega
  have e1 : d.sync = { d with sy := d.sy + 1, acts := Zbx d.acts, safe := d.image, w := [] } := by unfold Dv.sync; rw [if_neg (by rw [hd]; decide)]; exact if_neg h0
  have e2 : d.syE = 0 := by unfold Dv.syE; rw [if_neg (by rw [hd]; decide), if_neg h0]
  refine ⟨by repeat' (first | exact trivial | rfl | apply And.intro), fun i i0 i1 => ⟨fun hi B s1 s2 s3 s4 s5 => ?_, fun hi => ?_⟩⟩
  ·
   have hyi := hY i i0 (by omega)
   obtain ⟨hdl, hp0, hp1⟩ := ZaB hg i0 (show i < d.w.length by omega)
   have hgf := Zl5 hg i
   have hpf := ZeZ hg i
   have hpe : (ZhO d i).page = d.page := rfl
   have hpl : (((ZhO d i).place (d.pg i)).length : Int) = d.page := Za0 hgf hp0 (by rw [hpf]; exact hp1)
   have hL : ((Y.getD i.toNat []).getD (Int.toNat 2) 0) = d.page := by
    rw [<- hdl, <- s3, ZUl]; omega
   have s4 : (Y.getD i.toNat []).getD 0 0 = d.pg i := s4
   rw [hL] at s3 ⊢
   simp only [s4, hpf, hpl]
   refine ⟨hp0, hp1, fun t1 t2 => ?_⟩
   have t1 : (R.getD (d.pg i).toNat []).getD (Int.toNat 1) 0 = d.page := t1
   rw [t1, s3, YF (x := d.page) (by omega), cpyG (W := (ZhO d i).place (d.pg i)) (Y := d.dat i) (by omega) (by omega)]
   have hsum : (((((ZhO d i).place (d.pg i)).take 0).length : Nat) : Int) + (((((d.dat i).take d.page.toNat).length : Nat) : Int) + (((((ZhO d i).place (d.pg i)).drop d.page.toNat).length : Nat) : Int)) = d.page := by simp only [ZUl, ZUx]; omega
   exact ⟨by omega, by omega, by omega, by omega, by omega, by omega, by omega, by omega, hgf, ⟨rfl, Zj2 i0 (by omega)⟩, ⟨by omega, by omega⟩, by omega, by omega, by omega, by omega, trivial⟩
  ·have him : i = d.w.length := by omega
   have hall : (ZhO d i).safe = d.image := by rw [him]; exact ZjL d
   have hgs := Zkx hg hd h0
   have hpg : (({ d with sy := d.sy + 1, acts := Zbx d.acts, safe := d.image, w := [] } : Dv)).pages = d.pages := by show ((d.image.length : Nat) : Int).tdiv d.page = _; rw [hil]; rfl
   have harm : ZhV { d with sy := d.sy + 1, acts := Zbx d.acts, safe := d.image, w := [] } = ZhV d := by
    have : ¬ 0 <= Zbx d.acts := by unfold Zbx Zbd; split <;> omega
    unfold ZhV
    rw [decide_eq_false hna]; exact decide_eq_false this
   simp only [e1, e2, hpg, harm]
   refine ⟨by repeat' (first | exact trivial | rfl | apply And.intro), by repeat' (first | exact trivial | rfl | apply And.intro), h7, fun h => absurd h (by show ¬ 0 <= Zbx d.acts; unfold Zbx Zbd; split <;> omega), hgs, ⟨rfl, hall.symm⟩, by repeat' (first | exact trivial | rfl | apply And.intro), hR, ?_⟩
   repeat' (first | exact trivial | rfl | assumption | apply And.intro)
 ·have hd : d.down = false := by simpa using hd
  have har : 0 <= d.acts := ZiD.1 (by simpa using har)
  have h0 : d.acts = 0 := by rw [<- h8 har]; exact hz
  have e1 : d.sync = Dv.fall { d with sy := d.sy + 1 } := by unfold Dv.sync; rw [if_neg (by rw [hd]; decide)]; exact if_pos h0
  have e2 : d.syE = 3 := by unfold Dv.syE; rw [if_neg (by rw [hd]; decide), if_pos h0]
  simp only [e1, e2]
  have hgs := ZJM hg
  refine ⟨by repeat' (first | exact trivial | rfl | apply And.intro), h7, h8, hgs, by repeat' (first | exact trivial | rfl | apply And.intro), by repeat' (first | exact trivial | rfl | apply And.intro), hR, by repeat' (first | exact trivial | rfl | apply And.intro), by repeat' (first | exact trivial | rfl | apply And.intro), by repeat' (first | exact trivial | rfl | apply And.intro), by repeat' (first | exact trivial | rfl | apply And.intro), by repeat' (first | exact trivial | rfl | apply And.intro), by repeat' (first | exact trivial | rfl | apply And.intro), by repeat' (first | exact trivial | rfl | apply And.intro), by repeat' (first | exact trivial | rfl | apply And.intro), by repeat' (first | exact trivial | rfl | apply And.intro), fun j14 j15 j16 j17 j18 j19 j20 j21 j22 R' Y' Z' g0' g1 g2 g3 g4 g5 g6 g7 _ _ _ _ _ => ⟨by omega, ?_, by repeat' (first | exact trivial | rfl | apply And.intro), by repeat' (first | exact trivial | rfl | apply And.intro), trivial⟩⟩
  have := congrArg List.length g7
  rw [ZUl] at this
  omega
 ·have hd : d.down = false := by simpa using hd
  have har : 0 <= d.acts := ZiD.1 (by simpa using har)
  have hac := h8 har
  have h0 : ¬ d.acts = 0 := by rw [<- hac]; exact hz
  have e1 : d.sync = { d with sy := d.sy + 1, acts := Zbx d.acts, safe := d.image, w := [] } := by unfold Dv.sync; rw [if_neg (by rw [hd]; decide)]; exact if_neg h0
  have e2 : d.syE = 0 := by unfold Dv.syE; rw [if_neg (by rw [hd]; decide), if_neg h0]
  refine ⟨⟨by omega, by omega⟩, by repeat' (first | exact trivial | rfl | apply And.intro), fun i i0 i1 => ⟨fun hi B s1 s2 s3 s4 s5 => ?_, fun hi => ?_⟩⟩
  ·
   have hyi := hY i i0 (by omega)
   obtain ⟨hdl, hp0, hp1⟩ := ZaB hg i0 (show i < d.w.length by omega)
   have hgf := Zl5 hg i
   have hpf := ZeZ hg i
   have hpe : (ZhO d i).page = d.page := rfl
   have hpl : (((ZhO d i).place (d.pg i)).length : Int) = d.page := Za0 hgf hp0 (by rw [hpf]; exact hp1)
   have hL : ((Y.getD i.toNat []).getD (Int.toNat 2) 0) = d.page := by
    rw [<- hdl, <- s3, ZUl]; omega
   have s4 : (Y.getD i.toNat []).getD 0 0 = d.pg i := s4
   rw [hL] at s3 ⊢
   simp only [s4, hpf, hpl]
   refine ⟨hp0, hp1, fun t1 t2 => ?_⟩
   have t1 : (R.getD (d.pg i).toNat []).getD (Int.toNat 1) 0 = d.page := t1
   rw [t1, s3, YF (x := d.page) (by omega), cpyG (W := (ZhO d i).place (d.pg i)) (Y := d.dat i) (by omega) (by omega)]
   have hsum : (((((ZhO d i).place (d.pg i)).take 0).length : Nat) : Int) + (((((d.dat i).take d.page.toNat).length : Nat) : Int) + (((((ZhO d i).place (d.pg i)).drop d.page.toNat).length : Nat) : Int)) = d.page := by simp only [ZUl, ZUx]; omega
   exact ⟨by omega, by omega, by omega, by omega, by omega, by omega, by omega, by omega, hgf, ⟨rfl, Zj2 i0 (by omega)⟩, ⟨by omega, by omega⟩, by omega, by omega, by omega, by omega, trivial⟩
  ·have him : i = d.w.length := by omega
   have hall : (ZhO d i).safe = d.image := by rw [him]; exact ZjL d
   have hgs := Zkx hg hd h0
   have han : Zbx d.acts = d.acts + -1 := by unfold Zbx Zbd; split <;> omega
   have hpg : (({ d with sy := d.sy + 1, acts := Zbx d.acts, safe := d.image, w := [] } : Dv)).pages = d.pages := by show ((d.image.length : Nat) : Int).tdiv d.page = _; rw [hil]; rfl
   have harm : ZhV { d with sy := d.sy + 1, acts := Zbx d.acts, safe := d.image, w := [] } = ZhV d := by
    unfold ZhV
    rw [decide_eq_true har]; exact decide_eq_true (show 0 <= Zbx d.acts by omega)
   simp only [e1, e2, hpg, harm]
   refine ⟨by repeat' (first | exact trivial | rfl | apply And.intro), by repeat' (first | exact trivial | rfl | apply And.intro), h7, fun _ => by show ac + -1 = Zbx d.acts; omega, hgs, ⟨rfl, hall.symm⟩, by repeat' (first | exact trivial | rfl | apply And.intro), hR, ?_⟩
   repeat' (first | exact trivial | rfl | assumption | apply And.intro)
theorem Zyp (S : Sig GG) (hS : RpSig S) : Zs S Tryz.prog 69 ZvX := by
 refine Zd S (C := ZQ3) (fuel := 12) (Zx trivial ⟨⟨⟨by decide, ZaK S hS⟩, ⟨by decide, Zcx S⟩, trivial, ⟨by decide, ZiK S hS _ _ _ _⟩, ⟨by decide, Zt0 S hS⟩, trivial, ⟨by decide, Zfe S hS.cs.dv⟩, ⟨by decide, Zfd S hS.cs.dv⟩, ⟨by decide, Yw S hS _ _ _⟩, trivial⟩, trivial⟩ trivial) fun ρ => ?_
 rw [ZTJ]
 simp only [ZPp, ZLF, Zkr, Zpu, ZMq, ZFv, ZI3, ZCS, ZKq, Ztq, ZNP, ZCq, ZyI, Zie, Zxm, Zt4, Zdm, Zlg, Zh0, ZwB, ZxY, Zyh, Zzs, Zup, ZC2, Zr, Zq, VC.den, SX.den, Env.upd, beq_iff_eq, Bool.not_eq_true', beq_eq_false_iff_ne, ne_eq, Bool.not_not, Int.toNat_zero, Nat.reduceEqDiff, reduceIte, sdv hS.cs.dv, srp hS, sB, sC]
 generalize Zk (U.co S .g (ρ 1)) = d
 intro c1 i2 i3 i4 i5 i6 ac i8 i9 i10 R Y Z hR h1 h2 h3 h4 h5 h6 h7 h8 hg h9 h10 hY
 have hb := Yv hg
 have hst0 : ([] : List UInt8) = d.safe.take ((0 : Int) * d.page).toNat := by rw [Int.zero_mul]; rfl
 refine ⟨by omega, hst0, fun i b c X i0 i1 hX hXc => ⟨fun hi t1 t2 => ?_, fun hi => ?_⟩⟩
 ·have hpl := Za0 hg i0 hi
  rw [hpl] at t1 t2
  have t1 : (R.getD i.toNat []).getD (Int.toNat 1) 0 = d.page := t1
  have hin := Yn i0 hi (Int.le_of_lt hb.1)
  have hXl : (X.length : Int) = i * d.page := by rw [hX, ZUl]; omega
  have hts : (d.place i).take d.page.toNat = d.place i := ZUv (by omega)
  rw [t1, hts]
  have hnx := ZtA hg i0 hi
  rw [<- hX] at hnx
  exact ⟨by omega, by omega, by omega, by omega, by omega, by omega, fun b2 c2 q1 q2 => ⟨⟨by omega, by omega⟩, by omega, by omega, by omega, by omega, hnx, by omega, by omega, trivial⟩⟩
 ·have hi : i = d.pages := by omega
  have hXs : X = d.safe := by rw [hX, hi, <- hb.2.2.2.2.1, ZUq, List.take_length]
  refine ⟨hXs, by repeat' (first | exact trivial | rfl | apply And.intro), fun k W k0 k1 hW hWl => ⟨fun hk B s1 s2 s3 s4 s5 => ?_, fun hk => ?_⟩⟩
  ·have hyi := hY k k0 (by omega)
   obtain ⟨hdl, hp0, hp1⟩ := ZaB hg k0 (show k < d.w.length by omega)
   have hin := Yn hp0 hp1 (Int.le_of_lt hb.1)
   have hL : ((Y.getD k.toNat []).getD (Int.toNat 2) 0) = d.page := by
    rw [<- hdl, <- s3, ZUl]; omega
   have s4 : (Y.getD k.toNat []).getD 0 0 = d.pg k := s4
   have hXlen : (X.length : Int) = d.safe.length := by rw [hXs]
   rw [hL] at s3 ⊢
   rw [s4, s3, YF (x := d.page) (by omega)]
   have hlay := ZlC (X := W) (Y := d.dat k) (p := d.pg k * d.page) (k := d.page) (c := d.page) rfl hin.1 (by omega) (by omega)
   rw [ZUv (l := d.dat k) (by omega)] at hlay
   have hln := Zhr (X := W) (Y := d.dat k) (p := d.pg k * d.page) (k := d.page) (c := d.page) (m := X.length) rfl hin.1 (by omega) (by omega) (by omega) (by omega)
   rw [ZUv (l := d.dat k) (by omega)] at hln
   have hstep := Zj2 (d := d) k0 (show k < d.w.length by omega)
   rw [<- hW] at hstep
   rw [hlay]
   exact ⟨by omega, ⟨by omega, by omega⟩, by omega, by omega, by omega, by omega, by omega, by omega, by omega, ⟨by omega, by omega⟩, by omega, by omega, by omega, by omega, hstep.symm, hln, trivial⟩
  ·have hk : k = d.w.length := by omega
   have hall : W = d.image := by rw [hW, hk]; exact ZjL d
   exact ⟨by repeat' (first | exact trivial | rfl | apply And.intro), by repeat' (first | exact trivial | rfl | apply And.intro), by repeat' (first | exact trivial | rfl | apply And.intro), hall, by omega, trivial⟩
def ZG4 : SX := .f2 113 (s 23) (a 19)
def ZGl : SX := j 208 (g 1)
def ZGP : SX := .f1 31 ZGl
def Zw6 : SX := p 201 (g 1)
def ZI5 : SX := .f2 115 (r 21) (a 15)
def ZJn : SX := .f2 155 ZI5 ZI5
def ZHp : SX := .f2 122 (a 9) (.f2 122 (a 10) (.f1 152 z))
def Zdr : SX := .us .g 219 (g 1) (a 2) ZG4 ZHp
def ZNO : SX := j 208 Zdr
def ZJr : SX := v 207 (g 1)
def ZAX : SX := v 206 (g 1)
def ZBh : SX := v 205 (g 1)
def ZEc : SX := v 200 (g 1)
def Zzv : SX := .f2 113 (s 7) (a 5)
def ZzK : SX := .us .g 219 (g 1) (a 2) Zzv ZHp
def Zr2 : SX := .f2 113 (s 25) (a 5)
def Za7 : SX := .us .g 219 (g 1) (a 2) Zr2 ZHp
def Zyx : SX := j 208 Za7
def ZRN : VC := i (.f1 23 (a 2)) (i (l z (a 5)) (i (l (a 5) (.f1 30 (s 7))) (i (l (a 5) (a 6)) (i (l (a 5) k0) (i (.f2 50 (l z (a 3)) (e (a 5) z)) (u 11 .int (i (l z (a 11)) (u 12 .int (u 13 .int (u 14 .int (u 15 .int (u 16 .int (u 17 .int (u 18 .int (u 19 .int (u 20 .int (u 21 .rows (u 22 .amap (u 23 .ints (i (l z (a 15)) (i (l (a 15) (.f1 32 (r 21))) (i (e (a 15) (v 211 (g 1))) (i (l (a 15) (a 16)) (i (l z (a 19)) (i (l (a 19) (.f1 30 (s 23))) (i (.f2 153 ZG4 (o 209 (g 1))) (i (c 214 (m 22) (g 1)) (i (p 215 (g 1)) (i (l ZGP (a 13)) (i (l z (a 12)) (i (p 237 (m 22)) (.and (i Zw6 (n ZJn (n (.f2 153 ZG4 (o 209 Zdr)) (n (c 214 (m 22) Zdr) (n (p 215 Zdr) (n (c 216 Zdr (g 1)) (n (.f2 155 ZNO ZGl) (n (e (v 207 Zdr) ZJr) (n (e (v 206 Zdr) ZAX) (n (e (v 205 Zdr) ZBh) (n (e (v 204 Zdr) (v 204 (g 1))) (n (e (v 203 Zdr) (v 203 (g 1))) (n (e (v 202 Zdr) (v 202 (g 1))) (n (.f2 155 (p 201 Zdr) Zw6) (n (e (.f1 31 ZNO) ZGP) (n (e (v 200 Zdr) ZEc) (n (.f2 155 ZzK Zdr) .tt))))))))))))))))) (i (.f1 2 Zw6) (u 24 .int (u 25 .ints (u 26 .int (i (.f2 153 Zr2 Zzv) (i (e (.f1 30 (s 25)) (a 5)) (i (l (a 5) (a 26)) (n ZJn (n (l (a 5) (.f1 30 (s 25))) (n (.f2 153 Zr2 (o 209 Za7)) (n (c 214 (m 22) Za7) (n (p 215 Za7) (n (c 216 Za7 (g 1)) (n (.f2 155 Zyx ZGl) (n (e (v 207 Za7) ZJr) (n (e (v 206 Za7) ZAX) (n (e (v 205 Za7) ZBh) (n (e (v 204 Za7) (a 10)) (n (e (v 203 Za7) (a 9)) (n (e (v 202 Za7) (.f2 52 (a 2) (k (-1)))) (n (.f2 155 (p 201 Za7) Zw6) (n (e (.f1 31 Zyx) ZGP) (n (e (v 200 Za7) ZEc) (n (.f2 155 ZzK Za7) .tt))))))))))))))))))))))))))))))))))))))))))))))))))))))))
theorem ZPg : Yk Tryz.prog ZP7 12 62 ZuC = ZRN := by kernel_rfl
def ZLM : SX := e (a 5) z
def ZG0 : SX := v 210 (g 1)
def ZFM : SX := .f2 113 (s 23) (a 19)
def ZAh : SX := p 201 (g 1)
def ZOn : SX := .f2 115 (r 22) (a 15)
def ZI6 : SX := .f2 155 ZOn ZOn
def ZGv : SX := .f2 122 (a 9) (.f2 122 (a 10) (.f1 152 z))
def Zc3 : SX := .us .g 219 (g 1) (a 2) ZFM ZGv
def ZJH : SX := v 210 Zc3
def ZJ9 : SX := v 207 (g 1)
def Zuy : SX := v 206 (g 1)
def ZvS : SX := v 205 (g 1)
def ZBW : SX := v 200 (g 1)
def Zq0 : SX := .f2 113 (s 7) (a 5)
def Zua : SX := .us .g 219 (g 1) (a 2) Zq0 ZGv
def ZEG : SX := .f2 113 Zq0 (a 5)
def ZaL : SX := .us .g 219 (g 1) (a 2) ZEG ZGv
def Zxj : SX := v 210 ZaL
def ZTC : VC := i (.f1 23 (a 2)) (i (l z (a 5)) (i (l (a 5) (.f1 30 (s 7))) (i (l (a 5) (a 6)) (i (l (a 5) k0) (i (.f2 50 (l z (a 3)) ZLM) (u 11 .int (i (l z (a 11)) (u 12 .int (u 13 .int (u 14 .int (u 15 .int (u 16 .int (u 17 .int (u 18 .int (u 19 .int (u 20 .int (u 21 .rows (u 22 .rows (u 23 .ints (i (e (.f1 32 (r 21)) ZG0) (i (l z (a 15)) (i (l (a 15) (.f1 32 (r 22))) (i (e (a 15) (v 211 (g 1))) (i (l (a 15) (a 16)) (i (l z (a 19)) (i (l (a 19) (.f1 30 (s 23))) (i (.f2 153 ZFM (o 209 (g 1))) (i (c 402 (g 1) (a 17)) (i (p 215 (g 1)) (i (l z (a 12)) (i (l (.f1 32 (r 21)) (a 13)) (i (c 413 (r 22) (g 1)) (.and (i ZAh (n ZI6 (n (.f2 153 ZFM (o 209 Zc3)) (n (c 402 Zc3 (a 17)) (n (p 215 Zc3) (n (c 403 Zc3 (g 1)) (n (c 216 Zc3 (g 1)) (n (e (.f1 32 (r 21)) ZJH) (n (e (v 207 Zc3) ZJ9) (n (e (v 206 Zc3) Zuy) (n (e (v 205 Zc3) ZvS) (n (e (v 204 Zc3) (v 204 (g 1))) (n (e (v 203 Zc3) (v 203 (g 1))) (n (.f2 155 (p 401 Zc3) (p 401 (g 1))) (n (.f2 155 (p 201 Zc3) ZAh) (n (e ZJH ZG0) (n (e (v 200 Zc3) ZBW) (n (.f2 155 Zua Zc3) .tt)))))))))))))))))) (i (.f1 2 ZAh) (n (l (.f2 42 (a 5) (k 8)) k1) (u 24 .int (u 25 .int (i (l (a 5) (a 25)) (i (.f2 50 (l z (a 24)) ZLM) (n ZI6 (n (l (a 5) (.f1 30 Zq0)) (n (.f2 153 ZEG (o 209 ZaL)) (n (c 402 ZaL (a 2)) (n (p 215 ZaL) (n (c 403 ZaL (g 1)) (n (c 216 ZaL (g 1)) (n (e (.f1 32 (r 21)) Zxj) (n (e (v 207 ZaL) ZJ9) (n (e (v 206 ZaL) Zuy) (n (e (v 205 ZaL) ZvS) (n (e (v 204 ZaL) (a 10)) (n (e (v 203 ZaL) (a 9)) (n (.f2 155 (p 401 ZaL) (l z (a 2))) (n (.f2 155 (p 201 ZaL) ZAh) (n (e Zxj ZG0) (n (e (v 200 ZaL) ZBW) (n (.f2 155 Zua ZaL) .tt)))))))))))))))))))))))))))))))))))))))))))))))))))))))))
theorem ZSb : Yk Tryz.prog ZOY 12 63 Zyb = ZTC := by kernel_rfl
theorem ZfR {d : Dv} {n t a : Int} {k : List Int} (h : d.down = true) : d.arm n k t a = d := by unfold Dv.arm; rw [if_pos h]
theorem ZrM {d : Dv} {n t a : Int} {k : List Int} (h : d.down = false) : d.arm n k t a = { d with acts := Zbd n (-1), keep := k, torn := t, at' := a } := by unfold Dv.arm; rw [if_neg (by rw [h]; decide)]
theorem Zf2 {d : Dv} (hg : GoodD d) {n t a : Int} {k : List Int} (hn : n <= 9223372036854775807) : GoodD { d with acts := Zbd n (-1), keep := k, torn := t, at' := a } := by
 refine ⟨hg.size, hg.pgs, hg.w, ?_, hg.cnt⟩
 show -1 <= Zbd n (-1) /\ Zbd n (-1) <= _
 unfold Zbd; split <;> omega
theorem ZHL (S : Sig GG) (hS : RpSig S) : Zs S Tryz.prog 62 ZuC := by
 refine Zd S (C := ZP7) (fuel := 12) (Zx ⟨Zc (by decide) (ZPa S hS), trivial⟩ ⟨⟨⟨by decide, ZcI S hS.cs.dv⟩, ⟨by decide, Y9 S hS.cs.dv _ _ _⟩, trivial⟩, trivial⟩ trivial) fun ρ => ?_
 rw [ZPg]
 simp only [ZRN, ZG4, ZGl, ZGP, Zw6, ZI5, ZJn, ZHp, Zdr, ZNO, ZJr, ZAX, ZBh, ZEc, Zzv, ZzK, Zr2, Za7, Zyx, Zr, Zq, VC.den, SX.den, Env.upd, beq_iff_eq, Bool.not_eq_true', beq_eq_false_iff_ne, ne_eq, Bool.not_not, Int.toNat_zero, Nat.reduceEqDiff, reduceIte, sdv hS.cs.dv, sB, sC]
 generalize Zk (U.co S .g (ρ 1)) = d
 generalize (ρ 7).tN = X
 generalize (ρ 5).tI = l
 generalize (ρ 2).tI = n
 generalize (ρ 9).tI = tn
 generalize (ρ 10).tI = aw
 intro hn q1 q2 q3 q4 q5 _ _ i12 i13 i14 i15 i16 i17 i18 i19 i20 R M Z h1 h2 h3 h4 h5 h6 h7 h8 hg h9 h10 h11
 have t0 : ([tn, aw] : List Int).getD 0 0 = tn := rfl
 have t1 : ([tn, aw] : List Int).getD 1 0 = aw := rfl
 simp only [t0, t1]
 refine ⟨fun hd => ?_, fun hd => ?_⟩
 ·simp only [ZfR hd]
  repeat' (first | exact trivial | rfl | assumption | apply And.intro)
 ·have hd : d.down = false := by simpa using hd
  simp only [ZrM hd]
  have hga := Zf2 hg (n := n) (t := tn) (a := aw) (k := X.take l.toNat) (by omega)
  intro b Y c s1 s2 s3
  rw [s1]
  refine ⟨by repeat' (first | exact trivial | rfl | apply And.intro), by omega, by repeat' (first | exact trivial | rfl | apply And.intro), ?_⟩
  repeat' (first | exact trivial | rfl | assumption | apply And.intro)
theorem ZH9 (S : Sig GG) (hS : RpSig S) : Zs S Tryz.prog 63 Zyb := by
 refine Zd S (C := ZOY) (fuel := 12) (Zx trivial ⟨⟨⟨by decide, ZaK S hS⟩, ⟨by decide, Zri S⟩, ⟨by decide, Yw S hS _ _ _⟩, trivial⟩, trivial⟩ trivial) fun ρ => ?_
 rw [ZSb]
 simp only [ZTC, ZLM, ZG0, ZFM, ZAh, ZOn, ZI6, ZGv, Zc3, ZJH, ZJ9, Zuy, ZvS, ZBW, Zq0, Zua, ZEG, ZaL, Zxj, Zr, Zq, VC.den, SX.den, Env.upd, beq_iff_eq, Bool.not_eq_true', beq_eq_false_iff_ne, ne_eq, Bool.not_not, Int.toNat_zero, Nat.reduceEqDiff, reduceIte, sdv hS.cs.dv, srp hS, sB, sC]
 generalize Zk (U.co S .g (ρ 1)) = d
 generalize (ρ 7).tN = X
 generalize (ρ 5).tI = l
 generalize (ρ 2).tI = n
 generalize (ρ 9).tI = tn
 generalize (ρ 10).tI = aw
 intro hn q1 q2 q3 q4 q5 _ _ i12 i13 i14 i15 i16 i17 i18 i19 i20 R Y Z hR h1 h2 h3 h4 h5 h6 h7 h8 hg h9 h10 hY
 have t0 : ([tn, aw] : List Int).getD 0 0 = tn := rfl
 have t1 : ([tn, aw] : List Int).getD 1 0 = aw := rfl
 have t2 : (X.take l.toNat).take l.toNat = X.take l.toNat := by rw [List.take_take, Nat.min_self]
 simp only [t0, t1, t2]
 refine ⟨fun hd => ?_, fun hd => ?_⟩
 ·simp only [ZfR hd]
  repeat' (first | exact trivial | rfl | assumption | apply And.intro)
 ·have hd : d.down = false := by simpa using hd
  simp only [ZrM hd]
  have hga := Zf2 hg (n := n) (t := tn) (a := aw) (k := X.take l.toNat) (by omega)
  have harm : ZhV { d with acts := Zbd n (-1), keep := X.take l.toNat, torn := tn, at' := aw } = Go.Eng.leB 0 n := by
   unfold ZhV Go.Eng.leB
   by_cases h : 0 <= n
   ·rw [decide_eq_true h]; exact decide_eq_true (show 0 <= Zbd n (-1) by unfold Zbd; split <;> omega)
   ·rw [decide_eq_false h]; exact decide_eq_false (show ¬ 0 <= Zbd n (-1) by unfold Zbd; split <;> omega)
  have hac : 0 <= ({ d with acts := Zbd n (-1), keep := X.take l.toNat, torn := tn, at' := aw } : Dv).acts -> n = ({ d with acts := Zbd n (-1), keep := X.take l.toNat, torn := tn, at' := aw } : Dv).acts := by
   show 0 <= Zbd n (-1) -> n = Zbd n (-1)
   unfold Zbd; split <;> omega
  refine ⟨by omega, fun b c s1 s2 => ⟨by repeat' (first | exact trivial | rfl | apply And.intro), by rw [ZUl]; omega, by repeat' (first | exact trivial | rfl | apply And.intro), hac, hga, by repeat' (first | exact trivial | rfl | apply And.intro), by repeat' (first | exact trivial | rfl | apply And.intro), hR, by repeat' (first | exact trivial | rfl | apply And.intro), by repeat' (first | exact trivial | rfl | apply And.intro), by repeat' (first | exact trivial | rfl | apply And.intro), by repeat' (first | exact trivial | rfl | apply And.intro), by repeat' (first | exact trivial | rfl | apply And.intro), ?_⟩⟩
  rw [harm]
  repeat' (first | exact trivial | rfl | assumption | apply And.intro)
def ZrU : Ctr := ⟨[.int], [.one (.int .i64 (.int 512)), .one (.int .i64 (ai 0))], [], [eLt (ai 0) (.int 4)], [], .one (.ptr (.int (-1)) 0), [], []⟩
def ZT6 : Cx := pnCx
def Zsv : Ctr := ⟨[.int], [.one (.int .i64 (.int 512)), .one (.int .i64 (ai 0))], [], [eLt (.int 65536) (ai 0)], [], .one (.ptr (.int (-1)) 0), [], []⟩
def ZTy : Cx := pnCx
def Zx3 : Ctr := ZrU
def ZQ4 : Cx := { specs := [], anns := [] }
def ZAq : Ctr := Zsv
def ZRL : Cx := { specs := [], anns := [] }
def okL (n : SX) : List SX := [eLe (.int 4) n, eLe n (.int 65536), eLe (.f2 42 n (.int 512)) (.int 67108864)]
def zpC (R n : SX) : Ch := .prd 82 R n
def zs : SX := .f2 126 (.int 512) z0
def zp0C : Ctr := ⟨[], [], [], [], [], .tup [], [zpC YD z0], []⟩
def ZOE : Ctr := ⟨[.int, .int, .int, .rows, .int], [.one (sl1 (ai 0) (ai 1) (ai 2))], [bAr (ai 0) zs (ai 2), zpC (rA 3) (ai 4)], [.f2 45 (ai 1) (.int 512), .f2 45 (ZA (rA 3)) (ai 4)], [], .tup [], [zpC (.f2 121 (tk (rA 3) (ai 4)) (.f2 124 (Yf (ai 0) (ai 1) (ai 2)) YD)) (Zgf (ai 4))], []⟩
def ZLn : Ctr := ⟨[.int, .rows, .int], [.one (.int .i64 (ai 0))], [zpC (rA 1) (ai 2)], [.f2 45 (ai 2) (ai 0), eLe (.int 4) (ai 0), eLe (ai 0) (.int 65536)], [], .tup [], [pgC (rA 1) (usG 309 (ai 0) z0 z0), lsA (.int (-1)) YD z0, iAr (.int (-1)) (.f1 152 z0) z0, lsC z0 YD (usG 309 (ai 0) z0 z0)], []⟩
def ZAH : Ctr := ⟨[.int], [.one (.int .i64 (.int 512)), .one (.int .i64 (ai 0))], [], okL (ai 0), [.int], .one (.ptr (ai 1) 0), [rpC (ai 1) (usG 309 (ai 0) z0 z0)], [eLe z0 (ai 1)]⟩
def celRN (K n b l c : SX) : Ch := .cel K 0 [.int .i64 n, sl1 b l c, slC (.int (-1)) z0 z0 2, .bool (.bool false), .bool (.bool false), .int .i64 z0, sl1 (.int (-1)) z0 z0, .int .i64 z0, .int .i64 z0, .int .i64 z0, .int .i64 z0, .int .i64 z0]
def rnkI : Inv := ⟨[.int, .int, .int, .rows], [(7, .one (.int .i64 (di 0)))], [celRN (ai 1) (.int 512) (di 1) (di 0) (di 2), slA (di 1) (rA 1000003) (di 2), zpC (rA 1000003) (di 0)], [eLe z0 (di 0), eLe (di 0) (ai 0), .f2 45 (ZA (rA 1000003)) (di 0), eLe (di 0) (di 2)], .f2 41 (ai 0) (di 0)⟩
def ZQT : Cx := { specs := [], anns := [(6, [(5, .ghost emSC []), (5, .ghost zp0C []), (6, .inv rnkI), (500008, .ghost ZOE [.tmp 27]), (9, .ghost ZLn [.tmp 1]), (9, .ghost (ZcU [] [] (usG 234 (gA 1) z0 z0)) [.tmp 6])])] }
def ZKP : SX := t (a 0) (k 4)
def ZRA : VC := i ZKP (.and .tt (i ZKP .tt))
theorem ZPc : Yk Tryz.prog ZT6 12 5 ZrU = ZRA := by kernel_rfl
def ZLj : SX := t (k 65536) (a 0)
def ZTD : VC := i ZLj (.and (i (l (k 4) (a 0)) (.and .tt (i ZLj .tt))) (i (t (a 0) (k 4)) .tt))
theorem ZT8 : Yk Tryz.prog ZTy 12 5 Zsv = ZTD := by kernel_rfl
def ZN0 : SX := t (a 0) (k 4)
def ZT1 : VC := i ZN0 (.and .tt (i ZN0 .tt))
theorem ZO4 : Yk Tryz.prog ZQ4 12 6 Zx3 = ZT1 := by kernel_rfl
def ZNe : SX := t (k 65536) (a 0)
def ZS1 : VC := i ZNe (.and (i (l (k 4) (a 0)) (.and .tt (i ZNe .tt))) (i (t (a 0) (k 4)) .tt))
theorem ZQn : Yk Tryz.prog ZRL 12 6 ZAq = ZS1 := by kernel_rfl
def ZKn : SX := l (k 4) (a 0)
def ZNd : SX := l (a 0) (k 65536)
def ZLt : SX := .f2 42 (a 0) (k 512)
def ZL9 : SX := l ZLt k5
def ZiW : SX := .f2 40 (a 2) (k 1)
def ZNE : SX := .f2 41 (a 0) ZiW
def Zw9 : SX := w 309 (a 0)
def Zc6 : SX := w 234 Zw9
def ZM7 : SX := v 210 Zc6
def ZSO : VC := i ZKn (i ZNd (i ZL9 (.and (i ZKn (.and (i ZNd (n (.f1 23 ZLt) (.and .tt (i ZL9 (u 1 .int (i (l z (a 1)) (n (l z (a 0)) (u 2 .int (u 3 .int (u 4 .int (u 5 .rows (i (l z (a 2)) (i (l (a 2) (a 0)) (i (e (.f1 32 (r 5)) (a 2)) (i (l (a 2) (a 4)) (.and (i (t (a 2) (a 0)) (u 6 .int (i (l z (a 6)) (u 7 .int (i (l z (a 7)) (n (l (a 2) (.f1 32 (r 5))) (n (l (.f2 42 ZiW (k 24)) k1) (u 8 .int (u 9 .int (i (l ZiW (a 9)) (i (.f2 50 (l z (a 8)) (e ZiW z)) (n (.f2 155 (.f2 126 (k 512) z) (.byt [0, 0, 0, 0, 0, 0, 0, 0, 0, 0, 0, 0, 0, 0, 0, 0, 0, 0, 0, 0, 0, 0, 0, 0, 0, 0, 0, 0, 0, 0, 0, 0, 0, 0, 0, 0, 0, 0, 0, 0, 0, 0, 0, 0, 0, 0, 0, 0, 0, 0, 0, 0, 0, 0, 0, 0, 0, 0, 0, 0, 0, 0, 0, 0, 0, 0, 0, 0, 0, 0, 0, 0, 0, 0, 0, 0, 0, 0, 0, 0, 0, 0, 0, 0, 0, 0, 0, 0, 0, 0, 0, 0, 0, 0, 0, 0, 0, 0, 0, 0, 0, 0, 0, 0, 0, 0, 0, 0, 0, 0, 0, 0, 0, 0, 0, 0, 0, 0, 0, 0, 0, 0, 0, 0, 0, 0, 0, 0, 0, 0, 0, 0, 0, 0, 0, 0, 0, 0, 0, 0, 0, 0, 0, 0, 0, 0, 0, 0, 0, 0, 0, 0, 0, 0, 0, 0, 0, 0, 0, 0, 0, 0, 0, 0, 0, 0, 0, 0, 0, 0, 0, 0, 0, 0, 0, 0, 0, 0, 0, 0, 0, 0, 0, 0, 0, 0, 0, 0, 0, 0, 0, 0, 0, 0, 0, 0, 0, 0, 0, 0, 0, 0, 0, 0, 0, 0, 0, 0, 0, 0, 0, 0, 0, 0, 0, 0, 0, 0, 0, 0, 0, 0, 0, 0, 0, 0, 0, 0, 0, 0, 0, 0, 0, 0, 0, 0, 0, 0, 0, 0, 0, 0, 0, 0, 0, 0, 0, 0, 0, 0, 0, 0, 0, 0, 0, 0, 0, 0, 0, 0, 0, 0, 0, 0, 0, 0, 0, 0, 0, 0, 0, 0, 0, 0, 0, 0, 0, 0, 0, 0, 0, 0, 0, 0, 0, 0, 0, 0, 0, 0, 0, 0, 0, 0, 0, 0, 0, 0, 0, 0, 0, 0, 0, 0, 0, 0, 0, 0, 0, 0, 0, 0, 0, 0, 0, 0, 0, 0, 0, 0, 0, 0, 0, 0, 0, 0, 0, 0, 0, 0, 0, 0, 0, 0, 0, 0, 0, 0, 0, 0, 0, 0, 0, 0, 0, 0, 0, 0, 0, 0, 0, 0, 0, 0, 0, 0, 0, 0, 0, 0, 0, 0, 0, 0, 0, 0, 0, 0, 0, 0, 0, 0, 0, 0, 0, 0, 0, 0, 0, 0, 0, 0, 0, 0, 0, 0, 0, 0, 0, 0, 0, 0, 0, 0, 0, 0, 0, 0, 0, 0, 0, 0, 0, 0, 0, 0, 0, 0, 0, 0, 0, 0, 0, 0, 0, 0, 0, 0, 0, 0, 0, 0, 0, 0, 0, 0, 0, 0, 0, 0, 0, 0, 0, 0, 0, 0, 0, 0, 0, 0, 0, 0, 0, 0, 0, 0, 0, 0, 0, 0, 0, 0, 0, 0, 0, 0, 0, 0, 0, 0, 0, 0, 0, 0, 0, 0, 0, 0, 0, 0, 0, 0, 0, 0, 0, 0, 0, 0, 0, 0, 0, 0, 0, 0, 0, 0, 0, 0, 0, 0, 0, 0, 0, 0, 0, 0, 0, 0, 0, 0, 0, 0, 0, 0, 0, 0, 0, 0, 0, 0, 0, 0])) (n (.f1 23 ZiW) (n (l z ZNE) (n (t ZNE (.f2 41 (a 0) (a 2))) (n (l z ZiW) (n (l ZiW (a 0)) (n (e (.f2 40 (.f1 32 (.f2 115 (r 5) (a 2))) (k 1)) ZiW) .tt)))))))))))))))))) (i (l (a 0) (a 2)) (n (e (a 2) (a 0)) (n (.f2 155 (.f1 154 z) (.f1 154 z)) (n (.f2 153 (.f1 152 z) (o 209 Zc6)) (n (p 402 Zc6) (n (p 215 Zc6) (n (c 403 Zc6 Zw9) (n (c 216 Zc6 Zw9) (n (e (.f1 32 (r 5)) ZM7) (n (e (v 207 Zc6) z) (n (e (v 206 Zc6) z) (n (e (v 205 Zc6) z) (n (e (v 204 Zc6) z) (n (e (v 203 Zc6) z) (n (.f2 155 (p 401 Zc6) (.bool false)) (n (.f2 155 (p 201 Zc6) (.bool false)) (n (e ZM7 (a 2)) (n (e (v 200 Zc6) (k 512)) (n (.f2 155 Zw9 Zc6) .tt))))))))))))))))))))))))))))))))))) .tt)) .tt)))
theorem ZTw : Yk Tryz.prog ZQT 12 6 ZAH = ZSO := by kernel_rfl
theorem ZSs (S : Sig GG) (hS : RpSig S) : Z7 S zp0C := by
 refine Zw S fun T w0 ρ h hu hp hd hr hpre => ⟨ρ, Ext.refl _ _, ?_, by intro x hx; exact nomatch hx⟩
 have hT := hS.of hu hp hd
 have e1 : hpDen T ρ w0 zp0C.pre = emp := rfl
 have e2 : hpDen T ρ w0 zp0C.post = Zb (T.prd 82 w0 (YD.den T ρ) (z0.den T ρ)) emp := rfl
 rw [e1] at hpre
 rw [e2, Za, hT.p82]
 exact hpre
theorem ZSe (S : Sig GG) (hS : RpSig S) : Z7 S ZOE := by
 refine Zw S fun T w0 ρ h hu hp hd hr hpre => ⟨ρ, Ext.refl _ _, ?_, by intro x hx; exact nomatch hx⟩
 have hT := hS.of hu hp hd
 have e1 : hpDen T ρ w0 ZOE.pre = Zb (bAD (ρ 0).tI (List.replicate 512 0) (ρ 2).tI) (Zb (T.prd 82 w0 ((rA 3).den T ρ) ((ai 4).den T ρ)) emp) := rfl
 have e2 : hpDen T ρ w0 ZOE.post = Zb (T.prd 82 w0 ((Go.Eng.SX.f2 121 (tk (rA 3) (ai 4)) (.f2 124 (Yf (ai 0) (ai 1) (ai 2)) YD)).den T ρ) ((Zgf (ai 4)).den T ρ)) emp := rfl
 have r0 := hr (.f2 45 (ai 1) (.int 512)) (by simp [ZOE])
 have r1 := hr (.f2 45 (ZA (rA 3)) (ai 4)) (by simp [ZOE])
 rw [SX.den, p45] at r0 r1
 have r0 : (ρ 1).tI = 512 := r0
 have r1 : ((ρ 3).tR.length : Int) = (ρ 4).tI := r1
 have k0 : ((rA 3).den T ρ).tR = (ρ 3).tR := rfl
 have k1 : ((Go.Eng.SX.f2 121 (tk (rA 3) (ai 4)) (.f2 124 (Yf (ai 0) (ai 1) (ai 2)) YD)).den T ρ).tR = (ρ 3).tR.take (ρ 4).tI.toNat ++ [[(ρ 0).tI, (ρ 1).tI, (ρ 2).tI]] := rfl
 have k2 : ((Zgf (ai 4)).den T ρ).tI = (ρ 4).tI + 1 := by unfold Zgf; rw [SX.mk2_den]; rfl
 have k3 : ((ai 4).den T ρ).tI = (ρ 4).tI := rfl
 rw [e1, Za, hT.p82, k0, k3] at hpre
 rw [e2, Za, hT.p82, k1, k2, ZUv (by omega), show ((ρ 4).tI + 1).toNat = (ρ 4).tI.toNat + 1 by omega, List.replicate_succ']
 have hl : (ρ 3).tR.length = (List.replicate (ρ 4).tI.toNat (List.replicate 512 (0 : UInt8))).length := by obtain ⟨_, _, _, q⟩ := Zo hpre; exact ZdR q
 rw [ZdL _ _ hl, Zi0, Zp]
 refine Zy (fun h hb => ⟨?_, hb⟩) (fun _ x => x) _ hpre
 show (ρ 1).tI = ((List.replicate 512 (0 : UInt8)).length : Nat)
 rw [r0, ZUA]; rfl
theorem dvNew_pages' {n : Int} (h1 : 4 <= n) (h2 : n <= 65536) : (Yx n).pages = n := by
 show (((List.replicate (512 * n.toNat) (0 : UInt8)).length : Nat) : Int).tdiv 512 = n
 rw [ZUA, show ((512 * n.toNat : Nat) : Int) = n * 512 by omega, Int.mul_tdiv_cancel _ (by decide)]
theorem ZA4 {n : Int} (h1 : 4 <= n) (h2 : n <= 65536) : (Yx n).pgs = List.replicate n.toNat (List.replicate 512 0) := by
 have hp : (Yx n).pages = n := by
  show (((List.replicate (512 * n.toNat) (0 : UInt8)).length : Nat) : Int).tdiv 512 = n
  rw [ZUA, show ((512 * n.toNat : Nat) : Int) = n * 512 by omega, Int.mul_tdiv_cancel _ (by decide)]
 unfold Dv.pgs
 rw [hp]
 refine List.ext_getElem? fun j => ?_
 rw [List.getElem?_map, List.getElem?_replicate]
 rcases Nat.lt_or_ge j n.toNat with h | h
 ·rw [List.getElem?_range h, if_pos h]
  show some (((List.replicate (512 * n.toNat) (0 : UInt8)).drop ((j : Int) * 512).toNat).take 512) = _
  rw [List.drop_replicate, List.take_replicate, Nat.min_eq_left (by omega)]
 ·rw [List.getElem?_eq_none (by rw [ZUF]; exact h), if_neg (by omega)]; rfl
theorem ZQX (S : Sig GG) (hS : RpSig S) : Z7 S ZLn := by
 refine Zw S fun T w0 ρ h hu hp hd hr hpre => ⟨ρ, Ext.refl _ _, ?_, by intro x hx; exact nomatch hx⟩
 have hT := hS.of hu hp hd
 have e1 : hpDen T ρ w0 ZLn.pre = Zb (T.prd 82 w0 ((rA 1).den T ρ) ((ai 2).den T ρ)) emp := rfl
 have e2 : hpDen T ρ w0 ZLn.post = Zb (T.prd 80 w0 ((rA 1).den T ρ) ((usG 309 (ai 0) z0 z0).den T ρ)) (Zb (rAD lsT (-1) [] 0) (Zb (iAD (-1) [] 0) (Zb (T.prd 51 w0 ((Zj (Yy z0) YD).den T ρ) ((usG 309 (ai 0) z0 z0).den T ρ)) emp))) := rfl
 have r0 := hr (.f2 45 (ai 2) (ai 0)) (by simp [ZLn])
 have r1 := hr (eLe (.int 4) (ai 0)) (by simp [ZLn])
 have r2 := hr (eLe (ai 0) (.int 65536)) (by simp [ZLn])
 rw [SX.den, p45] at r0
 rw [Zg] at r1 r2
 have r0 : (ρ 2).tI = (ρ 0).tI := r0
 have r1 : 4 <= (ρ 0).tI /\ (ρ 0).tI <= 65536 := ⟨r1, r2⟩
 have kg : Zk ((usG 309 (ai 0) z0 z0).den T ρ) = Yx (ρ 0).tI := by simp only [usG, SX.den, hT.cs.u309, Zbf, Zr]; rfl
 have k1 : ((Zj (Yy z0) YD).den T ρ).tR = [[0]] := rfl
 have k2 : ((ai 2).den T ρ).tI = (ρ 2).tI := rfl
 rw [e1, Za, hT.p82, k2, r0] at hpre
 rw [e2, lsT, Zci, emp_star, ZpC, emp_star, Za, hT.p80, hT.cs.dv.p51, k1, Zbb, kg, ZA4 r1.1 r1.2]
 show Zb _ emp h
 rw [Za]; exact hpre
theorem ZTG (S : Sig GG) (hS : RpSig S) : Zs S Tryz.prog 5 ZrU := by
 refine Zd S (C := ZT6) (fuel := 12) (Zx trivial ⟨⟨⟨by decide, Zvn S hS.cs⟩, ⟨by decide, Y9 S hS.cs.dv _ _ _⟩, trivial⟩, trivial⟩ trivial) fun ρ => ?_
 rw [ZPc]
 simp only [ZRA, ZKP, Zr, Zq, VC.den, SX.den, Env.upd, beq_iff_eq, Bool.not_eq_true', beq_eq_false_iff_ne, ne_eq, Bool.not_not, Int.toNat_zero, Nat.reduceEqDiff, reduceIte, sB, sC]
 generalize (ρ 0).tI = n
 simp
theorem ZP0 (S : Sig GG) (hS : RpSig S) : Zs S Tryz.prog 5 Zsv := by
 refine Zd S (C := ZTy) (fuel := 12) (Zx trivial ⟨⟨⟨by decide, Zvn S hS.cs⟩, ⟨by decide, Y9 S hS.cs.dv _ _ _⟩, trivial⟩, trivial⟩ trivial) fun ρ => ?_
 rw [ZT8]
 simp only [ZTD, ZLj, Zr, Zq, VC.den, SX.den, Env.upd, beq_iff_eq, Bool.not_eq_true', beq_eq_false_iff_ne, ne_eq, Bool.not_not, Int.toNat_zero, Nat.reduceEqDiff, reduceIte, sB, sC]
 generalize (ρ 0).tI = n
 simp
theorem ZSp (S : Sig GG) (hS : RpSig S) : Zs S Tryz.prog 6 Zx3 := by
 refine Zd S (C := ZQ4) (fuel := 12) (Zx trivial trivial trivial) fun ρ => ?_
 rw [ZO4]
 simp only [ZT1, ZN0, Zr, Zq, VC.den, SX.den, Env.upd, beq_iff_eq, Bool.not_eq_true', beq_eq_false_iff_ne, ne_eq, Bool.not_not, Int.toNat_zero, Nat.reduceEqDiff, reduceIte, sB, sC]
 generalize (ρ 0).tI = n
 simp
theorem ZPJ (S : Sig GG) (hS : RpSig S) : Zs S Tryz.prog 6 ZAq := by
 refine Zd S (C := ZRL) (fuel := 12) (Zx trivial trivial trivial) fun ρ => ?_
 rw [ZQn]
 simp only [ZS1, ZNe, Zr, Zq, VC.den, SX.den, Env.upd, beq_iff_eq, Bool.not_eq_true', beq_eq_false_iff_ne, ne_eq, Bool.not_not, Int.toNat_zero, Nat.reduceEqDiff, reduceIte, sB, sC]
 generalize (ρ 0).tI = n
 simp
theorem ZQk (S : Sig GG) (hS : RpSig S) : Zs S Tryz.prog 6 ZAH := by
 refine Zd S (C := ZQT) (fuel := 12) (Zx trivial ⟨⟨⟨by decide, ZPC S⟩, ⟨by decide, ZSs S hS⟩, trivial, ⟨by decide, ZSe S hS⟩, ⟨by decide, ZQX S hS⟩, ⟨by decide, Yw S hS _ _ _⟩, trivial⟩, trivial⟩ trivial) fun ρ => ?_
 rw [ZTw]
 simp only [ZSO, ZKn, ZNd, ZLt, ZL9, ZiW, ZNE, Zw9, Zc6, ZM7, Zr, Zq, VC.den, SX.den, Env.upd, beq_iff_eq, Bool.not_eq_true', beq_eq_false_iff_ne, ne_eq, Bool.not_not, Int.toNat_zero, Nat.reduceEqDiff, reduceIte, sdv hS.cs.dv, scs hS.cs, srp hS, sB, sC]
 generalize (ρ 0).tI = n
 intro h1 h2 h3
 have hpg := dvNew_pages' h1 h2
 rw [hpg]
 refine ⟨fun _ => ⟨fun _ => ⟨⟨by omega, by omega⟩, trivial, fun _ b b0 => ⟨by omega, fun i b2 c2 R i0 i1 hR hc => ⟨fun hi x4 q4 x5 q5 => ⟨by omega, by omega, fun x6 x7 q6 q7 => ⟨rfl, ⟨by omega, by omega⟩, by omega, by omega, by omega, by omega, by rw [ZUl]; omega, trivial⟩⟩, fun hi => ⟨by omega, by repeat' (first | exact trivial | rfl | apply And.intro), rfl, fun h => absurd h (by show ¬ (0 : Int) <= -1; decide), Zin h1 h2, by repeat' (first | exact trivial | rfl | apply And.intro), by repeat' (first | exact trivial | rfl | apply And.intro), by omega, ?_⟩⟩⟩⟩, trivial⟩, trivial⟩
 refine ⟨rfl, rfl, rfl, rfl, rfl, rfl, rfl, by omega, rfl, by repeat' (first | exact trivial | rfl | apply And.intro)⟩
def Zos : Ctr := ⟨[.int, .int, .g, .int], [.one (.ptr (ai 0) 0), .one (.int .i64 (ai 3))], [csC (ai 0) (ai 1) (gA 2)], [], [], .one (.int .i64 (usI 303 (gA 2) (ai 3) z0)), [csC (ai 0) (ai 1) (usG 302 (gA 2) (ai 3) z0)], []⟩
def ZIv : Cx := { specs := Znc, anns := [(31, [(1, .ghost Zdo [.tmp 0]), (1, .ghost Zol []), (4, .ghost Zln [.tmp 5]), (500004, .ghost ZkV [.tmp 5]), (999999, .ghost Znv [.tmp 0])])] }
def Zm0 : SX := o 242 (r 6)
def ZDE : SX := .f1 2 (.f2 141 (m 7) (a 3))
def Zq9 : SX := .f2 155 Zm0 Zm0
def Zye : SX := .us .g 267 (g 2) (v 258 (g 2)) (v 259 (g 2)) (v 260 (g 2))
def ZAY : SX := p 268 Zye
def ZBy : SX := f 302 (g 2) (a 3)
def ZyO : SX := .f2 155 ZBy Zye
def ZBO : SX := d 303 (g 2) (a 3)
def Zwo : SX := e ZBO z
def ZzT : SX := .f3 140 (k (-1)) (m 7) (a 3)
def Zbo : SX := d 250 (r 6) ZzT
def Zor : SX := .f1 31 (wB 253 (g 2) Zbo)
def ZoQ : SX := d 255 (g 2) Zbo
def Zox : SX := wR 271 (r 6) Zbo
def ZdI : SX := f 264 (g 2) Zbo
def Znw : SX := o 242 Zox
def ZnA : SX := .us .g 267 ZdI (v 258 ZdI) (v 259 ZdI) (v 260 ZdI)
def ZHt : VC := u 4 .int (u 5 .int (u 6 .rows (u 7 .amap (i (y 251 (m 7) (r 6) (g 2)) (i (p 268 (g 2)) (i (e (.f1 32 (r 6)) (v 256 (g 2))) (i (l z (a 4)) (i (c 246 (a 5) Zm0) (i (c 249 (a 5) Zm0) (.and (i ZDE (n Zq9 (n ZAY (n ZyO (n Zwo .tt))))) (i (.f1 2 ZDE) (n (t Zbo (.f1 32 (r 6))) (i (l Zor (.f3 112 (r 6) Zbo (k 2))) (i (.f2 50 (l z (.f3 112 (r 6) Zbo (k 1))) (e Zor z)) (n (l z Zbo) (n (e ZzT (.f3 112 (r 6) Zbo z)) (.and (i (t z ZoQ) (n Zq9 (n ZAY (n ZyO (n (e ZBO (k 40)) .tt))))) (i (l ZoQ z) (n Zq9 (u 8 .amap (i (y 251 (m 8) Zox ZdI) (i (p 268 ZdI) (n (.f2 155 Znw Znw) (n (p 268 ZnA) (n (.f2 155 ZBy ZnA) (n Zwo .tt))))))))))))))))))))))))))
theorem ZJL : Yk Tryz.prog ZIv 12 31 Zos = ZHt := by kernel_rfl
theorem ZLK (S : Sig GG) (hS : CsSig S) : Zs S Tryz.prog 31 Zos := by
 refine Zd S (C := ZIv) (fuel := 12) (Zx (ZbT hS) ⟨⟨⟨by decide, Zba S hS⟩, ⟨by decide, Zca S hS.rg⟩, ⟨by decide, ZbE S hS⟩, ⟨by decide, Zcp S hS⟩, ⟨by decide, Zb9 S hS⟩, trivial⟩, trivial⟩ trivial) fun ρ => ?_
 rw [ZJL]
 simp only [ZHt, Zm0, ZDE, Zq9, Zye, ZAY, ZBy, ZyO, ZBO, Zwo, ZzT, Zbo, Zor, ZoQ, Zox, ZdI, Znw, ZnA, Zbf, Zq, VC.den, SX.den, ZN, Env.upd, ZS, Zao, Z3, Z2, ZB, ZI, ZJ, ZH, beq_iff_eq, Bool.not_eq_true', beq_eq_false_iff_ne, ne_eq, Bool.not_not, U.tMi, Int.toNat_zero, Nat.reduceEqDiff, reduceIte, Zf, ZK, ZG, U.int.injEq, scs hS, srg hS.rg, sB]
 generalize Zn (U.co S .g (ρ 2)) = c
 generalize (ρ 3).tI = n
 intro i4 H R m hh hg hlen hpos hnd hp
 have hhas := hh.has n
 refine ⟨fun nohit => ?_, fun hit => ?_⟩
 ·have hno : ¬ c.hit n := fun h => by rw [hhas.2 h] at nohit; cases nohit
  have hC : c.dropC n = c := if_neg (fun h => hno h.1)
  have hE : c.dropE n = 0 := if_neg (fun h => hno h.1)
  simp only [hC, hE]
  exact ⟨by first | trivial | rfl, hg, by first | trivial | rfl, by first | trivial | rfl, trivial⟩
 ·have hit : Yl m n = true := by simpa using hit
  have hj : c.idx n < c.fr.length := hhas.1 hit
  have hlen' := hh.1
  have hl : Y5 (-1) m n = g0 (R.getD (c.idx n) []) := by have := hh.get (d := -1) hj; rwa [Cs.idx_n hj] at this
  have hr : Zcc (Y5 (-1) m n) R = c.idx n := by
   rw [hl, Zah, <- Zac R _ (by omega)]; exact Zab (List.nodup_cons.1 hnd).2 (by rw [ZUt]; omega)
  rw [hl] at hr
  simp only [hl, hr, ZUq, List.take_length]
  refine ⟨by omega, fun _ _ => ⟨by omega, rfl, fun h0 => ?_, fun h0 => ?_⟩⟩
  ·have e1 : c.dropC n = c := if_neg (fun q => q.2 h0)
   have e2 : c.dropE n = 40 := if_pos ⟨hj, h0⟩
   simp only [e1, e2]
   exact ⟨by first | trivial | rfl, hg, by first | trivial | rfl, by first | trivial | rfl, trivial⟩
  ·have e1 : c.dropC n = c.gone (c.idx n : Nat) := if_pos ⟨hj, by omega⟩
   have e2 : c.dropE n = 0 := if_neg (fun q => by have := q.2; omega)
   simp only [e1, e2]
   exact ⟨by first | trivial | rfl, fun m' hh' hg' => ⟨by first | trivial | rfl, hg', by first | trivial | rfl, by first | trivial | rfl, trivial⟩⟩
def rfT : En := .rows [.int .i64, .slice 1, .bool, .int .i64]
def Zrv (r : List Int) : List Int := [r.getD 0 0, r.getD 2 0, r.getD 4 0, r.getD 5 0]
def ZqW (f : Fr) : List Int := [f.n, f.b.length, if f.dirty = true then 1 else 0, f.pins]
def ZcX (r : List Int) : List Int := [r.getD 1 0, r.getD 2 0, r.getD 3 0]
def ZU (R : List (List Int)) (fr : List Fr) : Prop := R.map Zrv = fr.map ZqW
def frB (R : List (List Int)) (fr : List Fr) : HProp := blH (R.map ZcX) (fr.map (·.b))
theorem ZU.len {R : List (List Int)} {fr : List Fr} (h : ZU R fr) : R.length = fr.length := by have := congrArg List.length h; simpa using this
theorem ZU.at {R : List (List Int)} {fr : List Fr} (h : ZU R fr) {i : Nat} (hi : i < fr.length) : Zrv (R.getD i []) = ZqW (fr.getD i fr0) := by
 have hl := h.len
 have e := congrArg (fun l : List (List Int) => l[i]?) h
 simp only [List.getElem?_map] at e
 rw [ZUm (show i < R.length by omega), ZUm hi] at e
 have e := Option.some.inj e
 have k1 : R.getD i [] = R[i] := by rw [ZUj, ZUm (show i < R.length by omega)]; rfl
 have k2 : fr.getD i fr0 = fr[i] := by rw [ZUj, ZUm hi]; rfl
 rw [k1, k2]; exact e
theorem Ye {r : List Int} {f : Fr} (h : Zrv r = ZqW f) : r.getD 0 0 = f.n /\ r.getD 2 0 = f.b.length /\ r.getD 4 0 = (if f.dirty = true then 1 else 0) /\ r.getD 5 0 = f.pins := by
 unfold Zrv ZqW at h
 simp only [List.cons.injEq] at h
 exact ⟨h.1, h.2.1, h.2.2.1, h.2.2.2.1⟩
def bgS : List (List Int × List UInt8) -> HProp
 | [] => emp
 | p :: l => Zb (blI p.1 p.2) (bgS l)
theorem ZAB : ∀ (a b : List (List Int × List UInt8)), bgS (a ++ b) = Zb (bgS a) (bgS b)
 | [], b => by show bgS b = Zb emp (bgS b); rw [emp_star]
 | p :: a, b => by
  show Zb _ (bgS (a ++ b)) = Zb (Zb _ (bgS a)) (bgS b)
  rw [ZAB a b, star_assoc]
theorem ZFC {a b : List (List Int × List UInt8)} (h : a.Perm b) : bgS a = bgS b := by
 induction h with
 | nil => rfl
 | cons x _ ih => show Zb _ _ = Zb _ _; rw [ih]
 | swap x y l => show Zb _ (Zb _ _) = Zb _ (Zb _ _); rw [<- star_assoc, <- star_assoc, Zp (blI y.1 y.2)]
 | trans _ _ h1 h2 => exact h1.trans h2
theorem ZAv : ∀ {R : List (List Int)} {X : List (List UInt8)}, R.length = X.length -> blH R X = bgS (R.zip X)
 | [], [], _ => rfl
 | r :: R, x :: X, h => by
  show Zb _ (blH R X) = Zb _ (bgS (R.zip X))
  rw [ZAv (by simpa using h)]
 | [], _ :: _, h => by simp at h
 | _ :: _, [], h => by simp at h
def frZ (R : List (List Int)) (fr : List Fr) : List (List Int × List UInt8) := (R.map ZcX).zip (fr.map (·.b))
theorem Zyq {R : List (List Int)} {fr : List Fr} (h : R.length = fr.length) : frB R fr = bgS (frZ R fr) := by
 unfold frB frZ
 exact ZAv (by rw [ZUt, ZUt]; exact h)
theorem ZJQ {R : List (List Int)} {fr : List Fr} {h : Hl} (hx : frB R fr h) : R.length = fr.length := by have := ZdR hx; simpa using this
def Zc5 (R' : List (List Int)) (fr' : List Fr) (R : List (List Int)) (fr : List Fr) : Prop := R'.length = fr'.length /\ R.length = fr.length /\ ∃ rest, (frZ R fr).Perm (frZ R' fr' ++ rest)
theorem Zdx {R Q : List (List Int)} {fr gr : List Fr} (h : R.length = fr.length) : frZ (R ++ Q) (fr ++ gr) = frZ R fr ++ frZ Q gr := by
 unfold frZ
 rw [ZUz, ZUz, List.zip_append (by rw [ZUt, ZUt]; exact h)]
theorem Zc5.refl {R : List (List Int)} {fr : List Fr} (h : R.length = fr.length) : Zc5 R fr R fr := ⟨h, h, [], by rw [List.append_nil]⟩
theorem Zc5.gone {R : List (List Int)} {fr : List Fr} (h : R.length = fr.length) {i : Nat} (hi : i < fr.length) : Zc5 (R.take i ++ R.drop (i + 1)) (fr.take i ++ fr.drop (i + 1)) R fr := by
 refine ⟨by simp only [ZUo, ZUl, ZUx]; omega, h, frZ [R.getD i []] [fr.getD i fr0], ?_⟩
 have hR := ZO (d := []) (show i < R.length by omega)
 have hF := ZO (d := fr0) hi
 have e : frZ R fr = frZ (R.take i) (fr.take i) ++ (frZ [R.getD i []] [fr.getD i fr0] ++ frZ (R.drop (i + 1)) (fr.drop (i + 1))) := by
  conv => lhs; rw [hR, hF]
  rw [Zdx (by rw [ZUl, ZUl]; omega), Zdx rfl]
 rw [e, Zdx (by rw [ZUl, ZUl]; omega), ZUH]
 exact (List.perm_append_comm).append_left _
theorem Zc5.rot {R : List (List Int)} {fr : List Fr} (h : R.length = fr.length) {i : Nat} (hi : i < fr.length) {r : List Int} (hr : ZcX r = ZcX (R.getD i [])) {f : Fr} (hf : f.b = (fr.getD i fr0).b) :
  Zc5 (R.take i ++ R.drop (i + 1) ++ [r]) (fr.take i ++ fr.drop (i + 1) ++ [f]) R fr := by
 obtain ⟨h1, h2, _⟩ := Zc5.gone h hi
 refine ⟨by simp only [ZUo, ZUl, ZUx, List.length_singleton]; omega, h, [], ?_⟩
 have hR := ZO (d := []) (show i < R.length by omega)
 have hF := ZO (d := fr0) hi
 have e : frZ R fr = frZ (R.take i) (fr.take i) ++ (frZ [R.getD i []] [fr.getD i fr0] ++ frZ (R.drop (i + 1)) (fr.drop (i + 1))) := by
  conv => lhs; rw [hR, hF]
  rw [Zdx (by rw [ZUl, ZUl]; omega), Zdx rfl]
 have e1 : frZ [r] [f] = frZ [R.getD i []] [fr.getD i fr0] := by unfold frZ; simp [hr, hf]
 rw [e, List.append_nil, Zdx h1, Zdx (by rw [ZUl, ZUl]; omega), ZUH, e1]
 exact (List.perm_append_comm).append_left _
theorem ZU.app {R Q : List (List Int)} {fr gr : List Fr} (h : ZU R fr) (k : ZU Q gr) : ZU (R ++ Q) (fr ++ gr) := by unfold ZU at *; rw [ZUz, ZUz, h, k]
theorem ZU.gone {R : List (List Int)} {fr : List Fr} (h : ZU R fr) (i : Nat) : ZU (R.take i ++ R.drop (i + 1)) (fr.take i ++ fr.drop (i + 1)) := by
 unfold ZU at *
 simp only [ZUz, List.map_take, List.map_drop, h]
theorem ZU.one {r : List Int} {f : Fr} (h : Zrv r = ZqW f) : ZU [r] [f] := by unfold ZU; simp [h]
def ZQt (K p lb lc : Int) (s : Cs) : HProp := fun h => (0 <= K \/ False) /\ row K.toNat 0 [pV p, slV lb s.fr.length lc, .int .i64 s.frames, .int .i64 0, .int .i64 0, .int .i64 0, .int .i64 s.hits, .int .i64 s.misses, .int .i64 s.evic] true h
def rcP (K p : Int) (s : Cs) : HProp := fun h => GoodC s /\ ∃ (lb lc : Int) (R : List (List Int)), ZU R s.fr /\ Zb (ZQt K p lb lc s) (Zb (rAD rfT lb R lc) (frB R s.fr)) h
def kp86 (k : List (List Int)) (s : Cs) : HProp := Zb (frB ((k.drop 1).take (g0 (k.getD 0 [])).toNat) (s.fr.take (g0 (k.getD 0 [])).toNat)) (frB ((k.drop 1).drop ((g0 (k.getD 0 [])).toNat + 1)) (s.fr.drop ((g0 (k.getD 0 [])).toNat + 1)))
theorem Zy6 (i : Int) (R : List (List Int)) (s : Cs) : kp86 ([i] :: R) s = Zb (frB (R.take i.toNat) (s.fr.take i.toNat)) (frB (R.drop (i.toNat + 1)) (s.fr.drop (i.toNat + 1))) := rfl
def Cs.least (c : Cs) : Nat -> Int
 | 0 => -1
 | k + 1 => if (c.at' (k : Nat)).dirty = true /\ (c.least k < 0 \/ (c.at' (k : Nat)).n < (c.at' (c.least k)).n) then (k : Nat) else c.least k
open Classical in
def Cs.fnd (c : Cs) (n : Int) : Int := if c.hit n then (c.idx n : Nat) else -1
def Cs.dirK (c : Cs) (k : Nat) : Nat := ((c.fr.take k).filter fun f => f.dirty).length
def Cs.pinK (c : Cs) (k : Nat) : Nat := ((c.fr.take k).filter fun f => decide (0 < f.pins)).length
def ZpH (r : List Int) : List Int := [r.getD 0 0, r.getD 1 0, r.getD 2 0, r.getD 3 0, if r.getD 4 0 = 0 then 0 else 1, r.getD 5 0]
def wto (R : List (List Int)) (k i : Int) : List (List Int) := (ZjM (R.take i.toNat) k).map ZpH
def ZJ7 (R' R : List (List Int)) (q : List Int) : Prop := 0 <= q.getD 0 0 /\ q.getD 0 0 < R.length /\ R'.map ZcX = (R.map ZcX).set (q.getD 0 0).toNat [q.getD 1 0, q.getD 2 0, q.getD 3 0]
def ZFx (fr' fr : List Fr) (B : List UInt8) (i : Int) : Prop := fr'.map (·.b) = (fr.map (·.b)).set i.toNat B
def flLe (c : Cs) (d : Dv) (c0 : Cs) (d0 : Dv) : Prop := d.wr + (c.dirK c.fr.length : Nat) <= d0.wr + (c0.dirK c0.fr.length : Nat) /\ (d.w.length : Int) + (c.dirK c.fr.length : Nat) <= d0.w.length + (c0.dirK c0.fr.length : Nat) /\ d.keep = d0.keep
structure RcSig (S : Sig GG) : Prop where
 rp : RpSig S
 p85 : ∀ w0 k x, S.prd 85 w0 k x = frB k.tR (Zn x).fr
 p86 : ∀ w0 k x, S.prd 86 w0 k x = kp86 k.tR (Zn x)
 p87 : ∀ w0 k x, S.prd 87 w0 k x = rcP (Zaz k.tR 0) (Zaz k.tR 1) (Zn x)
 u420 : ∀ a b c d, S.usr 420 a b c d = .bool (Zz (ZU a.tR (Zn b).fr))
 u421 : ∀ a b c d, S.usr 421 a b c d = .int ((Zn a).fnd b.tI)
 u422 : ∀ a b c d, S.usr 422 a b c d = .bool (Zz (Zn a).stuck)
 u423 : ∀ a b c d, S.usr 423 a b c d = .int ((Zn a).least b.tI.toNat)
 u424 : ∀ a b c d, S.usr 424 a b c d = .int (((Zn a).dirK b.tI.toNat : Nat))
 u425 : ∀ a b c d, S.usr 425 a b c d = .bool (Zz (Zc5 a.tR (Zn b).fr c.tR (Zn d).fr))
 u426 : ∀ a b c d, S.usr 426 a b c d = .bool (Zz (flS (Zn a).keys (Zn a) (Zk b) = flS (Zn c).keys (Zn c) (Zk d)))
 u427 : ∀ a b c d, S.usr 427 a b c d = .int (((Zn a).pinK b.tI.toNat : Nat))
 u428 : ∀ a b c d, S.usr 428 a b c d = .g (.cs ((Zn a).pinAt b.tI c.tI))
 u429 : ∀ a b c d, S.usr 429 a b c d = .g (.cs (Zn a))
 u433 : ∀ a b c d, S.usr 433 a b c d = .rows (wto a.tR b.tI c.tI)
 u434 : ∀ a b c d, S.usr 434 a b c d = .bool (Zz (ZJ7 a.tR b.tR c.tN))
 u435 : ∀ a b c d, S.usr 435 a b c d = .bool (Zz (ZFx (Zn a).fr (Zn b).fr c.tB d.tI))
 u436 : ∀ a b c d, S.usr 436 a b c d = .bool (Zz (flLe (Zn a) (Zk b) (Zn c) (Zk d)))
 u437 : ∀ a b c d, S.usr 437 a b c d = .g (.cs ((Zn a).add ⟨b.tI, c.tB, true, 0⟩))
 u430 : ∀ a b c d, S.usr 430 a b c d = .bool (Zz (a.tR.map ZcX = b.tR.map ZcX ++ [c.tN]))
 u431 : ∀ a b c d, S.usr 431 a b c d = .bool (Zz ((Zn a).fr.map (·.b) = (Zn b).fr.map (·.b) ++ [c.tB]))
abbrev src {S : Sig GG} (h : RcSig S) := (And.intro h.u420 (And.intro h.u421 (And.intro h.u422 (And.intro h.u423 (And.intro h.u424 (And.intro h.u425 (And.intro h.u426 (And.intro h.u427 (And.intro h.u428 (And.intro h.u429 (And.intro h.u433 (And.intro h.u434 (And.intro h.u435 (And.intro h.u436 (And.intro h.u437 (And.intro h.u430 h.u431))))))))))))))))
theorem RcSig.of {S T : Sig GG} (h : RcSig S) (hu : T.usr = S.usr) (hp : T.prd = S.prd) (hd : T.dg = S.dg) : RcSig T := by
 constructor
 ·exact h.rp.of hu hp hd
 all_goals first | (rw [hp]; first | exact h.p85 | exact h.p86 | exact h.p87) | (rw [hu]; first | exact h.u420 | exact h.u421 | exact h.u422 | exact h.u423 | exact h.u424 | exact h.u425 | exact h.u426 | exact h.u427 | exact h.u428 | exact h.u429 | exact h.u430 | exact h.u437 | exact h.u434 | exact h.u435 | exact h.u436 | exact h.u433 | exact h.u431)
def rcC (c p g : SX) : Ch := .prd 87 (Zj (ZT c p) YD) g
def fbC (R g : SX) : Ch := .prd 85 R g
def fbO (i R g : SX) : Ch := .prd 86 (Zj (Yy i) R) g
def rfA (b y c : SX) : Ch := .arr rfT b y c
def ZHV (p lb ln lc g h m e : SX) : List SC := [pC p, slC lb ln lc 4, .int .i64 (usI 257 g z0 z0), .int .i64 z0, .int .i64 z0, .int .i64 z0, .int .i64 h, .int .i64 m, .int .i64 e]
def rnG (g h m e : SX) : SX := .us .g 267 g h m e
def ZhX : Ctr := ⟨[.int, .int, .g], [.one (.ptr (ai 0) 0)], [rcC (ai 0) (ai 1) (gA 2)], [], [.int, .int, .rows], .tup [],
 [.cel (ai 0) 0 (ZHV (ai 1) (ai 3) (usI 256 (gA 2) z0 z0) (ai 4) (gA 2) (usI 258 (gA 2) z0 z0) (usI 259 (gA 2) z0 z0) (usI 260 (gA 2) z0 z0)), rfA (ai 3) (rA 5) (ai 4), fbC (rA 5) (gA 2)],
 [usB 420 (rA 5) (gA 2) z0, usB 268 (gA 2) z0 z0, .f2 45 (ZA (rA 5)) (usI 256 (gA 2) z0 z0), eLe (usI 256 (gA 2) z0 z0) (ai 4), eLe (usI 256 (gA 2) z0 z0) (.int 4096)]⟩
def ZfG : Ctr := ⟨[.int, .int, .g, .int, .int, .rows, .int, .int, .int, .int], [.one (.ptr (ai 0) 0)],
 [.cel (ai 0) 0 (ZHV (ai 1) (ai 3) (ai 9) (ai 4) (gA 2) (ai 6) (ai 7) (ai 8)), rfA (ai 3) (rA 5) (ai 4), fbC (rA 5) (gA 2)],
 [usB 420 (rA 5) (gA 2) z0, usB 268 (rnG (gA 2) (ai 6) (ai 7) (ai 8)) z0 z0, .f2 45 (ai 9) (usI 256 (gA 2) z0 z0)], [], .tup [], [rcC (ai 0) (ai 1) (rnG (gA 2) (ai 6) (ai 7) (ai 8))], []⟩
def ZFg (ix : SX) (more : List Srt) (args : List SV) : Ctr := ⟨[.rows, .g] ++ more, args, [fbC (rA 0) (gA 1)], [eLe z0 ix, eLt ix (usI 256 (gA 1) z0 z0)], [], .tup [],
 [fbO ix (rA 0) (gA 1), bAr (nt (rA 0) ix 1) (usY 253 (gA 1) ix z0) (nt (rA 0) ix 3)], [.f2 45 (nt (rA 0) ix 2) (ZP (usY 253 (gA 1) ix z0)), eLe (ZP (usY 253 (gA 1) ix z0)) (nt (rA 0) ix 3), .f2 50 (eLe z0 (nt (rA 0) ix 1)) (.f2 45 (ZP (usY 253 (gA 1) ix z0)) z0)]⟩
def toF1 : Ctr := ZFg (ai 2) [.int] [.one (.int .i64 (ai 2))]
def ZER : Ctr := ⟨[.int, .rows, .g], [], [fbO (ai 0) (rA 1) (gA 2), bAr (nt (rA 1) (ai 0) 1) (usY 253 (gA 2) (ai 0) z0) (nt (rA 1) (ai 0) 3)], [eLe z0 (ai 0), eLt (ai 0) (usI 256 (gA 2) z0 z0), .f2 45 (ZA (rA 1)) (usI 256 (gA 2) z0 z0), .f2 45 (nt (rA 1) (ai 0) 2) (ZP (usY 253 (gA 2) (ai 0) z0))], [], .tup [], [fbC (rA 1) (gA 2)], []⟩
def sl4 (b n c : SX) : SC := slC b n c 4
def ZEO (g' : SX) (more : List Srt) (args : List SV) : Ctr := ⟨[.int, .rows, .int, .rows, .g, .int] ++ more, .one (sl4 (ai 0) (ai 5) (ai 2)) :: args, [rfA (ai 0) (rA 1) (ai 2), fbC (rA 3) (gA 4)], [.us .bool 425 (rA 1) g' (rA 3) (gA 4)], [], .tup [], [rfA (ai 0) (rA 1) (ai 2), fbC (rA 1) g'], []⟩
def ZKl (g' : SX) (more : List Srt) (args : List SV) : Ctr := ⟨[.int, .rows, .int, .rows, .g, .int, .int, .bytes, .int, .int] ++ more, .one (sl4 (ai 0) (ai 5) (ai 2)) :: .one (sl1 (ai 6) (ai 9) (ai 8)) :: args, [rfA (ai 0) (rA 1) (ai 2), fbC (rA 3) (gA 4), bAr (ai 6) (bA 7) (ai 8)],
 [usB 430 (rA 1) (rA 3) (Yf (ai 6) (ZP (bA 7)) (ai 8)), usB 431 g' (gA 4) (bA 7)], [], .tup [], [rfA (ai 0) (rA 1) (ai 2), fbC (rA 1) g'], []⟩
def ZOC (g' ix : SX) (more : List Srt) (args : List SV) : Ctr := ⟨[.int, .rows, .int, .rows, .g, .int, .int, .bytes, .int, .int] ++ more, .one (sl4 (ai 0) (ai 5) (ai 2)) :: .one (sl1 (ai 6) (ai 9) (ai 8)) :: args, [rfA (ai 0) (rA 1) (ai 2), fbC (rA 3) (gA 4), bAr (ai 6) (bA 7) (ai 8)],
 [usB 434 (rA 1) (rA 3) (ZdF ix (ai 6) (ZP (bA 7)) (ai 8)), .us .bool 435 g' (gA 4) (bA 7) ix], [], .tup [], [rfA (ai 0) (rA 1) (ai 2), fbC (rA 1) g'], []⟩
theorem ZrR {T : Sig GG} (hT : RcSig T) (ρ : Go.Eng.Env GG) (w0 : World) (c p lb ln lc g h m e : SX) : (Ch.cel c 0 (ZHV p lb ln lc g h m e)).den T ρ w0 =
  fun x => (0 <= (c.den T ρ).tI \/ False) /\ row (c.den T ρ).tI.toNat 0 [pV (p.den T ρ).tI, slV (lb.den T ρ).tI (ln.den T ρ).tI (lc.den T ρ).tI, .int .i64 (Zn (g.den T ρ)).frames, .int .i64 0, .int .i64 0, .int .i64 0, .int .i64 (h.den T ρ).tI, .int .i64 (m.den T ρ).tI, .int .i64 (e.den T ρ).tI] true x := by
 simp only [ZHV, pC, Ch.den, ZUs, List.map_nil, ZaA, SC.den, usI, z0, SX.den, hT.rp.cs.u257, Zi, U.tIi, reduceCtorEq]
 rfl
theorem ZaG (S : Sig GG) (hS : RcSig S) : Z7 S ZhX := by
 refine Zw S fun T w0 ρ h hu hp hd hr hpre => ?_
 have hT := hS.of hu hp hd
 have e1 : hpDen T ρ w0 ZhX.pre = Zb (T.prd 87 w0 ((Zj (ZT (ai 0) (ai 1)) YD).den T ρ) ((gA 2).den T ρ)) emp := rfl
 rw [e1, Za, hT.p87] at hpre
 generalize hd' : Zn ((gA 2).den T ρ) = s at hpre
 obtain ⟨hg, lb, lc, R, hR, hst⟩ := hpre
 let ρ' : Go.Eng.Env GG := ((ρ.upd 3 (.int lb)).upd 4 (.int lc)).upd 5 (.rows R)
 have hgd : Zn ((gA 2).den T ρ') = s := by rw [<- hd']; rfl
 have kw : ∀ k : Nat, ∀ v : Int, ((usI k (gA 2) z0 z0).den T ρ').tI = v -> True := fun _ _ _ => trivial
 have k256 : ((usI 256 (gA 2) z0 z0).den T ρ').tI = (s.fr.length : Nat) := by simp only [usI, SX.den, hT.rp.cs.u256, Zi, U.tIi]; rw [hgd]
 have k258 : ((usI 258 (gA 2) z0 z0).den T ρ').tI = s.hits := by simp only [usI, SX.den, hT.rp.cs.u258, Zi, U.tIi]; rw [hgd]
 have k259 : ((usI 259 (gA 2) z0 z0).den T ρ').tI = s.misses := by simp only [usI, SX.den, hT.rp.cs.u259, Zi, U.tIi]; rw [hgd]
 have k260 : ((usI 260 (gA 2) z0 z0).den T ρ').tI = s.evic := by simp only [usI, SX.den, hT.rp.cs.u260, Zi, U.tIi]; rw [hgd]
 have hlen := hR.len
 refine ⟨ρ', ?_, ?_, ?_⟩
 ·intro i hi
  have hi : i < 3 := hi
  show (((ρ.upd 3 (.int lb)).upd 4 (.int lc)).upd 5 (.rows R)) i = ρ i
  simp only [Env.upd]
  repeat rw [if_neg (by omega)]
 ·have e2 : hpDen T ρ' w0 ZhX.post = Zb ((Ch.cel (ai 0) 0 (ZHV (ai 1) (ai 3) (usI 256 (gA 2) z0 z0) (ai 4) (gA 2) (usI 258 (gA 2) z0 z0) (usI 259 (gA 2) z0 z0) (usI 260 (gA 2) z0 z0))).den T ρ' w0) (Zb (rAD rfT lb R lc) (Zb (T.prd 85 w0 ((rA 5).den T ρ') ((gA 2).den T ρ')) emp)) := rfl
  rw [e2, Za, ZrR hT, hT.p85, hgd, k256, k258, k259, k260]
  exact hst
 ·obtain ⟨_, _, _, hq⟩ := Zo hst
  obtain ⟨_, _, hra, _⟩ := Zo hq
  have hrl := Zfr (fs := [.int .i64, .slice 1, .bool, .int .i64]) (by decide) hra
  intro q hq
  simp only [ZhX, List.mem_cons, List.not_mem_nil, or_false] at hq
  rcases hq with rfl | rfl | rfl | rfl | rfl
  ·have : ((usB 420 (rA 5) (gA 2) z0).den T ρ').tP ↔ ZU R s.fr := by
    simp only [usB, SX.den, hT.u420, Zv, U.tPi, U.tQi, Zf]
    rw [hgd]; exact Iff.rfl
   exact this.2 hR
  ·have : ((usB 268 (gA 2) z0 z0).den T ρ').tP ↔ GoodC s := by
    simp only [usB, SX.den, hT.rp.cs.u268, Zv, U.tPi, U.tQi, Zf]
    rw [hgd]
   exact this.2 hg
  ·rw [SX.den, p45, k256]; show (R.length : Int) = _; omega
  ·rw [Zg, k256]; show _ <= lc; omega
  ·rw [Zg, k256]
   have h1 := hg.len
   have h2 := hg.frames
   show (s.fr.length : Int) <= 4096
   omega
theorem YZ (S : Sig GG) (hS : RcSig S) : Z7 S ZfG := by
 refine Zw S fun T w0 ρ h hu hp hd hr hpre => ⟨ρ, Ext.refl _ _, ?_, by intro x hx; exact nomatch hx⟩
 have hT := hS.of hu hp hd
 have e1 : hpDen T ρ w0 ZfG.pre = Zb ((Ch.cel (ai 0) 0 (ZHV (ai 1) (ai 3) (ai 9) (ai 4) (gA 2) (ai 6) (ai 7) (ai 8))).den T ρ w0) (Zb (rAD rfT (ρ 3).tI (ρ 5).tR (ρ 4).tI) (Zb (T.prd 85 w0 ((rA 5).den T ρ) ((gA 2).den T ρ)) emp)) := rfl
 have e2 : hpDen T ρ w0 ZfG.post = Zb (T.prd 87 w0 ((Zj (ZT (ai 0) (ai 1)) YD).den T ρ) ((rnG (gA 2) (ai 6) (ai 7) (ai 8)).den T ρ)) emp := rfl
 rw [e1, Za, ZrR hT, hT.p85] at hpre
 rw [e2, Za, hT.p87]
 have r1 := hr (usB 420 (rA 5) (gA 2) z0) (by simp [ZfG])
 have r2 := hr (usB 268 (rnG (gA 2) (ai 6) (ai 7) (ai 8)) z0 z0) (by simp [ZfG])
 have r3 := hr (.f2 45 (ai 9) (usI 256 (gA 2) z0 z0)) (by simp [ZfG])
 have kg : Zn ((rnG (gA 2) (ai 6) (ai 7) (ai 8)).den T ρ) = { Zn ((gA 2).den T ρ) with hits := (ρ 6).tI, misses := (ρ 7).tI, evic := (ρ 8).tI } := by
  simp only [rnG, SX.den, hT.rp.cs.u267, Zbf, Zq]; rfl
 have r2 : GoodC (Zn ((rnG (gA 2) (ai 6) (ai 7) (ai 8)).den T ρ)) := by
  simpa only [usB, SX.den, hT.rp.cs.u268, Zv, U.tPi, U.tQi, Zf] using r2
 simp only [usB, usI, SX.den, hT.u420, hT.rp.cs.u256, Zv, Zi, p45, U.tIi, U.tPi, U.tQi, Zf] at r1 r3
 rw [kg] at r2 ⊢
 have r3 : (ρ 9).tI = ((Zn ((gA 2).den T ρ)).fr.length : Nat) := r3
 have k9 : ((ai 9).den T ρ).tI = (ρ 9).tI := rfl
 rw [k9, r3] at hpre
 exact ⟨r2, (ρ 3).tI, (ρ 4).tI, (ρ 5).tR, r1, hpre⟩
theorem ZLw {R : List (List Int)} {i : Nat} (h : i < R.length) : (R.map ZcX).getD i [] = ZcX (R.getD i []) := by
 rw [ZUj, ZUj, List.getElem?_map, ZUm h]; rfl
theorem ZJN {fr : List Fr} {i : Nat} (h : i < fr.length) : (fr.map (·.b)).getD i [] = (fr.getD i fr0).b := by
 rw [ZUj, ZUj, List.getElem?_map, ZUm h]; rfl
theorem Zqj {R : List (List Int)} {fr : List Fr} {i : Nat} (hl : R.length = fr.length) (hi : i < fr.length) :
  frB R fr = Zb (Zb (frB (R.take i) (fr.take i)) (frB (R.drop (i + 1)) (fr.drop (i + 1)))) (blI (ZcX (R.getD i [])) (fr.getD i fr0).b) := by
 unfold frB
 rw [Zeh (by rw [ZUt, ZUt]; exact hl) (show i < (R.map ZcX).length by rw [ZUt]; omega), ZLw (by omega), ZJN hi, List.map_take, List.map_take, List.map_drop, List.map_drop]
theorem Zpj (S : Sig GG) (hS : RcSig S) (ix : SX) (more : List Srt) (args : List SV) : Z7 S (ZFg ix more args) := by
 refine Zw S fun T w0 ρ h hu hp hd hr hpre => ⟨ρ, Ext.refl _ _, ?_⟩
 have hT := hS.of hu hp hd
 have e1 : hpDen T ρ w0 (ZFg ix more args).pre = Zb (T.prd 85 w0 ((rA 0).den T ρ) ((gA 1).den T ρ)) emp := rfl
 have e2 : hpDen T ρ w0 (ZFg ix more args).post = Zb (T.prd 86 w0 ((Zj (Yy ix) (rA 0)).den T ρ) ((gA 1).den T ρ)) (Zb (bAD ((nt (rA 0) ix 1).den T ρ).tI ((usY 253 (gA 1) ix z0).den T ρ).tB ((nt (rA 0) ix 3).den T ρ).tI) emp) := rfl
 have r0 := hr (eLe z0 ix) (by simp [ZFg])
 have r1 := hr (eLt ix (usI 256 (gA 1) z0 z0)) (by simp [ZFg])
 rw [Zg] at r0
 rw [Yc] at r1
 have kg : ((usI 256 (gA 1) z0 z0).den T ρ).tI = ((Zn ((gA 1).den T ρ)).fr.length : Nat) := by simp only [usI, SX.den, hT.rp.cs.u256, Zi, U.tIi]
 have ky : ((usY 253 (gA 1) ix z0).den T ρ).tB = ((Zn ((gA 1).den T ρ)).at' (ix.den T ρ).tI).b := by simp only [usY, SX.den, hT.rp.cs.u253, Zu, U.tBi]
 have kn : ∀ k : Nat, ((nt (rA 0) ix k).den T ρ).tI = (((ρ 0).tR.getD (ix.den T ρ).tI.toNat []).getD k 0) := fun k => rfl
 have k1 : ((Zj (Yy ix) (rA 0)).den T ρ).tR = [(ix.den T ρ).tI] :: (ρ 0).tR := rfl
 have k2 : ((rA 0).den T ρ).tR = (ρ 0).tR := rfl
 have r0 : 0 <= (ix.den T ρ).tI := r0
 have r1 : (ix.den T ρ).tI < ((Zn ((gA 1).den T ρ)).fr.length : Nat) := by rw [<- kg]; exact r1
 have kl : ((ZP (usY 253 (gA 1) ix z0)).den T ρ).tI = (((Zn ((gA 1).den T ρ)).at' (ix.den T ρ).tI).b.length : Nat) := by
  show (ap1 31 ((usY 253 (gA 1) ix z0).den T ρ)).tI = _
  rw [Za1, ky]; rfl
 have hf : ∀ x ∈ (ZFg ix more args).facts, x = .f2 45 (nt (rA 0) ix 2) (ZP (usY 253 (gA 1) ix z0)) \/ x = eLe (ZP (usY 253 (gA 1) ix z0)) (nt (rA 0) ix 3) \/ x = .f2 50 (eLe z0 (nt (rA 0) ix 1)) (.f2 45 (ZP (usY 253 (gA 1) ix z0)) z0) := by
  intro x hx; simpa [ZFg] using hx
 rw [e1, Za, hT.p85, k2] at hpre
 rw [e2, Za, hT.p86, k1, Zy6, kn, kn, ky]
 generalize Zn ((gA 1).den T ρ) = c at hpre r1 ky kl ⊢
 generalize (ρ 0).tR = R at hpre kn ⊢
 generalize hn : (ix.den T ρ).tI = n at *
 have hl := ZJQ hpre
 rw [Zqj hl (i := n.toNat) (by omega)] at hpre
 obtain ⟨a, b, dd, rfl, ha, q, hb⟩ := hpre
 have q : (R.getD n.toNat []).getD 2 0 = ((c.at' n).b.length : Nat) := q
 have hb : bAD ((R.getD n.toNat []).getD 1 0) (c.at' n).b ((R.getD n.toNat []).getD 3 0) b := hb
 refine ⟨⟨a, b, dd, rfl, ha, hb⟩, fun x hx => ?_⟩
 rcases hf x hx with rfl | rfl | rfl
 ·rw [SX.den, p45, kl, kn]; exact q
 ·rw [Zg, kl, kn]; exact Zgy hb
 ·rw [SX.den, p50]
  obtain ⟨_, _, _, h3, _⟩ := id hb
  have hle := Zgy hb
  rcases h3 with h3 | h3
  ·left; exact (Zg T ρ z0 (nt (rA 0) ix 1)).2 (by rw [kn]; exact h3)
  ·right
   have : ((Go.Eng.SX.f2 45 (ZP (usY 253 (gA 1) ix z0)) z0).den T ρ).tP = (((ZP (usY 253 (gA 1) ix z0)).den T ρ).tI = (z0.den T ρ).tI) := by rw [SX.den, p45]
   refine this.mpr ?_
   rw [kl]
   have h3 : (R.getD n.toNat []).getD 3 0 = 0 := h3
   show (((c.at' n).b.length : Nat) : Int) = 0
   omega
theorem ZnZ (S : Sig GG) (hS : RcSig S) : Z7 S ZER := by
 refine Zw S fun T w0 ρ h hu hp hd hr hpre => ⟨ρ, Ext.refl _ _, ?_, by intro x hx; exact nomatch hx⟩
 have hT := hS.of hu hp hd
 have e1 : hpDen T ρ w0 ZER.post = Zb (T.prd 85 w0 ((rA 1).den T ρ) ((gA 2).den T ρ)) emp := rfl
 have e2 : hpDen T ρ w0 ZER.pre = Zb (T.prd 86 w0 ((Zj (Yy (ai 0)) (rA 1)).den T ρ) ((gA 2).den T ρ)) (Zb (bAD ((nt (rA 1) (ai 0) 1).den T ρ).tI ((usY 253 (gA 2) (ai 0) z0).den T ρ).tB ((nt (rA 1) (ai 0) 3).den T ρ).tI) emp) := rfl
 have r0 := hr (eLe z0 (ai 0)) (by simp [ZER])
 have r1 := hr (eLt (ai 0) (usI 256 (gA 2) z0 z0)) (by simp [ZER])
 have r2 := hr (.f2 45 (ZA (rA 1)) (usI 256 (gA 2) z0 z0)) (by simp [ZER])
 have r3 := hr (.f2 45 (nt (rA 1) (ai 0) 2) (ZP (usY 253 (gA 2) (ai 0) z0))) (by simp [ZER])
 rw [Zg] at r0
 rw [Yc] at r1
 rw [SX.den, p45] at r2 r3
 have kg : ((usI 256 (gA 2) z0 z0).den T ρ).tI = ((Zn ((gA 2).den T ρ)).fr.length : Nat) := by simp only [usI, SX.den, hT.rp.cs.u256, Zi, U.tIi]
 have ky : ((usY 253 (gA 2) (ai 0) z0).den T ρ).tB = ((Zn ((gA 2).den T ρ)).at' (ρ 0).tI).b := by simp only [usY, SX.den, hT.rp.cs.u253, Zu, U.tBi]; rfl
 have kn : ∀ k : Nat, ((nt (rA 1) (ai 0) k).den T ρ).tI = (((ρ 1).tR.getD (ρ 0).tI.toNat []).getD k 0) := fun k => rfl
 have k1 : ((Zj (Yy (ai 0)) (rA 1)).den T ρ).tR = [(ρ 0).tI] :: (ρ 1).tR := rfl
 have k2 : ((rA 1).den T ρ).tR = (ρ 1).tR := rfl
 have kl : ((ZP (usY 253 (gA 2) (ai 0) z0)).den T ρ).tI = (((Zn ((gA 2).den T ρ)).at' (ρ 0).tI).b.length : Nat) := by
  show (ap1 31 ((usY 253 (gA 2) (ai 0) z0).den T ρ)).tI = _
  rw [Za1, ky]; rfl
 have r0 : 0 <= (ρ 0).tI := r0
 rw [kg] at r1 r2
 rw [kl, kn] at r3
 have r1 : (ρ 0).tI < ((Zn ((gA 2).den T ρ)).fr.length : Nat) := r1
 have r2 : ((ρ 1).tR.length : Int) = ((Zn ((gA 2).den T ρ)).fr.length : Nat) := r2
 rw [e2, Za, hT.p86, k1, Zy6, kn, kn, ky] at hpre
 rw [e1, Za, hT.p85, k2]
 generalize Zn ((gA 2).den T ρ) = c at hpre r1 r2 r3 ⊢
 generalize (ρ 1).tR = R at hpre r2 r3 ⊢
 generalize (ρ 0).tI = n at *
 rw [Zqj (by omega) (i := n.toNat) (by omega)]
 obtain ⟨a, b, dd, rfl, ha, hb⟩ := hpre
 exact ⟨a, b, dd, rfl, ha, r3, hb⟩
theorem ZeT (S : Sig GG) (hS : RcSig S) (g' : SX) (more : List Srt) (args : List SV) : Z7 S (ZEO g' more args) := by
 refine ZDb S fun T w0 ρ h hu hp hd hr hpre => ?_
 have hT := hS.of hu hp hd
 have e1 : hpDen T ρ w0 (ZEO g' more args).pre = Zb (rAD rfT (ρ 0).tI (ρ 1).tR (ρ 2).tI) (Zb (T.prd 85 w0 ((rA 3).den T ρ) ((gA 4).den T ρ)) emp) := rfl
 have e2 : hpDen T ρ w0 (ZEO g' more args).post = Zb (rAD rfT (ρ 0).tI (ρ 1).tR (ρ 2).tI) (Zb (T.prd 85 w0 ((rA 1).den T ρ) (g'.den T ρ)) emp) := rfl
 have r := hr (.us .bool 425 (rA 1) g' (rA 3) (gA 4)) (by simp [ZEO])
 simp only [SX.den, hT.u425, Zv, U.tPi, U.tQi, Zf] at r
 have k1 : ((rA 1).den T ρ).tR = (ρ 1).tR := rfl
 have k2 : ((rA 3).den T ρ).tR = (ρ 3).tR := rfl
 have r : Zc5 (ρ 1).tR (Zn (g'.den T ρ)).fr (ρ 3).tR (Zn ((gA 4).den T ρ)).fr := r
 rw [e1, Za, hT.p85, k2] at hpre
 obtain ⟨h1, h2, rest, hp⟩ := r
 refine ⟨ρ, bgS rest, Ext.refl _ _, ?_, by intro x hx; exact nomatch hx⟩
 rw [e2, Za, hT.p85, k1, Zyq h1]
 rw [Zyq h2, ZFC hp, ZAB] at hpre
 rw [Zp (bgS rest), star_assoc]
 exact hpre
theorem ZoU {R : List (List Int)} {fr : List Fr} (h : R.length = fr.length) {i : Nat} (hi : i < fr.length) {r : List Int} {f : Fr} (hr : ZcX r = ZcX (R.getD i [])) (hf : f.b = (fr.getD i fr0).b) :
  Zc5 (R.set i r) (fr.take i ++ f :: fr.drop (i + 1)) R fr := by
 have hF := ZO (d := fr0) hi
 have e1 : (R.set i r).map ZcX = R.map ZcX := by
  refine List.ext_getElem? fun j => ?_
  rw [List.getElem?_map, List.getElem?_map, List.getElem?_set]
  by_cases e : i = j
  ·subst e
   rw [if_pos rfl, if_pos (by omega), ZUm (show i < R.length by omega)]
   show some (ZcX r) = some (ZcX R[i])
   rw [hr, ZUj, ZUm (show i < R.length by omega)]; rfl
  ·rw [if_neg e]
 have e2 : (fr.take i ++ f :: fr.drop (i + 1)).map (·.b) = fr.map (·.b) := by
  conv => rhs; rw [hF]
  simp [hf]
 refine ⟨by rw [List.length_set, ZUo, ZUD, ZUl, ZUx]; omega, h, [], ?_⟩
 unfold frZ
 rw [e1, e2, List.append_nil]
theorem ZU.put {R : List (List Int)} {fr : List Fr} (h : ZU R fr) {i : Nat} (hi : i < fr.length) {r : List Int} {f : Fr} (hr : Zrv r = ZqW f) : ZU (R.set i r) (fr.take i ++ f :: fr.drop (i + 1)) := by
 have hl := h.len
 unfold ZU
 have e : R.set i r = R.take i ++ r :: R.drop (i + 1) := by rw [List.set_eq_take_append_cons_drop, if_pos (by omega)]
 rw [e]
 unfold ZU at h
 simp only [ZUz, ZUs, List.map_take, List.map_drop, h, hr]
theorem ZHr (S : Sig GG) (hS : RcSig S) (g' : SX) (more : List Srt) (args : List SV) : Z7 S (ZKl g' more args) := by
 refine Zw S fun T w0 ρ h hu hp hd hr hpre => ⟨ρ, Ext.refl _ _, ?_, by intro x hx; exact nomatch hx⟩
 have hT := hS.of hu hp hd
 have e1 : hpDen T ρ w0 (ZKl g' more args).pre = Zb (rAD rfT (ρ 0).tI (ρ 1).tR (ρ 2).tI) (Zb (T.prd 85 w0 ((rA 3).den T ρ) ((gA 4).den T ρ)) (Zb (bAD (ρ 6).tI (ρ 7).tB (ρ 8).tI) emp)) := rfl
 have e2 : hpDen T ρ w0 (ZKl g' more args).post = Zb (rAD rfT (ρ 0).tI (ρ 1).tR (ρ 2).tI) (Zb (T.prd 85 w0 ((rA 1).den T ρ) (g'.den T ρ)) emp) := rfl
 have r1 := hr (usB 430 (rA 1) (rA 3) (Yf (ai 6) (ZP (bA 7)) (ai 8))) (by simp [ZKl])
 have r2 := hr (usB 431 g' (gA 4) (bA 7)) (by simp [ZKl])
 simp only [usB, SX.den, hT.u430, hT.u431, Zv, U.tPi, U.tQi, Zf] at r1 r2
 have k1 : ((rA 1).den T ρ).tR = (ρ 1).tR := rfl
 have k2 : ((rA 3).den T ρ).tR = (ρ 3).tR := rfl
 have r1 : (ρ 1).tR.map ZcX = (ρ 3).tR.map ZcX ++ [[(ρ 6).tI, ((ρ 7).tB.length : Nat), (ρ 8).tI]] := r1
 have r2 : (Zn (g'.den T ρ)).fr.map (·.b) = (Zn ((gA 4).den T ρ)).fr.map (·.b) ++ [(ρ 7).tB] := r2
 rw [e1, Za, hT.p85, k2] at hpre
 rw [e2, Za, hT.p85, k1]
 have hl : ((ρ 3).tR.map ZcX).length = ((Zn ((gA 4).den T ρ)).fr.map (·.b)).length := by
  obtain ⟨_, _, _, hq⟩ := Zo hpre
  obtain ⟨_, _, hq, _⟩ := Zo hq
  exact ZdR hq
 unfold frB at hpre ⊢
 rw [r1, r2, ZdL _ _ hl, Zi0]
 refine Yt hpre fun h x => Zy (fun _ y => y) (fun _ y => ?_) _ x
 exact ⟨rfl, y⟩
theorem st5 (A L R I N : HProp) : Zb A (Zb (Zb (Zb L R) I) N) = Zb I (Zb A (Zb L (Zb N R))) := by
 rw [Zp (Zb L R) I, star_assoc I, star_assoc L, Zp R N, <- star_assoc A, Zp A I, star_assoc I]
theorem ZP5 (S : Sig GG) (hS : RcSig S) (g' ix : SX) (more : List Srt) (args : List SV) : Z7 S (ZOC g' ix more args) := by
 refine ZDb S fun T w0 ρ h hu hp hd hr hpre => ?_
 have hT := hS.of hu hp hd
 have e1 : hpDen T ρ w0 (ZOC g' ix more args).pre = Zb (rAD rfT (ρ 0).tI (ρ 1).tR (ρ 2).tI) (Zb (T.prd 85 w0 ((rA 3).den T ρ) ((gA 4).den T ρ)) (Zb (bAD (ρ 6).tI (ρ 7).tB (ρ 8).tI) emp)) := rfl
 have e2 : hpDen T ρ w0 (ZOC g' ix more args).post = Zb (rAD rfT (ρ 0).tI (ρ 1).tR (ρ 2).tI) (Zb (T.prd 85 w0 ((rA 1).den T ρ) (g'.den T ρ)) emp) := rfl
 have r1 := hr (usB 434 (rA 1) (rA 3) (ZdF ix (ai 6) (ZP (bA 7)) (ai 8))) (by simp [ZOC])
 have r2 := hr (.us .bool 435 g' (gA 4) (bA 7) ix) (by simp [ZOC])
 simp only [usB, SX.den, hT.u434, hT.u435, Zv, U.tPi, U.tQi, Zf] at r1 r2
 have k1 : ((rA 1).den T ρ).tR = (ρ 1).tR := rfl
 have k2 : ((rA 3).den T ρ).tR = (ρ 3).tR := rfl
 have r1 : ZJ7 (ρ 1).tR (ρ 3).tR [(ix.den T ρ).tI, (ρ 6).tI, ((ρ 7).tB.length : Nat), (ρ 8).tI] := r1
 have r2 : ZFx (Zn (g'.den T ρ)).fr (Zn ((gA 4).den T ρ)).fr (ρ 7).tB (ix.den T ρ).tI := r2
 obtain ⟨i0, i1, r1⟩ := r1
 have i0 : 0 <= (ix.den T ρ).tI := i0
 have i1 : (ix.den T ρ).tI < ((ρ 3).tR.length : Nat) := i1
 have r1 : (ρ 1).tR.map ZcX = ((ρ 3).tR.map ZcX).set (ix.den T ρ).tI.toNat [(ρ 6).tI, ((ρ 7).tB.length : Nat), (ρ 8).tI] := r1
 unfold ZFx at r2
 rw [e1, Za, hT.p85, k2] at hpre
 have main : ∃ J : HProp, Zb J (Zb (rAD rfT (ρ 0).tI (ρ 1).tR (ρ 2).tI) (frB (ρ 1).tR (Zn (g'.den T ρ)).fr)) h := by
  unfold frB at hpre ⊢
  rw [r1, r2]
  generalize (Zn ((gA 4).den T ρ)).fr.map (·.b) = X at hpre ⊢
  have hlR : ((ρ 3).tR.map ZcX).length = (ρ 3).tR.length := ZUt _
  generalize (ρ 3).tR.map ZcX = Q at hpre hlR ⊢
  generalize (ix.den T ρ).tI = i at *
  have hl : Q.length = X.length := by
   obtain ⟨_, _, _, hq⟩ := Zo hpre
   obtain ⟨_, _, hq, _⟩ := Zo hq
   exact ZdR hq
  have hi : i.toNat < Q.length := by omega
  have hq1 : Q.set i.toNat [(ρ 6).tI, ((ρ 7).tB.length : Nat), (ρ 8).tI] = Q.take i.toNat ++ [(ρ 6).tI, ((ρ 7).tB.length : Nat), (ρ 8).tI] :: Q.drop (i.toNat + 1) := by rw [List.set_eq_take_append_cons_drop, if_pos hi]
  have hx1 : X.set i.toNat (ρ 7).tB = X.take i.toNat ++ (ρ 7).tB :: X.drop (i.toNat + 1) := by rw [List.set_eq_take_append_cons_drop, if_pos (by omega)]
  rw [Zeh hl hi] at hpre
  rw [hq1, hx1, ZdL _ _ (by rw [ZUl, ZUl]; omega)]
  refine ⟨blI (Q.getD i.toNat []) (X.getD i.toNat []), ?_⟩
  have hst := Yt hpre (B' := Zb (Zb (Zb (blH (Q.take i.toNat) (X.take i.toNat)) (blH (Q.drop (i.toNat + 1)) (X.drop (i.toNat + 1)))) (blI (Q.getD i.toNat []) (X.getD i.toNat []))) (blI [(ρ 6).tI, ((ρ 7).tB.length : Nat), (ρ 8).tI] (ρ 7).tB)) fun h x => Zy (fun _ y => y) (fun _ y => ⟨rfl, y⟩) _ x
  rw [st5] at hst
  exact hst
 obtain ⟨J, hJ⟩ := main
 exact ⟨ρ, J, Ext.refl _ _, by rw [e2, Za, hT.p85, k1]; exact hJ, by intro x hx; exact nomatch hx⟩
end
end Go.Proofs.YtlcfjjjdhdfbdaaGreat
