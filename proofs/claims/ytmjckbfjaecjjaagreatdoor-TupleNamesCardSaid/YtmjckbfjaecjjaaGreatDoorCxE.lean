/- A run with written-out values: what a state says of the model's memory. -/
import Derived.Test.YtmjckbfjaecjjaaGreatDoorCxD
set_option linter.unusedVariables false
set_option linter.unusedSimpArgs false
set_option linter.unnecessarySimpa false
namespace Go.Cx
open Go.RowKit (Below)

/-! ### Octets -/
theorem sel_eq {α : Type} (c0 c1 c2 c3 c4 c5 c6 c7 : α) (d : Nat) : sel c0 c1 c2 c3 c4 c5 c6 c7 d = match d with | 0 => c0 | 1 => c1 | 2 => c2 | 3 => c3 | 4 => c4 | 5 => c5 | 6 => c6 | _ => c7 := by
  unfold sel
  match d with
  | 0 => rfl | 1 => rfl | 2 => rfl | 3 => rfl | 4 => rfl | 5 => rfl | 6 => rfl | 7 => rfl | _ + 8 => rfl
theorem og_os {α : Type} (f : α → α) (o : O α) (d e : Nat) (hd : d < 8) (he : e < 8) : og (os f o d) e = if e = d then f (og o e) else og o e := by
  obtain ⟨c0, c1, c2, c3, c4, c5, c6, c7⟩ := o
  have hd' : d = 0 ∨ d = 1 ∨ d = 2 ∨ d = 3 ∨ d = 4 ∨ d = 5 ∨ d = 6 ∨ d = 7 := by omega
  have he' : e = 0 ∨ e = 1 ∨ e = 2 ∨ e = 3 ∨ e = 4 ∨ e = 5 ∨ e = 6 ∨ e = 7 := by omega
  rcases hd' with rfl | rfl | rfl | rfl | rfl | rfl | rfl | rfl <;> rcases he' with rfl | rfl | rfl | rfl | rfl | rfl | rfl | rfl <;> rfl
theorem og_oe {α : Type} (a : α) (d : Nat) : og (oe a) d = a := by
  show sel a a a a a a a a d = a
  rw [sel_eq]; split <;> rfl
theorem fget_fput (f : F) (i j : Nat) (v : CV) (hi : i < 512) (hj : j < 512) : fget (fput f i v) j = if j = i then v else fget f j := by
  obtain ⟨n, o⟩ := f
  unfold fget fput
  simp only
  rw [og_os _ _ _ _ (by omega) (by omega)]
  by_cases h1 : j / 64 = i / 64
  · rw [if_pos h1, og_os _ _ _ _ (by omega) (by omega)]
    by_cases h2 : j / 8 % 8 = i / 8 % 8
    · rw [if_pos h2, og_os _ _ _ _ (by omega) (by omega)]
      by_cases h3 : j % 8 = i % 8
      · rw [if_pos h3, if_pos (by omega)]
      · rw [if_neg h3, if_neg (by omega)]
    · rw [if_neg h2, if_neg (by omega)]
  · rw [if_neg h1, if_neg (by omega)]
theorem fput_n (f : F) (i : Nat) (v : CV) : (fput f i v).n = f.n := by obtain ⟨n, o⟩ := f; rfl
theorem fset_eq (f : F) (i : Nat) (v : CV) : fset f i v = bif Nat.blt i f.n then fput f i v else f := by
  obtain ⟨n, o⟩ := f; unfold fset fput; simp only
theorem fg_eq (f : F) (i : Nat) : fg f i = bif Nat.blt i f.n then fget f i else .junk := by
  obtain ⟨n, o⟩ := f; unfold fg fget; simp only
theorem fget_F0 (n i : Nat) : fget (F0 n) i = .junk := by unfold fget F0; simp only; rw [og_oe, og_oe, og_oe]
theorem hget_hset (h : H) (i j : Nat) (c : Ck) (hi : i < 32768) (hj : j < 32768) : hget (hset h i c) j = if j = i then c else hget h j := by
  unfold hget hset
  rw [og_os _ _ _ _ (by omega) (by omega)]
  by_cases h1 : j / 4096 = i / 4096
  · rw [if_pos h1, og_os _ _ _ _ (by omega) (by omega)]
    by_cases h2 : j / 512 % 8 = i / 512 % 8
    · rw [if_pos h2, og_os _ _ _ _ (by omega) (by omega)]
      by_cases h3 : j / 64 % 8 = i / 64 % 8
      · rw [if_pos h3, og_os _ _ _ _ (by omega) (by omega)]
        by_cases h4 : j / 8 % 8 = i / 8 % 8
        · rw [if_pos h4, og_os _ _ _ _ (by omega) (by omega)]
          by_cases h5 : j % 8 = i % 8
          · rw [if_pos h5, if_pos (by omega)]
          · rw [if_neg h5, if_neg (by omega)]
        · rw [if_neg h4, if_neg (by omega)]
      · rw [if_neg h3, if_neg (by omega)]
    · rw [if_neg h2, if_neg (by omega)]
  · rw [if_neg h1, if_neg (by omega)]
theorem hget_H0 (i : Nat) : hget H0 i = .no := by unfold hget H0; rw [og_oe, og_oe, og_oe, og_oe, og_oe]

/-! ### Frames -/
def DfR (σ : Sg) : List CV → List Deferred → Prop
  | [], l => l = []
  | .ptr r 0 :: cs, l => ∃ p t ds, σ r = some (p, t) ∧ l = { target := .collected p, args := #[] } :: ds ∧ DfR σ cs ds
  | .tup (.fn f first caps :: args) :: cs, l => ∃ us vs ws ds, VRs σ first us ∧ VRs σ caps vs ∧ VRs σ args ws ∧ l = { target := .fn (.func f) vs.toArray, args := us.toArray ++ ws.toArray } :: ds ∧ DfR σ cs ds
  | _ :: _, _ => False
noncomputable def dfs (fr : F) : List CV := match fget fr dfSlot with | .tup l => l | _ => []
/-- Beyond its places nothing lies in a frame. -/
def NJ (fr : F) : Prop := ∀ i, fr.n ≤ i → i < 511 → fget fr i = .junk
structure FrR (σ : Sg) (fr : F) (a : Act) : Prop where
  sz : fr.n = a.tmps.size
  small : a.tmps.size ≤ 511
  val : ∀ i v, a.tmps[i]? = some v → VR σ (fget fr i) v
  df : DfR σ (dfs fr) a.defers
  nj : NJ fr
theorem DfR.mono {σ τ : Sg} (h : Le σ τ) : ∀ {l : List CV} {ds : List Deferred}, DfR σ l ds → DfR τ l ds
  | [], _, hd => hd
  | c :: l, ds, hd => by
    unfold DfR at hd ⊢
    split at hd
    · exact hd
    · obtain ⟨p, t, ds', h1, h2, h3⟩ := hd; exact ⟨p, t, ds', h _ _ h1, h2, DfR.mono h h3⟩
    · obtain ⟨us, vs, ws, ds', h1, h2, h3, h4, h5⟩ := hd; exact ⟨us, vs, ws, ds', h1.mono h, h2.mono h, h3.mono h, h4, DfR.mono h h5⟩
    · exact hd.elim
theorem FrR.mono {σ τ : Sg} (h : Le σ τ) {fr : F} {a : Act} (k : FrR σ fr a) : FrR τ fr a := ⟨k.sz, k.small, fun i v hv => (k.val i v hv).mono h, k.df.mono h, k.nj⟩

/-! ### Blocks -/
def bval (b : UInt8) : Value := .int .u8 (b.toNat : Nat)
/-- A row of cells: these first; none of its cells frozen (and, if not 'fz', nothing frozen there at all). -/
def Row (w : World) (p t : Nat) (vs : List Value) (fz : Bool) : Prop :=
  ∃ arr ty lo hi, w.heap[p]? = some (.cells arr ty (lo, hi)) ∧ arr.size = t ∧ (∃ spare, arr.toList = vs ++ spare) ∧ ((lo = 0 ∧ hi = 0) ∨ (fz = true ∧ t ≤ lo))
/-- A row of cells of this type. -/
def TyAt (w : World) (p ty : Nat) : Prop := ∃ arr z, w.heap[p]? = some (.cells arr ty z)
def EntsR (σ : Sg) : List Ent → List MapEntry → Prop
  | [], ms => ms = []
  | e :: es, ms => ∃ m ns, ms = m :: ns ∧ VR σ e.key m.key ∧ VR σ e.val m.val ∧ m.born = e.born ∧ EntsR σ es ns
theorem EntsR.mono {σ τ : Sg} (h : Le σ τ) : ∀ {l : List Ent} {m : List MapEntry}, EntsR σ l m → EntsR τ l m
  | [], _, k => k
  | e :: l, _, k => by unfold EntsR at k ⊢; obtain ⟨m, ns, h1, h2, h3, h4, h5⟩ := k; exact ⟨m, ns, h1, h2.mono h, h3.mono h, h4, EntsR.mono h h5⟩
def loopSt : Nat → LoopState | 0 => .ready | 1 => .busy | 2 => .done | _ => .exhausted
def holds (σ : Sg) (w : World) (p t : Nat) : Ck → Prop
  | .no => True
  | .cells cs => ∃ vs, VRs σ cs vs ∧ Row w p t vs false
  | .bytes l n => Row w p t ((bys l n).map bval) true ∧ TyAt w p u8T
  | .map es c => ∃ ms, EntsR σ es ms ∧ w.heap[p]? = some (.map ms.toArray c)
  | .iter m s seen st => ∃ q u, σ m = some (q, u) ∧ w.heap[p]? = some (.mapIter (some q) s seen.toArray st)
  | .siter l n pos => w.heap[p]? = some (.stringIter ⟨(bys l n).toArray⟩ pos)
  | .iter0 => w.heap[p]? = some (.mapIter none 0 #[] 0)
  | .dfr => w.heap[p]? = some (.deferred (some []))
  | .loop fn fr ps assign body db st pend => ∃ q u tm g, σ db = some (q, u) ∧ (fr.n = tm.size ∧ tm.size ≤ 511 ∧ NJ fr) ∧ (∀ i v, tm[i]? = some v → VR σ (fget fr i) v) ∧
      w.heap[p]? = some (.loop { state := loopSt st, pending := pend, fn := g, tmps := tm, params := ps.toArray, assign := assign, body := body, defers := q })
  | .tcells cs => ∃ vs, VRs σ cs vs ∧ Row w p t vs false ∧ TyAt w p bldT ∧ cs.length = t
theorem holds.mono {σ τ : Sg} (h : Le σ τ) {w : World} {p t : Nat} : ∀ {c : Ck}, holds σ w p t c → holds τ w p t c
  | .no, k => k
  | .cells _, ⟨vs, h1, h2⟩ => ⟨vs, h1.mono h, h2⟩
  | .bytes _ _, k => k
  | .map _ _, ⟨ms, h1, h2⟩ => ⟨ms, h1.mono h, h2⟩
  | .iter _ _ _ _, ⟨q, u, h1, h2⟩ => ⟨q, u, h _ _ h1, h2⟩
  | .siter _ _ _, k => k
  | .iter0, k => k
  | .dfr, k => k
  | .loop _ _ _ _ _ _ _ _, ⟨q, u, tm, g, h1, h2, h3, h4⟩ => ⟨q, u, tm, g, h _ _ h1, h2, fun i v hv => (h3 i v hv).mono h, h4⟩
  | .tcells _, ⟨vs, h1, h2⟩ => ⟨vs, h1.mono h, h2⟩
theorem holds.congr {σ : Sg} {w w' : World} {p t : Nat} (h : w'.heap[p]? = w.heap[p]?) : ∀ {c : Ck}, holds σ w p t c → holds σ w' p t c
  | .no, k => k
  | .cells _, ⟨vs, h1, h2⟩ => ⟨vs, h1, by unfold Row at *; rw [h]; exact h2⟩
  | .bytes _ _, k => by unfold holds Row TyAt at *; rw [h]; exact k
  | .map _ _, ⟨ms, h1, h2⟩ => ⟨ms, h1, by rw [h]; exact h2⟩
  | .iter _ _ _ _, ⟨q, u, h1, h2⟩ => ⟨q, u, h1, by rw [h]; exact h2⟩
  | .siter _ _ _, k => by unfold holds at *; rw [h]; exact k
  | .iter0, k => by unfold holds at *; rw [h]; exact k
  | .dfr, k => by unfold holds at *; rw [h]; exact k
  | .loop _ _ _ _ _ _ _ _, ⟨q, u, tm, g, h1, h2, h3, h4⟩ => ⟨q, u, tm, g, h1, h2, h3, by rw [h]; exact h4⟩
  | .tcells _, ⟨vs, h1, h2, h3, h4⟩ => ⟨vs, h1, by unfold Row at *; rw [h]; exact h2, by unfold TyAt at *; rw [h]; exact h3, h4⟩

/-! ### States -/
def live (c : Ck) : Prop := c ≠ .no
structure Rel (w0 : World) (σ : Sg) (hp : H) (n : Nat) (w : World) : Prop where
  hold : ∀ i, i < 32768 → hget hp i ≠ .no → ∃ p t, σ i = some (p, t) ∧ holds σ w p t (hget hp i)
  apart : ∀ i j p t q u, i < 32768 → j < 32768 → hget hp i ≠ .no → hget hp j ≠ .no → i ≠ j → σ i = some (p, t) → σ j = some (q, u) → p ≠ q
  old : ∀ i p t, σ i = some (p, t) → i < 32768 ∧ w0.heap.size ≤ p ∧ p < w.heap.size
  fresh : ∀ i, idN n ≤ i → i < limN n → σ i = none
  lim : limN n ≤ 32768
  below : Below w0.heap.size w0 w
/-- Between: only names that were free have been given. -/
def Ex (n : Nat) (σ τ : Sg) : Prop := Le σ τ ∧ ∀ i, ¬ (idN n ≤ i ∧ i < limN n) → τ i = σ i
theorem Ex.refl (n : Nat) (σ : Sg) : Ex n σ σ := ⟨Le.refl σ, fun _ _ => rfl⟩

variable {w0 : World} {σ : Sg} {hp : H} {n : Nat} {w : World}
theorem Rel.at (h : Rel w0 σ hp n w) {i p t : Nat} (hs : σ i = some (p, t)) {c : Ck} (hc : hget hp i = c) (hn : c ≠ .no) : holds σ w p t c := by
  have hi := (h.old i p t hs).1
  obtain ⟨q, u, h1, h2⟩ := h.hold i hi (by rw [hc]; exact hn)
  rw [hs] at h1; cases h1; rw [hc] at h2; exact h2
/-- The world has changed in the blocks of no live name. -/
theorem Rel.world (h : Rel w0 σ hp n w) {w' : World} (hs : w.heap.size ≤ w'.heap.size) (hb : ∀ k, k < w.heap.size → w'.heap[k]? = w.heap[k]?) (ho : w'.os = w.os) (ht : w'.tape = w.tape) (hu : w'.output = w.output) : Rel w0 σ hp n w' :=
  ⟨fun i hi hc => let ⟨p, t, h1, h2⟩ := h.hold i hi hc; ⟨p, t, h1, h2.congr (hb p (h.old i p t h1).2.2)⟩, h.apart,
    fun i p t hs' => let ⟨a, b, c⟩ := h.old i p t hs'; ⟨a, b, Nat.lt_of_lt_of_le c hs⟩, h.fresh, h.lim, h.below.trans ⟨ho, ht, hu, hs, fun k hk => hb k (Nat.lt_of_lt_of_le hk h.below.size)⟩⟩
theorem Rel.drew (h : Rel w0 σ hp n w) (m : Nat) : Rel w0 σ hp n { w with drawn := m } := h.world (Nat.le_refl _) (fun _ _ => rfl) rfl rfl rfl
/-- One live block has another content. -/
theorem Rel.upd (h : Rel w0 σ hp n w) {i p t : Nat} (hs : σ i = some (p, t)) (hl : hget hp i ≠ .no) {w' : World} (hz : w'.heap.size = w.heap.size) (hb : ∀ k, k ≠ p → w'.heap[k]? = w.heap[k]?)
    (ho : w'.os = w.os) (ht : w'.tape = w.tape) (hu : w'.output = w.output) {c : Ck} (hc : holds σ w' p t c) : Rel w0 σ (hset hp i c) n w' := by
  have hi := (h.old i p t hs).1
  refine ⟨fun j hj hjc => ?_, fun j k q u r v hj hk hjc hkc hne h1 h2 => ?_, fun j q u hj => ?_, h.fresh, h.lim, ?_⟩
  · rw [hget_hset _ _ _ _ hi hj] at hjc ⊢
    by_cases e : j = i
    · subst e; rw [if_pos rfl]; exact ⟨p, t, hs, hc⟩
    · rw [if_neg e] at hjc ⊢
      obtain ⟨q, u, h1, h2⟩ := h.hold j hj hjc
      exact ⟨q, u, h1, h2.congr (hb q (fun e' => h.apart j i q u p t hj hi hjc hl e h1 hs e'))⟩
  · have key : ∀ j, j < 32768 → hget (hset hp i c) j ≠ .no → hget hp j ≠ .no := fun j hj hjc => by
      rw [hget_hset _ _ _ _ hi hj] at hjc
      by_cases e : j = i
      · subst e; exact hl
      · rw [if_neg e] at hjc; exact hjc
    exact h.apart j k q u r v hj hk (key j hj hjc) (key k hk hkc) hne h1 h2
  · obtain ⟨a, b, c⟩ := h.old j q u hj; exact ⟨a, b, by rw [hz]; exact c⟩
  · exact h.below.trans ⟨ho, ht, hu, by rw [hz]; exact Nat.le_refl _, fun k hk => hb k (fun e => by have := (h.old i p t hs).2.1; omega)⟩
/-- A name is dropped. -/
theorem Rel.kill (h : Rel w0 σ hp n w) {i : Nat} (hi : i < 32768) : Rel w0 σ (hset hp i .no) n w := by
  refine ⟨fun j hj hjc => ?_, fun j k q u r v hj hk hjc hkc hne h1 h2 => ?_, h.old, h.fresh, h.lim, h.below⟩
  · rw [hget_hset _ _ _ _ hi hj] at hjc ⊢
    by_cases e : j = i
    · rw [if_pos e] at hjc; exact absurd rfl hjc
    · rw [if_neg e] at hjc ⊢; exact h.hold j hj hjc
  · have key : ∀ j, j < 32768 → hget (hset hp i .no) j ≠ .no → hget hp j ≠ .no := fun j hj hjc => by
      rw [hget_hset _ _ _ _ hi hj] at hjc
      by_cases e : j = i
      · rw [if_pos e] at hjc; exact absurd rfl hjc
      · rw [if_neg e] at hjc; exact hjc
    exact h.apart j k q u r v hj hk (key j hj hjc) (key k hk hkc) hne h1 h2
def updS (σ : Sg) (i p t : Nat) : Sg := fun j => if j = i then some (p, t) else σ j
theorem Le.upd {i p t : Nat} (h : σ i = none) : Le σ (updS σ i p t) := fun j x hj => by
  unfold updS; rw [if_neg (by rintro rfl; rw [h] at hj; cases hj)]; exact hj
theorem updS_self (i p t : Nat) : updS σ i p t i = some (p, t) := by simp [updS]
theorem idN_lt (h : idN n < limN n) (hl : limN n ≤ 32768) : idN (n + 1) = idN n + 1 ∧ limN (n + 1) = limN n := by
  unfold idN limN at *; omega
/-- A new name for a block that no live name has. -/
theorem Rel.name (h : Rel w0 σ hp n w) {i p t m : Nat} (hi : i < 32768) (hf : σ i = none) (hp1 : w0.heap.size ≤ p) (hp2 : p < w.heap.size)
    (hno : ∀ j q u, j < 32768 → hget hp j ≠ .no → σ j = some (q, u) → q ≠ p) {c : Ck} (hc : holds (updS σ i p t) w p t c)
    (hm1 : limN m = limN n) (hm : ∀ j, idN m ≤ j → j < limN m → j ≠ i ∧ idN n ≤ j) : Rel w0 (updS σ i p t) (hset hp i c) m w := by
  refine ⟨fun j hj hjc => ?_, fun j k q u r v hj hk hjc hkc hne h1 h2 => ?_, fun j q u hj => ?_, fun j hj hj2 => ?_, by rw [hm1]; exact h.lim, h.below⟩
  · rw [hget_hset _ _ _ _ hi hj] at hjc ⊢
    by_cases e : j = i
    · subst e; rw [if_pos rfl]; exact ⟨p, t, updS_self _ _ _, hc⟩
    · rw [if_neg e] at hjc ⊢
      obtain ⟨q, u, h1, h2⟩ := h.hold j hj hjc
      exact ⟨q, u, Le.upd hf _ _ h1, h2.mono (Le.upd hf)⟩
  · rw [hget_hset _ _ _ _ hi hj] at hjc
    rw [hget_hset _ _ _ _ hi hk] at hkc
    unfold updS at h1 h2
    by_cases e1 : j = i
    · subst e1
      have e2 : k ≠ j := fun e => hne e.symm
      rw [if_pos rfl] at h1; cases h1
      rw [if_neg e2] at h2 hkc
      exact (hno k r v hk hkc h2).symm
    · rw [if_neg e1] at h1 hjc
      by_cases e2 : k = i
      · subst e2; rw [if_pos rfl] at h2; cases h2; exact hno j q u hj hjc h1
      · rw [if_neg e2] at h2 hkc; exact h.apart j k q u r v hj hk hjc hkc hne h1 h2
  · unfold updS at hj
    split at hj
    · rename_i e; subst e; cases hj; exact ⟨hi, hp1, hp2⟩
    · exact h.old j q u hj
  · obtain ⟨a, b⟩ := hm j hj hj2
    unfold updS; rw [if_neg a]; exact h.fresh j b (by rw [← hm1]; exact hj2)
theorem Rel.push (h : Rel w0 σ hp n w) (o : Obj) : Rel w0 σ hp n { w with heap := w.heap.push o } :=
  h.world (by simp) (fun k hk => by show (w.heap.push o)[k]? = _; rw [Array.getElem?_push, if_neg (by omega)]) rfl rfl rfl
/-- A new block under a free name. -/
theorem Rel.new (h : Rel w0 σ hp n w) {i t m : Nat} (hi : i < 32768) (hf : σ i = none) (o : Obj) {c : Ck} (hc : ∀ τ, Le σ τ → τ i = some (w.heap.size, t) → holds τ { w with heap := w.heap.push o } w.heap.size t c)
    (hm1 : limN m = limN n) (hm : ∀ j, idN m ≤ j → j < limN m → j ≠ i ∧ idN n ≤ j) :
    Rel w0 (updS σ i w.heap.size t) (hset hp i c) m { w with heap := w.heap.push o } :=
  (h.push o).name hi hf h.below.size (by show _ < (w.heap.push o).size; simp) (fun j q u hj hjc hq => by have := (h.old j q u hq).2.2; omega) (hc _ (Le.upd hf) (updS_self _ _ _)) hm1 hm
theorem heap_push (w : World) (o : Obj) : ({ w with heap := w.heap.push o } : World).heap[w.heap.size]? = some o := by
  show (w.heap.push o)[w.heap.size]? = _; simp
end Go.Cx
