/- A run with written-out values: the quiet operations' soundness (sixth part: maps, builtins, structs, the whole). -/
import Derived.Test.YtmjckbfjaecjjaaGreatDoorCxIb
set_option linter.unusedVariables false
set_option linter.unusedSimpArgs false
set_option linter.unnecessarySimpa false
namespace Go.Cx
open Go.RowKit (Below)
section
variable {P : Program} {w0 : World} {σ : Sg} {hp : H} {n : Nat} {w : World} {fr : F} {ev : Operand → Value} {k : CV → Res} {φ : Out → Prop}
theorem zeroV_spec {t : Nat} {c : CV} (h : zeroV P t = some c) : ∃ i zv, P.info? t = some i ∧ i.zero = some zv ∧ VR σ c zv := by
  unfold zeroV at h
  split at h
  · rename_i i hi
    split at h
    · rename_i zv hz; cases h; exact ⟨i, zv, tyI_info hi, hz, litCV_R _⟩
    · cases h
  · cases h

/-! ### Maps -/
theorem keyEq_sound {d : TypeDesc} {x y : CV} {vx vy : Value} (hx : VR σ x vx) (hy : VR σ y vy) {b : Bool} (h : keyEq x y = some b)
    (hd : (∃ kd k a, d = .int kd ∧ x = .int k a) ∨ (d = .string ∧ ∃ l m, x = .str l m) ∨ (d = .bool ∧ ∃ a, x = .bool a) ∨ (∃ e, d = .pointer e) ∧ ∃ a o, x = .ptr a o) : Instr.sameNow d vx vy = some b := by
  unfold keyEq at h
  split at h
  · rename_i k a j c
    obtain ⟨h1, h2⟩ := cbif h
    have := Nat.eq_of_beq_eq_true h1; subst this
    cases h2
    simp only [VR] at hx hy; subst hx; subst hy
    rcases hd with ⟨kd, _, _, rfl, _⟩ | ⟨_, _, _, hc⟩ | ⟨_, _, hc⟩ | ⟨_, _, _, hc⟩
    · simp [Instr.sameNow, ibq_iff]
    · cases hc
    · cases hc
    · cases hc
  · simp only [VR] at hx hy; subst hx; subst hy; cases h
    rcases hd with ⟨kd, _, _, rfl, hc⟩ | ⟨_, _, _, hc⟩ | ⟨rfl, _, hc⟩ | ⟨_, _, _, hc⟩
    · cases hc
    · cases hc
    · simp [Instr.sameNow, bbq_eq]
    · cases hc
  · rename_i l m l' m'
    simp only [VR] at hx hy; subst hx; subst hy; cases h
    rcases hd with ⟨kd, _, _, rfl, hc⟩ | ⟨rfl, _, _, hc⟩ | ⟨rfl, _, hc⟩ | ⟨_, _, _, hc⟩
    · cases hc
    · simp only [Instr.sameNow]; rw [beq_toListBytes, ba_toList, ba_toList, bys_beq]
    · cases hc
    · cases hc
  · cases h
def KeyD (d : TypeDesc) (x : CV) : Prop := (∃ kd k a, d = .int kd ∧ x = .int k a) ∨ (d = .string ∧ ∃ l m, x = .str l m) ∨ (d = .bool ∧ ∃ a, x = .bool a) ∨ (∃ e, d = .pointer e) ∧ ∃ a o, x = .ptr a o
theorem keyKind_spec {t : Nat} {x : CV} (h : keyKind P t x = true) : ∃ d, P.underlying t = some d ∧ KeyD d x := by
  unfold keyKind at h
  split at h
  · rename_i hd; exact ⟨_, tyD_und hd, .inl ⟨_, _, _, rfl, rfl⟩⟩
  · rename_i hd; exact ⟨_, tyD_und hd, .inr (.inl ⟨rfl, _, _, rfl⟩)⟩
  · rename_i hd; exact ⟨_, tyD_und hd, .inr (.inr (.inl ⟨rfl, _, rfl⟩))⟩
  · rename_i hd; exact ⟨_, tyD_und hd, .inr (.inr (.inr ⟨⟨_, rfl⟩, _, _, rfl⟩))⟩
  · cases h
theorem checkKey_ok {b : Bool} {kt : TypeId} {d : TypeDesc} {x : CV} (hk : P.underlying kt = some d) (hd : KeyD d x) (v : Value) (w : World) : (Instr.checkKey b 10000 kt v).run P w = .ok () w := by
  rw [show (10000 : Nat) = 9999 + 1 from rfl, Instr.checkKey]
  rcases hd with ⟨_, _, _, rfl, _⟩ | ⟨rfl, _⟩ | ⟨rfl, _⟩ | ⟨⟨_, rfl⟩, _⟩ <;> simp [run_underlying hk]
def Same2 (σ : Sg) : Option (Nat × CV) → Option (Nat × Value) → Prop
  | none, none => True
  | some (j, v), some (j', v') => j = j' ∧ VR σ v v'
  | _, _ => False
theorem findE_sound {d : TypeDesc} {x : CV} {vx : Value} (hx : VR σ x vx) (hd : KeyD d x) : ∀ {es : List Ent} {ms : List MapEntry} {i : Nat} {r : Option (Nat × CV)}, EntsR σ es ms → findE x es i = some r →
    ∃ r', Instr.findNow d vx ms i = some r' ∧ Same2 σ r r'
  | [], ms, i, r, he, h => by cases he; cases h; exact ⟨none, rfl, trivial⟩
  | e :: es, ms, i, r, he, h => by
    unfold EntsR at he
    obtain ⟨m, ns, rfl, h1, h2, h3, h4⟩ := he
    unfold findE at h
    split at h
    · rename_i hk
      cases h
      exact ⟨some (i, m.val), by unfold Instr.findNow; rw [keyEq_sound hx h1 hk hd], rfl, h2⟩
    · rename_i hk
      obtain ⟨r', g1, g2⟩ := findE_sound hx hd h4 h
      exact ⟨r', by unfold Instr.findNow; rw [keyEq_sound hx h1 hk hd]; exact g1, g2⟩
    · cases h
theorem EntsR.len : ∀ {es : List Ent} {ms : List MapEntry}, EntsR σ es ms → es.length = ms.length
  | [], _, h => by cases h; rfl
  | e :: es, _, h => by unfold EntsR at h; obtain ⟨m, ns, rfl, _, _, _, h4⟩ := h; simp [EntsR.len h4]
theorem findKey_run {kt : TypeId} {d : TypeDesc} (hk : P.underlying kt = some d) {v : Value} {ms : List MapEntry} {r : Option (Nat × Value)} (h : Instr.findNow d v ms 0 = some r) (w : World) : (Instr.findKey kt v ms).run P w = .ok r w := by
  simp [Instr.findKey, run_underlying hk, h]
theorem entsOf_sound (hR : Rel w0 σ hp n w) {x : CV} {vx : Value} (hx : VR σ x vx) {es : List Ent} (h : entsOf hp x = some es) :
    ∃ ms : List MapEntry, EntsR σ es ms ∧ ((vx = .map none ∧ ms = []) ∨ ∃ b c, vx = .map (some b) ∧ w.heap[b]? = some (.map ms.toArray c)) := by
  unfold entsOf at h
  split at h
  · simp only [VR] at hx; cases h
    exact ⟨[], rfl, .inl ⟨hx, rfl⟩⟩
  · rename_i b; simp only [VR] at hx
    obtain ⟨p, u, hs, hv⟩ := hx
    split at h
    · rename_i es c hb
      cases h
      obtain ⟨ms, g1, g2⟩ := hR.at hs hb (by simp)
      exact ⟨ms, g1, .inr ⟨p, c, hv, g2⟩⟩
    · cases h
  · cases h
theorem lookup_run {t kt et : TypeId} (ht : P.underlying t = some (.map kt et)) {vx vi : Value} {ms : List MapEntry} (he : (vx = .map none ∧ ms = []) ∨ ∃ b c, vx = .map (some b) ∧ w.heap[b]? = some (.map ms.toArray c))
    (hck : ∀ b, (Instr.checkKey b 10000 kt vi).run P w = .ok () w) {r : Option (Nat × Value)} (hf : (Instr.findKey kt vi ms).run P w = .ok r w) (ok : Bool) :
    (∀ j v, r = some (j, v) → (Instr.lookup t vx vi ok).run P w = .ok (if ok then .tuple #[v, .bool true] else v) w) ∧
    (r = none → ∀ z, (zeroValue et).run P w = .ok z w → (Instr.lookup t vx vi ok).run P w = .ok (if ok then .tuple #[z, .bool false] else z) w) := by
  rcases he with ⟨rfl, rfl⟩ | ⟨b, c, rfl, hb⟩
  · constructor
    · rintro j v rfl; simp [Instr.lookup, run_underlying ht, hck, hf]
    · rintro rfl z hz; simp [Instr.lookup, run_underlying ht, hck, hf, hz]
  · have hg : (getObj b).run P w = .ok (.map ms.toArray c) w := by simp [getObj, Sem.run, hb]
    constructor
    · rintro j v rfl; simp [Instr.lookup, run_underlying ht, hck, hf, hg]
    · rintro rfl z hz; simp [Instr.lookup, run_underlying ht, hck, hf, hg, hz]
theorem VR_ok {ok : Bool} {c : CV} {v : Value} (b : Bool) (h : VR σ c v) : VR σ (bif ok then .tup [c, .bool b] else c) (if ok then .tuple #[v, .bool b] else v) := by
  cases ok
  · simpa using h
  · simp only [cond_true, if_true, VR, VRs]; exact ⟨_, ⟨_, _, rfl, h, _, _, rfl, rfl, rfl⟩, rfl⟩
theorem q_look (hR : Rel w0 σ hp n w) (hL : ∀ x, VR σ (lk fr x) (ev x)) {t : Nat} {x ix : Operand} {ok : Bool} (h : Good (qLook P fr hp t x ix ok k) φ) : QR P σ w (Instr.lookup t (ev x) (ev ix) ok) k φ := by
  unfold qLook at h
  split at h
  · rename_i kt et ht
    obtain ⟨hkk, h2⟩ := h.bif
    clear h
    have ht := tyD_und ht
    obtain ⟨d, hk, hd⟩ := keyKind_spec hkk
    split at h2
    · rename_i es hes
      obtain ⟨ms, g1, g2⟩ := entsOf_sound hR (hL x) hes
      split at h2
      · rename_i j v hf
        obtain ⟨r', g3, g4⟩ := findE_sound (hL ix) hd g1 hf
        cases r' with
        | none => exact g4.elim
        | some p =>
          obtain ⟨j', mv⟩ := p
          exact ⟨_, _, (lookup_run ht g2 (fun b => checkKey_ok hk hd _ w) (findKey_run hk g3 w) ok).1 _ _ rfl, VR_ok true g4.2, h2⟩
      · rename_i hf
        obtain ⟨r', g3, g4⟩ := findE_sound (hL ix) hd g1 hf
        cases r' with
        | some p => exact g4.elim
        | none =>
          split at h2
          · rename_i v hz
            obtain ⟨i, zv, z1, z2, z3⟩ := zeroV_spec hz
            exact ⟨_, _, (lookup_run ht g2 (fun b => checkKey_ok hk hd _ w) (findKey_run hk g3 w) ok).2 rfl _ (zeroValue_run z1 z2 w), VR_ok false z3, h2⟩
          · exact h2.no.elim
      · exact h2.no.elim
    · exact h2.no.elim
  · exact h.no.elim

/-! ### Builtins -/
theorem q_len (hR : Rel w0 σ hp n w) {x : CV} {vx : Value} (hx : VR σ x vx) {t ty : Nat} {ts : Array Nat} (h0 : ts[0]? = some t) (h : Good (qLen P hp x t k) φ) : QR P σ w (Builtin.len_ ts ty #[vx]) k φ := by
  unfold qLen at h
  split at h
  · rename_i l m hd; simp only [VR] at hx; subst hx
    have hz : (⟨(bys l m).toArray⟩ : ByteArray).size = l := by simp [ByteArray.size, bys_len]
    exact ⟨_, .int .i64 l, by simp [Builtin.len_, h0, run_underlying (tyD_und hd), goInt, hz], by simp only [VR]; rfl, h⟩
  · rename_i e hd; simp only [VR] at hx; subst hx
    exact ⟨_, .int .i64 0, by simp [Builtin.len_, h0, run_underlying (tyD_und hd), goInt], by simp only [VR]; rfl, h⟩
  · rename_i e b o s l kk ex hd; simp only [VR] at hx; obtain ⟨_, _, _, _, _, rfl, _⟩ := hx
    exact ⟨_, .int .i64 l, by simp [Builtin.len_, h0, run_underlying (tyD_und hd), goInt], by simp only [VR]; rfl, h⟩
  · rename_i kt e hd; simp only [VR] at hx; subst hx
    exact ⟨_, .int .i64 0, by simp [Builtin.len_, h0, run_underlying (tyD_und hd), goInt], by simp only [VR]; rfl, h⟩
  · rename_i kt e b hd; simp only [VR] at hx; obtain ⟨p, u, hs, rfl⟩ := hx
    split at h
    · rename_i es c hb
      obtain ⟨ms, g1, g2⟩ := hR.at hs hb (by simp)
      have hg : (getObj p).run P w = .ok (.map ms.toArray c) w := by simp [getObj, Sem.run, g2]
      exact ⟨_, .int .i64 es.length, by simp [Builtin.len_, h0, run_underlying (tyD_und hd), goInt, hg, g1.len], by simp only [VR]; rfl, h⟩
    · exact h.no.elim
  · rename_i m e hd
    exact ⟨_, .int .i64 m, by simp [Builtin.len_, h0, run_underlying (tyD_und hd), goInt], by simp only [VR]; rfl, h⟩
  · exact h.no.elim
theorem q_cap {x : CV} {vx : Value} (hx : VR σ x vx) {t ty : Nat} {ts : Array Nat} (h0 : ts[0]? = some t) (h : Good (qCap P x t k) φ) : QR P σ w (Builtin.cap_ ts ty #[vx]) k φ := by
  unfold qCap at h
  split at h
  · rename_i e hd; simp only [VR] at hx; subst hx
    exact ⟨_, .int .i64 0, by simp [Builtin.cap_, h0, run_underlying (tyD_und hd), goInt], by simp only [VR]; rfl, h⟩
  · rename_i e b o s l c hd; simp only [VR] at hx; obtain ⟨_, _, _, cc, _, rfl, _, _, hex, _⟩ := hx
    have := hex trivial; subst this
    exact ⟨_, .int .i64 cc, by simp [Builtin.cap_, h0, run_underlying (tyD_und hd), goInt], by simp only [VR]; rfl, h⟩
  · exact h.no.elim
theorem q_max {x y : CV} {vx vy : Value} (hx : VR σ x vx) (hy : VR σ y vy) {ty : Nat} {ts : Array Nat} (h : Good (qMinMax true x y k) φ) : QR P σ w (Builtin.max_ ts ty #[vx, vy]) k φ := by
  unfold qMinMax at h
  split at h
  · rename_i kd a kd' b
    obtain ⟨_, h2⟩ := h.bif
    simp only [VR] at hx hy; subst hx; subst hy
    exact ⟨_, .int (kc kd) (if b > a then b else a), by simp [Builtin.max_, Builtin.max2], by simp only [VR, cond_true], h2⟩
  · exact h.no.elim
theorem q_min {x y : CV} {vx vy : Value} (hx : VR σ x vx) (hy : VR σ y vy) {ty : Nat} {ts : Array Nat} (h : Good (qMinMax false x y k) φ) : QR P σ w (Builtin.min_ ts ty #[vx, vy]) k φ := by
  unfold qMinMax at h
  split at h
  · rename_i kd a kd' b
    obtain ⟨_, h2⟩ := h.bif
    simp only [VR] at hx hy; subst hx; subst hy
    exact ⟨_, .int (kc kd) (if b < a then b else a), by simp [Builtin.min_, Builtin.min2], by simp only [VR, cond_false], h2⟩
  · exact h.no.elim
theorem args_of {c : Call} {l : List Operand} (h : c.args.toList = l) : c.args.map ev = (l.map ev).toArray := by rw [amap, h]
theorem q_callB (hR : Rel w0 σ hp n w) (hL : ∀ x, VR σ (lk fr x) (ev x)) {c : Call} {b : Builtin} {ty : Nat} (h : Good (qCallB P fr hp b c.args.toList c.argTypes.toList k) φ) {consts : Array Bool} :
    ∃ cv v, (builtin b c.argTypes ty consts (c.args.map ev)).run P w = .ok (.value v) w ∧ VR σ cv v ∧ Good (k cv) φ := by
  unfold qCallB at h
  split at h
  · rename_i x t ts ha ht
    have h0 : c.argTypes[0]? = some t := by rw [← Array.getElem?_toList, ht]; rfl
    obtain ⟨cv, v, g1, g2, g3⟩ := q_len (ty := ty) hR (hL x) h0 h
    refine ⟨cv, v, ?_, g2, g3⟩
    rw [args_of ha]
    exact run_v g1
  · rename_i x t ts ha ht
    have h0 : c.argTypes[0]? = some t := by rw [← Array.getElem?_toList, ht]; rfl
    obtain ⟨cv, v, g1, g2, g3⟩ := q_cap (P := P) (w := w) (ty := ty) (hL x) h0 h
    refine ⟨cv, v, ?_, g2, g3⟩
    rw [args_of ha]
    exact run_v g1
  · rename_i x y ha
    obtain ⟨cv, v, g1, g2, g3⟩ := q_max (P := P) (w := w) (ty := ty) (ts := c.argTypes) (hL x) (hL y) h
    refine ⟨cv, v, ?_, g2, g3⟩
    rw [args_of ha]
    exact run_v g1
  · rename_i x y ha
    obtain ⟨cv, v, g1, g2, g3⟩ := q_min (P := P) (w := w) (ty := ty) (ts := c.argTypes) (hL x) (hL y) h
    refine ⟨cv, v, ?_, g2, g3⟩
    rw [args_of ha]
    exact run_v g1
  · exact h.no.elim

/-! ### Structs -/
theorem foldl_put (off : Nat) : ∀ (vs : List Value) (k : Nat) (cs : Array Value), off + k + vs.length ≤ cs.size →
    ((vs.zipIdx k).foldl (fun cs (p : Value × Nat) => cs.setIfInBounds (off + p.2) p.1) cs).toList = cs.toList.take (off + k) ++ vs ++ cs.toList.drop (off + k + vs.length)
  | [], k, cs, h => by simp
  | v :: vs, k, cs, h => by
    simp only [List.zipIdx_cons, List.foldl_cons]
    rw [foldl_put off vs (k + 1) _ (by simp at h ⊢; omega)]
    simp only [Array.toList_setIfInBounds, List.length_cons]
    simp only [List.length_cons] at h
    have hlt : off + k < cs.toList.length := by simp; omega
    apply List.ext_getElem?
    intro i
    simp only [List.getElem?_append, List.length_take, List.length_append, List.length_set, List.getElem?_take, List.getElem?_drop, List.length_cons, Array.length_toList]
    have hsz : (off + (k + 1)) ≤ cs.size := by omega
    rw [Nat.min_eq_left hsz, Nat.min_eq_left (show off + k ≤ cs.size by omega)]
    by_cases h1 : i < off + k
    · rw [if_pos (show i < off + (k + 1) + vs.length by omega), if_pos (show i < off + (k + 1) by omega), if_pos (show i < off + (k + 1) by omega), if_pos (show i < off + k + (vs.length + 1) by omega), if_pos h1, if_pos h1]
      rw [List.getElem?_set_ne (by omega)]
    · by_cases h2 : i = off + k
      · subst h2
        rw [if_pos (show off + k < off + (k + 1) + vs.length by omega), if_pos (show off + k < off + (k + 1) by omega), if_pos (show off + k < off + (k + 1) by omega), if_pos (show off + k < off + k + (vs.length + 1) by omega), if_neg h1]
        rw [List.getElem?_set_self (by simpa using hlt)]
        simp
      · by_cases h3 : i < off + (k + 1) + vs.length
        · rw [if_pos h3, if_neg (show ¬ i < off + (k + 1) by omega), if_pos (show i < off + k + (vs.length + 1) by omega), if_neg h1]
          rw [show i - (off + k) = (i - (off + (k + 1))) + 1 by omega, List.getElem?_cons_succ]
        · rw [if_neg h3, if_neg (show ¬ i < off + k + (vs.length + 1) by omega)]
          rw [List.getElem?_set_ne (by omega)]
          congr 1; omega
theorem fillC_sound (hL : ∀ x, VR σ (lk fr x) (ev x)) {place : Nat → Option (Nat × Nat)} : ∀ (parts : List (Nat × Operand)) (cs r : List CV) (vs : List Value), VRs σ cs vs → fillC place fr parts cs = some r →
    ∃ ws, Instr.fill place vs.toArray (parts.map fun (i, x) => (i, ev x)) = some ws.toArray ∧ VRs σ r ws
  | [], cs, r, vs, hv, h => by cases h; exact ⟨vs, rfl, hv⟩
  | (i, x) :: rest, cs, r, vs, hv, h => by
    unfold fillC at h
    split at h
    · rename_i off size hpl
      obtain ⟨h1, h4⟩ := cbif h
      have hj : lk fr x ≠ .junk := by intro e; rw [e] at h1; cases h1
      have h1 : (cellsOf (lk fr x)).length = size := by
        split at h1
        · cases h1
        · exact Nat.eq_of_beq_eq_true h1
      have hc := cells_VR hj (hL x)
      split at h4
      · rename_i cs' hov
        obtain ⟨g1, g2⟩ := VRs.put hc hv hov
        obtain ⟨ws, f1, f2⟩ := fillC_sound hL rest cs' r _ g1 h4
        refine ⟨ws, ?_, f2⟩
        have hsz : (ev x).cells.size = size := by rw [← Array.length_toList, ← hc.len, h1]
        simp only [List.map_cons, Instr.fill, hpl]
        rw [if_neg (by rw [hsz]; simp only [Array.length_toList, hsz] at g2; simp; omega)]
        rw [← f1]
        congr 1
        apply Array.ext'
        rw [← Array.foldl_toList, Array.toList_zipIdx]
        have := foldl_put off (ev x).cells.toList 0 vs.toArray (by simp only [List.size_toArray, Array.length_toList] at g2 ⊢; omega)
        simpa using this
      · cases h4
    · cases h
theorem places_of : ∀ (fs : List Field), allSz P fs = true → ∃ places, fs.mapM (fun f => (P.info? f.type).map fun i => (f.offset, i.size)) = some places ∧ ∀ i : Nat, places[i]? = stPlace P fs i
  | [], _ => ⟨[], rfl, by intro i; simp [stPlace, nthL]⟩
  | f :: fs, h => by
    unfold allSz at h
    split at h
    · rename_i n hn
      obtain ⟨pl, h1, h2⟩ := places_of fs h
      obtain ⟨i, hi, rfl⟩ := tySz_info hn
      refine ⟨(f.offset, i.size) :: pl, by simp [List.mapM_cons, hi, h1], ?_⟩
      intro j
      cases j with
      | zero => simp [stPlace, nthL, hn]
      | succ j => simp only [List.getElem?_cons_succ]; rw [h2 j]; rfl
    · cases h
theorem q_build (hL : ∀ x, VR σ (lk fr x) (ev x)) {t : Nat} {parts : Array (Nat × Operand)} (h : Good (qBuild P fr t parts k) φ) : QR P σ w (Instr.build t (parts.map fun (i, x) => (i, ev x))) k φ := by
  unfold qBuild at h
  have hparts : (parts.map fun (i, x) => (i, ev x)).toList = parts.toList.map fun (i, x) => (i, ev x) := by simp
  split at h
  · rename_i z hz
    obtain ⟨i, zv, z1, z2, z3⟩ := zeroC_spec (σ := σ) hz
    split at h
    · rename_i fs hd
      have hu := tyD_und hd
      obtain ⟨ha, h2⟩ := h.bif
      clear h
      split at h2
      · rename_i cs hcs
        obtain ⟨pl, p1, p2⟩ := places_of fs.toList ha
        obtain ⟨ws, f1, f2⟩ := fillC_sound hL _ _ _ _ z3 hcs
        refine ⟨_, .agg ws.toArray, run_build w t _ _ ?_, by simp only [VR]; exact ⟨ws, f2, rfl⟩, h2⟩
        unfold Program.built
        rw [z1, hu]
        simp only [z2, p1, hparts]
        have e1 : (fun x : Nat => pl.toArray[x]?) = stPlace P fs.toList := by
          funext x; simp only [List.getElem?_toArray]; exact p2 x
        rw [e1]
        simpa using f1
      · exact h2.no.elim
    · rename_i m e hd
      have hu := tyD_und hd
      split at h
      · rename_i s hs
        split at h
        · rename_i cs hcs
          obtain ⟨ws, f1, f2⟩ := fillC_sound hL _ _ _ _ z3 hcs
          refine ⟨_, .agg ws.toArray, run_build w t _ _ ?_, by simp only [VR]; exact ⟨ws, f2, rfl⟩, h⟩
          obtain ⟨ie, hie, rfl⟩ := tySz_info hs
          unfold Program.built
          rw [z1, hu]
          simp only [z2, hie, hparts]
          simpa using f1
        · exact h.no.elim
      · exact h.no.elim
    · exact h.no.elim
  · exact h.no.elim

/-! ### Assertions -/
theorem VR_nilI {v : Value} (h : VR σ .nili v) : v = .nilIface := by simpa only [VR] using h
theorem q_assert (hL : ∀ x, VR σ (lk fr x) (ev x)) {t xt : Nat} {x : Operand} {ok : Bool} (h : Good (qAssert P fr x xt t ok k) φ) : QR P σ w (Instr.typeAssert (ev x) xt t ok) k φ := by
  unfold qAssert at h
  have hx := hL x
  have zero : ∀ {v : CV}, zeroV P t = some v → ∃ zv, (zeroValue t).run P w = .ok zv w ∧ VR σ (.tup [v, .bool false]) (.tuple #[zv, .bool false]) := fun hz => by
    obtain ⟨i, zv, z1, z2, z3⟩ := zeroV_spec (σ := σ) hz
    exact ⟨zv, zeroValue_run z1 z2 w, VR_ok (ok := true) false z3⟩
  split at h
  · rename_i want hd
    have hu := tyD_und hd
    split at h
    · rename_i d v e; rw [e] at hx
      have hx' := hx
      simp only [VR] at hx; obtain ⟨y, hy, hv⟩ := hx
      split at h
      · rename_i i hi
        have hi := tyI_info hi
        split at h
        · rename_i hm
          refine ⟨_, _, ?_, VR_ok (ok := ok) true hx', h⟩
          rw [hv]; simp [Instr.typeAssert, run_underlying hu, typeInfo, hi, hm]
        · rename_i m hm
          obtain ⟨hok, h2⟩ := h.bif
          clear h
          subst hok
          split at h2
          · rename_i z hz
            obtain ⟨zv, r1, r2⟩ := zero hz
            refine ⟨_, _, ?_, r2, h2⟩
            rw [hv]; simp [Instr.typeAssert, run_underlying hu, typeInfo, hi, hm, r1]
          · exact h2.no.elim
      · exact h.no.elim
    · rename_i e; rw [e] at hx; have hv := VR_nilI hx
      obtain ⟨hok, h2⟩ := h.bif
      clear h
      subst hok
      split at h2
      · rename_i z hz
        obtain ⟨zv, r1, r2⟩ := zero hz
        refine ⟨_, _, ?_, r2, h2⟩
        rw [hv]; simp [Instr.typeAssert, run_underlying hu, r1]
      · exact h2.no.elim
    · exact h.no.elim
  · rename_i d hni hd
    have hu := tyD_und hd
    split at h
    · rename_i u v e; rw [e] at hx
      simp only [VR] at hx; obtain ⟨y, hy, hv⟩ := hx
      have e0 : (Instr.typeAssert (ev x) xt t ok).run P w = (if u = t then (pure (if ok then .tuple #[y, .bool true] else y) : Sem Value).run P w else (do if ok then pure (.tuple #[← zeroValue t, .bool false]) else runtimePanic (.typeAssertion (some xt) (some u) t "") : Sem Value).run P w) := by
        rw [hv]
        cases d <;> first | exact (hni _ rfl).elim | (by_cases hut : u = t <;> simp [Instr.typeAssert, run_underlying hu, hut])
      cases hq : Nat.beq u t
      · rw [hq] at h; simp only [cond_false] at h
        have hne : u ≠ t := fun e => by rw [e, Nat.beq_refl] at hq; cases hq
        obtain ⟨hok, h2⟩ := h.bif
        clear h
        subst hok
        split at h2
        · rename_i z hz
          obtain ⟨zv, r1, r2⟩ := zero hz
          refine ⟨_, _, ?_, r2, h2⟩
          rw [e0, if_neg hne]; simp [r1]
        · exact h2.no.elim
      · rw [hq] at h; simp only [cond_true] at h
        have := Nat.eq_of_beq_eq_true hq
        refine ⟨_, _, ?_, VR_ok (ok := ok) true hy, h⟩
        rw [e0, if_pos this]; rfl
    · rename_i e; rw [e] at hx; have hv := VR_nilI hx
      obtain ⟨hok, h2⟩ := h.bif
      clear h
      subst hok
      split at h2
      · rename_i z hz
        obtain ⟨zv, r1, r2⟩ := zero hz
        refine ⟨_, _, ?_, r2, h2⟩
        rw [hv]
        cases d <;> first | exact (hni _ rfl).elim | simp [Instr.typeAssert, run_underlying hu, r1]
      · exact h2.no.elim
    · exact h.no.elim
  · exact h.no.elim

/-! ### The whole -/
theorem findM_eq (name : String) : ∀ l : List Method, findM name l = l.find? (fun m => m.name == name)
  | [] => rfl
  | m :: l => by
    unfold findM
    rw [List.find?_cons, findM_eq name l]
    cases m.name == name <;> rfl
theorem nilAhead_run {t f : Nat} {name : String} (h : methodAt P t name = some f) (v : Value) (w : World) : (nilAhead (P.types.size + Made.depth) t v name).run P w = .ok (some false) w := by
  unfold methodAt at h
  split at h
  · rename_i i hi
    have hsz : 0 < P.types.size := by
      unfold tyI at hi
      rw [look_eq, Array.getElem?_toList] at hi
      have := (Array.getElem?_eq_some_iff.1 hi).1; omega
    obtain ⟨fu, hfu⟩ : ∃ fu, P.types.size + Made.depth = fu + 1 := ⟨P.types.size + Made.depth - 1, by omega⟩
    rw [hfu]
    have hi := tyI_info hi
    rw [findM_eq, Array.find?_toList] at h
    split at h
    · rename_i m hm
      split at h
      · rename_i f' e hp hf ht
        simp [nilAhead, typeInfo, hi, hm, hp, followBlind, hf]
      · cases h
      · rename_i f' d hd hp hf ht
        have hu := tyD_und ht
        cases d <;> first | exact (hd _ rfl).elim | exact (hd _ _ rfl).elim | exact (hd _ _ hf rfl).elim | simp [nilAhead, typeInfo, hi, hm, hp, followBlind, hf, run_underlying hu]
      · cases h
    · cases h
  · cases h
theorem qev_sound (hR : Rel w0 σ hp n w) (hL : ∀ x, VR σ (lk fr x) (ev x)) {o : Oper} (h : Good (qev P fr hp o.op k) φ) :
    ∃ c v, (execOp ev o).run P w = .ok (.value v) w ∧ VR σ c v ∧ Good (k c) φ := by
  have fin : ∀ {s : Sem Value}, QR P σ w s k φ → ∃ c v, (do pure (Next.value (← s)) : Sem Next).run P w = .ok (.value v) w ∧ VR σ c v ∧ Good (k c) φ :=
    fun ⟨c, v, h1, h2, h3⟩ => ⟨c, v, run_v h1, h2, h3⟩
  unfold execOp
  generalize ho : o.op = op at h ⊢
  unfold qev at h
  split at h
  · exact ⟨_, _, rfl, hL _, h⟩
  · exact ⟨_, _, rfl, hL _, h⟩
  · exact q_pick hL h
  · exact fin (q_load hR hL h)
  · rename_i x
    unfold qNil at h
    have hx := hL x
    split at h
    · exact h.no.elim
    · exact h.no.elim
    · exact h.no.elim
    · exact h.no.elim
    · rename_i name v he
      split at h
      · rename_i t u
        split at h
        · rename_i f hm
          refine ⟨_, ev x, ?_, ?_, h⟩
          · rw [he] at hx; simp only [VR] at hx
            obtain ⟨y, ⟨z, hz, rfl⟩, hv⟩ := hx
            have hn := fun w => nilAhead_run hm z w
            simp only [hv]
            have e0 : (#[Value.iface t z] : Array Value)[0]? = some (Value.iface t z) := rfl
            simp only [e0]
            simp [Sem.run_bind, run_program, hn]
          · rw [he] at hx; exact hx
        · exact h.no.elim
      · exact h.no.elim
    · rename_i n1 n2 n3 n4 n5
      refine ⟨_, ev x, ?_, hx, h⟩
      simp only
      have key : ∀ v : Value, VR σ (lk fr x) v → ((match v with
        | .pointer none | .nilIface | .nilFunc => runtimePanic .nilDeref
        | .func (.method name) first captured =>
          match (first[0]? : Option Value) with
          | some .nilIface => runtimePanic .nilDeref
          | some (.iface t w) => do
            if (← nilAhead ((← program).types.size + Made.depth) t w name) != some false then
              unsupported (.noEntry "op/nilCheck.the method's receiver behind this interface value is a nil pointer, or cannot be seen to be none, and the arguments act or may panic (ledger 612)")
            pure (.value (.func (.method name) first captured))
          | _ => pure (.value (.func (.method name) first captured))
        | x => pure (.value x) : Sem Next)).run P w = .ok (.value v) w := by
        intro v hx
        cases hc : lk fr x <;> rw [hc] at hx <;> simp only [VR] at hx
        all_goals first
          | exact absurd hc n1 | exact absurd hc n2 | exact absurd hc n3 | exact absurd hc n4 | exact absurd hc (n5 _ _)
          | (subst hx; rfl) | (obtain ⟨_, _, _, _, _, rfl, _⟩ := hx; rfl) | (obtain ⟨_, _, _, _, rfl⟩ := hx; rfl) | (obtain ⟨_, _, _, rfl⟩ := hx; rfl) | (obtain ⟨_, _, rfl⟩ := hx; rfl)
      exact key (ev x) hx
  · exact fin (q_bin hR hL h)
  · exact fin (q_un hL h)
  · exact fin (q_conv hR hL h)
  · exact fin (q_makeI hL h)
  · exact fin (q_makeF hL h)
  · exact fin (q_slice hR hL h)
  · exact fin (q_fieldA hL h)
  · exact fin (q_field hL h)
  · exact fin (q_indexA hL h)
  · exact fin (q_index hL h)
  · exact fin (q_look hR hL h)
  · exact fin (q_assert hL h)
  · exact fin (q_extract hL h)
  · exact fin (q_build hL h)
  · rename_i c
    unfold qCall at h
    split at h
    · rename_i b hb
      obtain ⟨cv, v, g1, g2, g3⟩ := q_callB (ty := o.type) hR hL h (consts := c.args.map fun | .const _ => true | _ => false)
      refine ⟨cv, v, ?_, g2, g3⟩
      simp only [resolve, hb]
      exact g1
    · exact h.no.elim
  · exact h.no.elim
end
end Go.Cx
