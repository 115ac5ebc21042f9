/- Part of a proof. -/
import Derived.Test.YtlmkcakhhbckhaaGreatDoorPe6
import Derived.RangeFuncIn
import Derived.RangeFuncLeaves
import Derived.RangeFuncRecord
import Derived.OrdersIn
import Derived.Test.YtlmkcakhhbckhaaGreatDoorPe5
set_option linter.unusedSimpArgs false
set_option linter.unusedVariables false
set_option maxRecDepth 20000
namespace Go.Cx
open Go.RowKit (Below)
theorem Zpa {a b : Nat} (h : Nat.ble a b = false) : ¬ (a <= b) := fun e => by have := Nat.ble_eq.symm ▸ e; rw [this] at h; cases h
section
variable {P : Program} {w0 : World} {σ : Sg} {hp : H} {n : Nat} {w : World} {fr : F} {ev : Operand -> Value} {k : KS} {φ : Out -> Prop}
theorem Zck (hR : Rel w0 σ hp n w) {b o p t : Nat} {e : Els} {vs : List Value} {hp' : H} (h : ZfF hp b o e = some hp') (hs : σ b = some (p, t)) (hv : Zl5 σ e vs) (hfit : o + vs.length <= t) :
  ∃ w', (storeCells ⟨p, o, none⟩ vs).run P w = .ok () w' /\ Rel w0 σ hp' n w' := by
 unfold ZfF at h
 split at h
 ·rename_i l
  split at h
  ·rename_i old hc
   obtain ⟨ha, h⟩ := Zbt h
   split at h
   ·rename_i new hn
    cases h
    obtain ⟨ws, h1, h2⟩ := hR.at hs hc (by simp)
    obtain ⟨g1, g2⟩ := VRs.over hv h1 hn
    obtain ⟨w', r1, r2, r3, r4, r5, r6, r7⟩ := h2.write (P := P) (o := o) (new := vs) g2 hfit (Zbn hv ha)
    exact ⟨w', r1, hR.upd hs (by rw [hc]; simp) r3 r4 r5 r6 r7 ⟨_, g1, r2⟩⟩
   ·cases h
  ·cases h
 ·rename_i l x
  split at h
  ·rename_i k y hc
   obtain ⟨ho, h⟩ := Zbt h
   have ho := ZJA ho
   have hv : vs = (bys l x).map ZdF := hv
   have hvl : vs.length = l := by rw [hv]; simp [Zp]
   obtain ⟨h2, hT⟩ : Row w p t ((bys k y).map ZdF) true /\ ZrJ w p u8T := hR.at hs hc (by simp)
   obtain ⟨w', r1, r2, r3, r4, r5, r6, r7, r8⟩ := h2.write' (P := P) (o := o) (new := vs) (by simp [Zp]; omega) hfit (by rw [hv]; exact ZiN _)
   cases hol : Nat.ble (o + l) k
   ·rw [hol] at h; cases h
    have hol : ¬ (o + l <= k) := Zpa hol
    refine ⟨w', r1, hR.upd hs (by rw [hc]; simp) r3 r4 r5 r6 r7 ⟨?_, r8 _ hT⟩⟩
    show Row w' p t ((bys (o + l) (ZjM o y (x % pw l))).map ZdF) true
    rw [<- ZeH, ZbU, ZJD, <- hv]
    rw [List.drop_eq_nil_of_le (by simp [Zp]; omega), List.append_nil, <- List.map_take, Zd1 _ _ _ ho] at r2
    exact r2
   ·rw [hol] at h; cases h
    have hol := ZJA hol
    refine ⟨w', r1, hR.upd hs (by rw [hc]; simp) r3 r4 r5 r6 r7 ⟨?_, r8 _ hT⟩⟩
    show Row w' p t ((bys k (ZDE y o l x k)).map ZdF) true
    rw [Zu2 _ _ _ _ _ hol, ZJD, ZJD, <- hv, List.map_take, List.map_drop]
    rw [hvl] at r2
    exact r2
  ·cases h
theorem ZoD {e : Nat} {i : TypeInfo} (h : elI P e = some i) : P.info? e = some i /\ 1 <= i.size /\ 1 <= i.bytes /\ (Zem P e = true -> i.size = 1) /\ ∃ zv, i.zero = some zv /\ zv.cells.size = i.size := by
 unfold elI at h
 split at h
 ·rename_i j hj
  obtain ⟨h1, h2⟩ := Zbt h
  split at h2
  ·rename_i z hz
   obtain ⟨h3, h4⟩ := Zbt h2
   cases h4
   have h3 := ZJo h3
   obtain ⟨i', zv, z1, z2, z3⟩ := Y1 (σ := fun _ => none) hz
   rw [YQ hj] at z1; cases z1
   cases q1 : Nat.ble 1 i.size
   ·rw [q1] at h1; cases h1
   rw [q1] at h1
   cases q2 : Nat.ble 1 i.bytes
   ·rw [q2] at h1; cases h1
   rw [q2] at h1
   refine ⟨YQ hj, ZJA q1, ZJA q2, fun hu => ?_, zv, z2, by rw [<- Array.length_toList, <- z3.len, h3]⟩
   rw [hu] at h1; exact ZJo h1
  ·cases h2
 ·cases h
theorem Zgz {a b : Els} {ck : Ck} {va vb : List Value} (h : ZhS a b = some ck) (ha : Zl5 σ a va) (hb : Zl5 σ b vb) : ∀ (τ : Sg), Le σ τ -> ∀ (w : World) (p t : Nat), Row w p t (va ++ vb) false -> ((∃ l x, a = .bs l x) -> ZrJ w p u8T) -> Y2 τ w p t ck := by
 intro τ hle w p t hr hty
 unfold ZhS at h
 split at h
 ·cases h
  exact ⟨_, (VRs.app ha hb).mono hle, hr⟩
 ·cases h
  have ha : va = _ := ha
  have hb : vb = _ := hb
  refine ⟨?_, hty ⟨_, _, rfl⟩⟩
  show Row w p t _ true
  rw [<- ZeH, ZJD, <- ha, <- hb]
  obtain ⟨arr, ty, lo, hi, q1, q2, q3, q4⟩ := hr
  refine ⟨arr, ty, lo, hi, q1, q2, q3, ?_⟩
  rcases q4 with q4 | ⟨q4, _⟩
  ·exact .inl q4
  ·cases q4
 ·cases h
theorem Zq9 {a b : Els} {ck : Ck} {va vb : List Value} {u8 : Bool} (h : ZhS a b = some ck) (ha : Zl5 σ a va) (hb : Zl5 σ b vb) (hu : (∃ l, a = .cs l) -> u8 = false) : ∀ (τ : Sg), Le σ τ -> ∀ (w : World) (p t : Nat), Row w p t (va ++ vb) u8 -> ((∃ l x, a = .bs l x) -> ZrJ w p u8T) -> Y2 τ w p t ck := by
 intro τ hle w p t hr hty
 unfold ZhS at h
 split at h
 ·cases h
  have := hu ⟨_, rfl⟩; subst this
  exact ⟨_, (VRs.app ha hb).mono hle, hr⟩
 ·cases h
  have ha : va = _ := ha
  have hb : vb = _ := hb
  refine ⟨?_, hty ⟨_, _, rfl⟩⟩
  show Row w p t _ true
  rw [<- ZeH, ZJD, <- ha, <- hb]
  obtain ⟨arr, ty, lo, hi, q1, q2, q3, q4⟩ := hr
  exact ⟨arr, ty, lo, hi, q1, q2, q3, q4.imp id (fun q => ⟨rfl, q.2⟩)⟩
 ·cases h
theorem ZrE {c : CV} {s m : Nat} {l : List CV} (h : Zho hp true s c m = some (.cs l)) : False := by
 unfold Zho at h
 split at h
 ·obtain ⟨_, h2⟩ := Zbt h; cases h2
 ·obtain ⟨_, h2⟩ := Zbt h; obtain ⟨_, h3⟩ := Zbt h2; cases h3
 ·obtain ⟨_, h2⟩ := Zbt h; obtain ⟨_, h3⟩ := Zbt h2
  cases hm : Nat.beq m 0
  ·rw [hm] at h3; simp only [cond_false, cond_true] at h3
   split at h3
   ·obtain ⟨_, h4⟩ := Zbt h3; cases h4
   ·cases h3
  ·rw [hm] at h3; cases h3
 ·cases h
theorem ZAD {c : CV} {u8 : Bool} {s m : Nat} {e : Els} (h : Zho hp u8 s c m = some e) : (∃ l, e = .cs l) -> u8 = false := by
 rintro ⟨l, rfl⟩
 cases u8
 ·rfl
 ·exact (ZrE h).elim
theorem Zjh {c : CV} {u8 : Bool} {s m : Nat} {e : Els} (h : Zho hp u8 s c m = some e) : (∃ l x, e = .bs l x) -> u8 = true := by
 rintro ⟨l, x, rfl⟩
 cases u8
 ·exfalso
  unfold Zho at h
  split at h
  ·obtain ⟨_, h2⟩ := Zbt h; cases h2
  ·cases h
  ·obtain ⟨_, h2⟩ := Zbt h; obtain ⟨_, h3⟩ := Zbt h2
   cases hm : Nat.beq m 0
   ·rw [hm] at h3; simp only [cond_false] at h3
    split at h3
    ·split at h3 <;> cases h3
    ·cases h3
   ·rw [hm] at h3; cases h3
  ·cases h
 ·rfl
theorem ZIJ (hR : Rel w0 σ hp n w) {b p t : Nat} (hs : σ b = some (p, t)) {u8 : Bool} (h : Zm8 u8 (ZL hp b) = true) : ∃ ws, Row w p t ws u8 := by
 unfold Zm8 at h
 split at h
 ·rename_i cs hc
  have : u8 = false := by simpa using h
  subst this
  obtain ⟨ws, _, g⟩ := hR.at hs hc (by simp)
  exact ⟨ws, g⟩
 ·rename_i l m hc
  subst h
  exact ⟨_, (hR.at hs hc (by simp)).1⟩
 ·cases h
theorem ZIZ (hR : Rel w0 σ hp n w) {b p t : Nat} (hs : σ b = some (p, t)) (h : Zm8 true (ZL hp b) = true) : ZrJ w p u8T := by
 unfold Zm8 at h
 split at h
 ·cases h
 ·rename_i l m hc
  exact (hR.at hs hc (by simp)).2
 ·cases h
theorem Zrz {e : Els} {vs : List Value} (h : Zse e = true) (hv : Zl5 σ e vs) : ∀ v ∈ vs, v.oneCell' = true := by
 cases e with
 | cs l => exact Zbn hv h
 | bs l m => have : vs = _ := hv; rw [this]; exact ZiN _
theorem Rel.chg (h : Rel w0 σ hp n w) {p : Nat} {w' : World} (hz : w'.heap.size = w.heap.size) (hb : ∀ k, k ≠ p -> w'.heap[k]? = w.heap[k]?) (ho : w'.os = w.os) (ht : w'.tape = w.tape) (hu : w'.output = w.output) (hp0 : w0.heap.size <= p)
  (hno : ∀ j q u, j < 32768 -> ZL hp j ≠ .no -> σ j = some (q, u) -> q ≠ p) : Rel w0 σ hp n w' :=
 ⟨fun i hi hc => let ⟨q, t, h1, h2⟩ := h.hold i hi hc; ⟨q, t, h1, h2.congr (hb q (hno i q t hi hc h1))⟩, h.apart,
  fun i q t hs => let ⟨a, b, c⟩ := h.old i q t hs; ⟨a, b, by rw [hz]; exact c⟩, h.fresh, h.lim, h.below.trans ⟨ho, ht, hu, by rw [hz]; exact ZJd _, fun k hk => hb k (by omega)⟩⟩
theorem Rel.move (hR : Rel w0 σ hp n w) {b p t : Nat} (hs : σ b = some (p, t)) (hl : ZL hp b ≠ .no) {w' : World} (hz : w'.heap.size = w.heap.size) (hb : ∀ k, k ≠ p -> w'.heap[k]? = w.heap[k]?) (ho : w'.os = w.os) (ht : w'.tape = w.tape) (hu : w'.output = w.output)
  {c : Ck} {v : Nat -> CV} (h : Zv (Zar (YZ hp b .no) n c v k) φ) (hc : ∀ τ, Le σ τ -> Y2 τ w' p t c) :
  ∃ σ', σ' (idN n) = some (p, t) /\ Rel w0 σ' (YZ (YZ hp b .no) (idN n) c) (n + 1) w' /\ Ex n σ σ' /\ Nle n (n + 1) /\ Zv (k (v (idN n)) (YZ (YZ hp b .no) (idN n) c) (n + 1)) φ := by
 unfold Zar at h
 obtain ⟨h1, h2⟩ := h.bif
 have h1 : idN n < Yx n := by simpa [Nat.blt_eq] using h1
 obtain ⟨e1, e2⟩ := ZkY h1 hR.lim
 have hf : σ (idN n) = none := hR.fresh _ (ZJd _) h1
 obtain ⟨hb1, hb2, hb3⟩ := hR.old _ _ _ hs
 have hk := hR.kill hb1
 have hno : ∀ j q u, j < 32768 -> ZL (YZ hp b .no) j ≠ .no -> σ j = some (q, u) -> q ≠ p := fun j q u hj hjc hq => by
  rw [Z9 _ _ _ _ hb1 hj] at hjc
  by_cases e : j = b
  ·rw [if_pos e] at hjc; exact absurd rfl hjc
  ·rw [if_neg e] at hjc; exact hR.apart j b q u p t hj hb1 hjc hl e hq hs
 have hk' := hk.chg hz hb ho ht hu hb2 hno
 refine ⟨_, Zad _ _ _, hk'.name (by have := hR.lim; omega) hf hb2 (by rw [hz]; exact hb3) hno (hc _ (Le.upd hf)) e2 (fun j hj _ => ⟨by omega, by omega⟩), ⟨Le.upd hf, fun i hi => ?_⟩, ⟨by omega, e2⟩, h2⟩
 unfold ZnF
 rw [if_neg (fun e => hi ⟨by omega, by omega⟩)]
theorem ZAs (hR : Rel w0 σ hp n w) {d s : CV} {vd vs : Value} (hd : VR σ d vd) (hs : VR σ s vs) {t t2 ty : Nat} {ts : Array Nat} (h0 : ts[0]? = some t) (h1 : ts[1]? = some t2) (h : Zv (ZnN P hp n t t2 d s k) φ) :
  LR P w0 σ n w (do pure (Next.value (<- Builtin.append_ ts ty #[vd, vs])) : Sem Next) k φ := by
 unfold ZnN at h
 split at h
 ·rename_i e hdt
  have hu := Zf hdt
  split at h
  ·rename_i i hel
   obtain ⟨hi, i1, i2, i3, zv, z1, z2⟩ := ZoD hel
   split at h
   ·exact h.no.elim
   ·rename_i d2 hni hd2
    have hu2 := Zf hd2
    have hnot : Zan d2 = true := by cases d2 <;> first | rfl | exact (hni _ rfl).elim
    split at h
    ·rename_i m hm
     have hlen := fun w => ZgG (P := P) hs hm w
     split at h
     ·rename_i new hnew
      obtain ⟨nv, n1, n2, n3⟩ := Zdw (P := P) hR hs hnew i1 i3
      have hsz : ∀ w, (sizeOf e).run P w = .ok i.size w := fun w => by simp [sizeOf, typeInfo, hi]
      have hRd : Rel w0 σ hp n w.drew := hR.drew _
      -- a new block
      have grow : ∀ {base : Option Addr} {l C : Nat} {ov : List Value} {ck : Ck}, ¬ l + m <= C -> ov.length = l * i.size -> (Builtin.firstCells i.size l (.slice base l C)).run P w.drew = .ok ov.toArray w.drew -> i.bytes * (l + m) <= 70368744177664 →
        (∀ (τ : Sg), Le σ τ -> ∀ (w : World) (p t : Nat), Row w p t (ov ++ nv) false -> ZrJ w p e -> Y2 τ w p t ck) -> Zv (Zar hp n ck (fun b => .slice b 0 i.size (l + m) (l + m) false) k) φ →
        LR P w0 σ n w (do pure (Next.value (<- Builtin.append_ ts ty #[.slice base l C, vs])) : Sem Next) k φ := by
       intro base l C ov ck hfit hol hold hroom hck hg
       obtain ⟨c, spare, c1, c2, c3⟩ := ZaF (ty := ty) h0 h1 hu hu2 hnot hi z1 z2 i2 (hlen w) (n3 w.drew (fun _ => rfl)) hfit hold (by omega)
       obtain ⟨σ', s1, s2, s3, s4, s5⟩ := ZT hRd hg (.cells (ov ++ nv ++ spare).toArray e) (c * i.size) (fun τ hle _ => hck τ hle _ _ _ (by
        have := Row.new (w := w.drew) (vs := ov ++ nv) (arr := (ov ++ nv ++ spare).toArray) (ty := e) (fz := false) (spare := spare) (by simp)
        have e2 : (ov ++ nv ++ spare).toArray.size = c * i.size := by
         simp only [List.size_toArray, ZJs, hol, n2, c2]
         rw [Nat.sub_mul, <- Nat.add_mul]
         have : (l + m) * i.size <= c * i.size := ZJe _ c1
         omega
        rw [e2] at this; exact this) ⟨_, _, ZN w.drew _⟩)
       refine LR.val c3 ?_ s2 s3 s4 s5
       simp only [VR]
       exact ⟨_, _, _, _, s1, rfl, ZJd _, c1, fun e => (by cases e), fun _ => rfl, by omega, fun _ _ => (by omega)⟩
      split at h
      ·-- nil
       simp only [VR] at hd; subst hd
       cases hm0 : Nat.beq m 0
       ·rw [hm0] at h; simp only [cond_false] at h
        have hm1 : m ≠ 0 := fun e => by rw [e] at hm0; cases hm0
        split at h
        ·rename_i ck hck
         obtain ⟨hroom, h2⟩ := h.bif
         have hroom := ZJA hroom
         have := grow (base := none) (l := 0) (C := 0) (ov := []) (ck := ck) (by omega) (by simp) rfl (by simpa using hroom)
          (by
           have he : Zl5 σ (bif Zem P e then .bs 0 0 else .cs []) [] := by cases Zem P e <;> simp [Zl5, VRs, bys]
           exact fun τ hle w p t hr ht => Zgz hck he n1 τ hle w p t hr (fun ⟨l, x, hb⟩ => by
            cases hu8 : Zem P e
            ·rw [hu8] at hb; cases hb
            ·rw [<- Zds hu8]; exact ht)) (by simpa using h2)
         simpa using this
        ·exact h.no.elim
       ·rw [hm0] at h; simp only [cond_true] at h
        have := ZJo hm0; subst this
        have hn0 : nv = [] := ZJC (by rw [n2]; simp)
        subst hn0
        refine LR.val (YL (w' := w) (base := none) h0 h1 hu hu2 hnot (hsz w) (hlen w) (n3 w (fun _ => rfl)) (ZJd _) rfl) (by simp only [VR]) hR (Ex.refl _ _) (Nle.refl _) h
      ·rename_i b o sz l c ex
       obtain ⟨hsz', h2⟩ := h.bif
       clear h
       have hsz' := ZJo hsz'
       subst hsz'
       have hd0 := hd
       simp only [VR] at hd
       obtain ⟨p, u, o', C, hsb, rfl, hlk, hkc, hex, ho, hle, heq⟩ := hd
       cases hfit : Nat.ble (l + m) c
       ·rw [hfit] at h2; simp only [cond_false] at h2
        have hfit : ¬ (l + m <= c) := Zpa hfit
        split at h2
        ·rename_i old hold
         obtain ⟨ov, o1, o2, o3⟩ := Zdw (P := P) hR hd0 hold i1 i3
         split at h2
         ·rename_i ck hck
          obtain ⟨hroom, h3⟩ := h2.bif
          clear h2
          have hroom := ZJA hroom
          cases ex
          ·simp only [cond_false] at h3
           obtain ⟨hcond, h4⟩ := h3.bif
           clear h3
           obtain ⟨q1, q2, q3, q4⟩ : o = 0 /\ 1 <= c /\ Zm8 (Zem P e) (ZL hp b) = true /\ Zse new = true := by
            cases q1 : Nat.beq o 0
            ·rw [q1] at hcond; cases hcond
            rw [q1] at hcond
            cases q2 : Nat.ble 1 c
            ·rw [q2] at hcond; cases hcond
            rw [q2] at hcond
            cases q3 : Zm8 (Zem P e) (ZL hp b)
            ·rw [q3] at hcond; cases hcond
            rw [q3] at hcond
            exact ⟨ZJo q1, ZJA q2, rfl, hcond⟩
           subst q1
           have hoo := ho (.inl q2); subst hoo
           have hlive : ZL hp b ≠ .no := fun e => by rw [e] at q3; cases q3
           by_cases hC : l + m <= C
           ·-- in place
            obtain ⟨ws, arr, aty, lo, hi', g1, g2, g3, g4⟩ := ZIJ hR hsb q3
            have hsp : l * i.size + m * i.size <= C * i.size := by rw [<- Nat.add_mul]; exact ZJe _ hC
            have hov : ov = arr.toList.take (l * i.size) := by
             have e1 := o3 w (fun _ => rfl)
             have hl : (arr.toList.take (l * i.size)).length = l * i.size := by rw [ZJp, Array.length_toList]; omega
             have e2 := Zbw (P := P) ⟨p, 0, none⟩ (arr.toList.take (l * i.size)) w (fun j v hj => by
              have hlt := (List.getElem?_eq_some_iff.1 hj).1
              rw [hl] at hlt
              rw [List.getElem?_take_of_lt hlt, ZJc] at hj
              rw [add_eq, Nat.zero_add]; simp [World.cell?, g1, hj])
             rw [hl] at e2
             simp only [Builtin.firstCells] at e1
             rw [e2] at e1
             simp only [Result.ok.injEq, and_true] at e1
             simpa using e1.symm
            have hrow : Row w p u ov (Zem P e) := ⟨arr, aty, lo, hi', g1, g2, ⟨arr.toList.drop (l * i.size), by rw [hov, List.take_append_drop]⟩, g4⟩
            obtain ⟨w', r1, r2, r3, r4, r5, r6, r7, r8⟩ := hrow.write' (P := P) (o := 0 + l * i.size) (new := nv) (by omega) (by omega) (Zrz q4 n1)
            rw [ZJz (by omega), List.drop_eq_nil_of_le (by omega), List.append_nil] at r2
            obtain ⟨σ', s1, s2, s3, s4, s5⟩ := hR.move hsb hlive r3 r4 r5 r6 r7 h4 (fun τ hle => Zq9 hck o1 n1 (ZAD hold) τ hle _ _ _ r2 (fun hb => r8 _ (ZIZ hR hsb (by have q4' := q3; rw [Zjh hold hb] at q4'; exact q4'))))
            refine LR.val (YL (w' := w') (base := some ⟨p, 0, none⟩) h0 h1 hu hu2 hnot (hsz w) (hlen w) (n3 w (fun _ => rfl)) hC (by show (storeCells (Addr.add _ _) nv).run P w = _; rw [add_eq]; exact r1)) ?_ s2 s3 s4 s5
            simp only [VR]
            exact ⟨_, _, _, _, s1, rfl, ZJd _, hC, fun e => (by cases e), fun _ => rfl, by omega, fun _ _ => heq rfl (by omega)⟩
           ·-- a new block, and the old name dropped
            have hb1 := (hR.old _ _ _ hsb).1
            obtain ⟨c', spare, c1, c2, c3⟩ := ZaF (ty := ty) h0 h1 hu hu2 hnot hi z1 z2 i2 (hlen w) (n3 w.drew (fun _ => rfl)) hC (o3 w.drew (fun _ => rfl)) (by omega)
            obtain ⟨σ', s1, s2, s3, s4, s5⟩ := ZT (hRd.kill hb1) h4 (.cells (ov ++ nv ++ spare).toArray e) (c' * i.size) (fun τ hle _ => Zgz hck o1 n1 τ hle _ _ _ (by
             have := Row.new (w := w.drew) (vs := ov ++ nv) (arr := (ov ++ nv ++ spare).toArray) (ty := e) (fz := false) (spare := spare) (by simp)
             have e2 : (ov ++ nv ++ spare).toArray.size = c' * i.size := by
              simp only [List.size_toArray, ZJs, o2, n2, c2]
              rw [Nat.sub_mul, <- Nat.add_mul]
              have : (l + m) * i.size <= c' * i.size := ZJe _ c1
              omega
             rw [e2] at this; exact this) (fun hb => by rw [<- Zds (Zjh hold hb)]; exact ⟨_, _, ZN w.drew _⟩))
            refine LR.val c3 ?_ s2 s3 s4 s5
            simp only [VR]
            exact ⟨_, _, _, _, s1, rfl, ZJd _, c1, fun e => (by cases e), fun _ => rfl, by omega, fun _ _ => (by omega)⟩
          ·simp only [cond_true] at h3
           have := hex rfl; subst this
           exact grow (by omega) o2 (o3 w.drew (fun _ => rfl)) hroom (fun τ hle w p t hr ht => Zgz hck o1 n1 τ hle w p t hr (fun hb => by rw [<- Zds (Zjh hold hb)]; exact ht)) h3
         ·exact h2.no.elim
        ·exact h2.no.elim
       ·rw [hfit] at h2; simp only [cond_true] at h2
        have hfit := ZJA hfit
        cases hm0 : Nat.beq m 0
        ·rw [hm0] at h2; simp only [cond_false] at h2
         have hm1 : m ≠ 0 := fun e => by rw [e] at hm0; cases hm0
         have hoo := ho (.inl (by omega)); subst hoo
         split at h2
         ·rename_i hp' hlay
          have hsp : l * i.size + m * i.size <= C * i.size := by rw [<- Nat.add_mul]; exact ZJe _ (by omega)
          obtain ⟨w', r1, r2⟩ := Zck (P := P) hR hlay hsb n1 (by rw [n2]; omega)
          refine LR.val (YL (w' := w') (base := some ⟨p, o', none⟩) h0 h1 hu hu2 hnot (hsz w) (hlen w) (n3 w (fun _ => rfl)) (by omega) (by show (storeCells (Addr.add _ _) nv).run P w = _; rw [add_eq]; exact r1)) ?_ r2 (Ex.refl _ _) (Nle.refl _) h2
          simp only [VR]
          exact ⟨_, _, _, _, hsb, rfl, hfit, hkc, hex, fun _ => rfl, hle, heq⟩
         ·exact h2.no.elim
        ·rw [hm0] at h2; simp only [cond_true] at h2
         have := ZJo hm0; subst this
         have hn0 : nv = [] := ZJC (by rw [n2]; simp)
         subst hn0
         exact LR.val (YL (w' := w) (base := some ⟨p, o', none⟩) h0 h1 hu hu2 hnot (hsz w) (hlen w) (n3 w (fun _ => rfl)) (by omega) rfl) hd0 hR (Ex.refl _ _) (Nle.refl _) h2
      ·exact h.no.elim
     ·exact h.no.elim
    ·exact h.no.elim
   ·exact h.no.elim
  ·exact h.no.elim
 ·exact h.no.elim
theorem ZGw (hR : Rel w0 σ hp n w) {d s : CV} {vd vs : Value} (hd : VR σ d vd) (hs : VR σ s vs) {t ty : Nat} {ts : Array Nat} (h0 : ts[0]? = some t) (h : Zv (ZD1 P hp n t d s k) φ) :
  LR P w0 σ n w (do pure (Next.value (<- Builtin.copy_ ts ty #[vd, vs])) : Sem Next) k φ := by
 unfold ZD1 at h
 split at h
 ·rename_i e hdt
  have hu := Zf hdt
  split at h
  ·rename_i i hel
   obtain ⟨hi, i1, i2, i3, zv, z1, z2⟩ := ZoD hel
   have hsz : ∀ w, (sizeOf e).run P w = .ok i.size w := fun w => by simp [sizeOf, typeInfo, hi]
   split at h
   ·rename_i m hm
    have hlen := fun w => ZgG (P := P) hs hm w
    split at h
    ·rename_i l hl
     have hmin : (bif Nat.ble m l then m else l) = min m l := by
      cases hq : Nat.ble m l
      ·have := Zpa hq; simp only [cond_false]; omega
      ·have := ZJA hq; simp only [cond_true]; omega
     rw [hmin] at h
     split at h
     ·rename_i hj0
      have hf0 : (Builtin.firstCells i.size (min m l) vs).run P w = .ok ([] : List Value).toArray w := by
       rw [hj0]
       unfold lenOf at hm
       split at hm
       ·simp only [VR] at hs; subst hs; rfl
       ·rename_i l x; simp only [VR] at hs; subst hs
        have e := Zdk l x 0 0 (Nat.zero_le _) (ZJd _)
        simp only [Builtin.firstCells, Sem.run_pure]; rw [e]; simp [bys]
       ·simp only [VR] at hs; obtain ⟨_, _, _, _, _, rfl, _⟩ := hs; simp [Builtin.firstCells, loadCells, loadCellsFrom]
       ·cases hm
      split at h
      ·simp only [VR] at hd; subst hd
       simp only [lenOf, Option.some.injEq] at hl; subst hl
       have := ZdS (ty := ty) (base := none) (cap := 0) (l := 0) (w' := w) h0 hu (hsz w) (hlen w) hf0 rfl
       rw [hj0] at this
       exact LR.val this (by simp only [VR]; rfl) hR (Ex.refl _ _) (Nle.refl _) h
      ·simp only [VR] at hd; obtain ⟨p, u, o', C, _, rfl, _⟩ := hd
       simp only [lenOf, Option.some.injEq] at hl; subst hl
       have := ZdS (ty := ty) (base := some ⟨p, o', none⟩) (cap := C) (cells := []) (w' := w) h0 hu (hsz w) (hlen w) hf0 rfl
       rw [hj0] at this
       exact LR.val this (by simp only [VR]; rfl) hR (Ex.refl _ _) (Nle.refl _) h
      ·exact h.no.elim
     ·rename_i hj
      split at h
      ·rename_i new hnew
       obtain ⟨nv, n1, n2, n3⟩ := Zdw (P := P) hR hs hnew i1 i3
       split at h
       ·rename_i b o sz' l' c ex
        obtain ⟨hq, h2⟩ := h.bif
        clear h
        have hq := ZJo hq
        subst hq
        simp only [lenOf, Option.some.injEq] at hl; subst hl
        simp only [VR] at hd; obtain ⟨p, u, o', C, hsb, rfl, hlk, hkc, hex, ho, hle, heq⟩ := hd
        have hoo := ho (.inl (by have : min m l' ≠ 0 := (fun e => hj e); omega)); subst hoo
        split at h2
        ·rename_i hp' hlay
         have hsp : min m l' * i.size <= C * i.size := ZJe _ (by omega)
         obtain ⟨w', r1, r2⟩ := Zck (P := P) hR hlay hsb n1 (by rw [n2]; omega)
         exact LR.val (ZdS (ty := ty) (base := some ⟨p, o', none⟩) (cap := C) (w' := w') h0 hu (hsz w) (hlen w) (n3 w (fun _ => rfl)) r1) (by simp only [VR]; rfl) r2 (Ex.refl _ _) (Nle.refl _) h2
        ·exact h2.no.elim
       ·exact h.no.elim
      ·exact h.no.elim
    ·exact h.no.elim
   ·exact h.no.elim
  ·exact h.no.elim
 ·exact h.no.elim
theorem ZfP {e sz m : Nat} {ck : Ck} (h : ZnL P e sz m = some ck) : ∃ i zv, P.info? e = some i /\ i.zero = some zv /\ zv.cells.size = sz ∧
  ((∃ l x, ck = .bytes l x /\ Zl5 σ (.bs l x) (List.replicate m zv.cells.toList).flatten) \/ (∃ cs, ck = .cells cs /\ Zl5 σ (.cs cs) (List.replicate m zv.cells.toList).flatten)) := by
 unfold ZnL at h
 split at h
 ·rename_i z hz
  obtain ⟨hl, h2⟩ := Zbt h
  have hl := ZJo hl
  obtain ⟨i, zv, z1, z2, z3⟩ := Y1 (σ := σ) hz
  have hsz : zv.cells.size = sz := by rw [<- Array.length_toList, <- z3.len, hl]
  refine ⟨i, zv, z1, z2, hsz, ?_⟩
  cases hu : Zem P e
  ·rw [hu] at h2; cases h2
   exact .inr ⟨_, rfl, z3.rep m⟩
  ·rw [hu] at h2; simp only [cond_true] at h2
   split at h2
   ·rename_i c
    split at h2
    ·rename_i hc
     cases h2
     obtain ⟨rfl, _⟩ := Zdp hc
     simp only [VRs, VR] at z3
     obtain ⟨v, ws, e1, e2, e3⟩ := z3
     subst e2; subst e3
     refine .inl ⟨m, 0, rfl, ?_⟩
     show _ = (bys m 0).map ZdF
     rw [ZiI, e1]
     simp [List.flatten_replicate_singleton, kc]
    ·cases h2
   ·cases h2
 ·cases h
theorem Zog (z : List Value) : ∀ m : Nat, (List.replicate m z).flatten.length = m * z.length
 | 0 => by simp
 | m + 1 => by rw [List.replicate_succ, List.flatten_cons, ZJs, Zog z m, Nat.succ_mul, Nat.add_comm]
theorem ZEc (hR : Rel w0 σ hp n w) {x : CV} {vx : Value} (hx : VR σ x vx) {t ty : Nat} {ts : Array Nat} (h0 : ts[0]? = some t) (h : Zv (Zvh P hp n t x k) φ) :
  LR P w0 σ n w (do pure (Next.value (<- Builtin.clear_ ts ty #[vx])) : Sem Next) k φ := by
 unfold Zvh at h
 split at h
 ·rename_i kt et hd; simp only [VR] at hx; subst hx
  exact LR.val (v := .tuple #[]) (by simp [Builtin.clear_, h0, run_underlying (Zf hd)]) ZbB hR (Ex.refl _ _) (Nle.refl _) h
 ·rename_i kt et b hd; simp only [VR] at hx; obtain ⟨p, u, hs, rfl⟩ := hx
  split at h
  ·rename_i es clock hb
   obtain ⟨ms, g1, g2⟩ := hR.at hs hb (by simp)
   refine LR.val (v := .tuple #[]) (w' := ZiD w p (.map #[] clock)) (by simp [Builtin.clear_, h0, run_underlying (Zf hd), Yt g2, YI g2]) ZbB (hR.put (c := .map [] clock) hs (by rw [hb]; simp) (fun hh => ⟨[], rfl, hh⟩)) (Ex.refl _ _) (Nle.refl _) h
  ·exact h.no.elim
 ·rename_i e hd; simp only [VR] at hx; subst hx
  exact LR.val (v := .tuple #[]) (by simp [Builtin.clear_, h0, run_underlying (Zf hd)]) ZbB hR (Ex.refl _ _) (Nle.refl _) h
 ·rename_i e b o s l kk ex hd
  have hu := Zf hd
  simp only [VR] at hx; obtain ⟨p, u, o', C, hsb, rfl, hlk, hkc, hex, ho, hle, heq⟩ := hx
  split at h
  ·exact LR.val (v := .tuple #[]) (by simp [Builtin.clear_, h0, run_underlying hu]) ZbB hR (Ex.refl _ _) (Nle.refl _) h
  ·rename_i hl0
   obtain ⟨l', rfl⟩ : ∃ l', l = l' + 1 := ⟨l - 1, by have : l ≠ 0 := (fun e => hl0 e); omega⟩
   have hoo := ho (.inl (by omega)); subst hoo
   have go : ∀ {ck : Ck} {el : Els} {hp' : H}, ZnL P e s (l' + 1) = some ck -> (∀ i zv, P.info? e = some i -> i.zero = some zv -> zv.cells.size = s -> Zl5 σ el (List.replicate (l' + 1) zv.cells.toList).flatten) →
     ZfF hp b o' el = some hp' -> Zv (k (.tup []) hp' n) φ -> LR P w0 σ n w (do pure (Next.value (<- Builtin.clear_ ts ty #[.slice (some ⟨p, o', none⟩) (l' + 1) C])) : Sem Next) k φ := by
    intro ck el hp' hz he hlay hk
    obtain ⟨i, zv, z1, z2, z3, _⟩ := ZfP (σ := σ) hz
    have hsp : (l' + 1) * s <= C * s := ZJe _ (by omega)
    obtain ⟨w', r1, r2⟩ := Zck (P := P) hR hlay hsb (he i zv z1 z2 z3) (by rw [Zog, Array.length_toList, z3]; omega)
    exact LR.val (Zeg (ty := ty) (cap := C) h0 hu z1 z2 r1) ZbB r2 (Ex.refl _ _) (Nle.refl _) hk
   split at h
   ·rename_i m x hz
    split at h
    ·rename_i hp' hlay
     refine go hz (fun i zv y1 y2 y3 => ?_) hlay h
     obtain ⟨i', zv', z1, z2, z3, z4⟩ := ZfP (σ := σ) hz
     rw [y1] at z1; cases z1; rw [y2] at z2; cases z2
     rcases z4 with ⟨_, _, e1, e2⟩ | ⟨_, e1, _⟩
     ·cases e1; exact e2
     ·cases e1
    ·exact h.no.elim
   ·rename_i cs hz
    split at h
    ·rename_i hp' hlay
     refine go hz (fun i zv y1 y2 y3 => ?_) hlay h
     obtain ⟨i', zv', z1, z2, z3, z4⟩ := ZfP (σ := σ) hz
     rw [y1] at z1; cases z1; rw [y2] at z2; cases z2
     rcases z4 with ⟨_, _, e1, _⟩ | ⟨_, e1, e2⟩
     ·cases e1
     ·cases e1; exact e2
    ·exact h.no.elim
   ·exact h.no.elim
 ·exact h.no.elim
/-! ### Conversions -/
theorem Rel.same (h : Rel w0 σ hp n w) {i p t : Nat} (hs : σ i = some (p, t)) (hl : ZL hp i ≠ .no) {w' : World} (hz : w'.heap.size = w.heap.size) (hb : ∀ k, k ≠ p -> w'.heap[k]? = w.heap[k]?)
  (ho : w'.os = w.os) (ht : w'.tape = w.tape) (hu : w'.output = w.output) (hc : Y2 σ w' p t (ZL hp i)) : Rel w0 σ hp n w' := by
 have hi := (h.old i p t hs).1
 refine ⟨fun j hj hjc => ?_, h.apart, fun j q u hj => ?_, h.fresh, h.lim, ?_⟩
 ·by_cases e : j = i
  ·subst e; exact ⟨p, t, hs, hc⟩
  ·obtain ⟨q, u, h1, h2⟩ := h.hold j hj hjc
   exact ⟨q, u, h1, h2.congr (hb q (fun e' => h.apart j i q u p t hj hi hjc hl e h1 hs e'))⟩
 ·obtain ⟨a, b, c⟩ := h.old j q u hj; exact ⟨a, b, by rw [hz]; exact c⟩
 ·exact h.below.trans ⟨ho, ht, hu, by rw [hz]; exact ZJd _, fun k hk => hb k (fun e => by have := (h.old i p t hs).2.1; omega)⟩
theorem Zlg {p : Nat} {arr : Array Value} {ty : TypeId} {lo hi : Nat} {o : Nat} (g : w.heap[p]? = some (.cells arr ty (lo, hi))) (hf : (lo = 0 /\ hi = 0) \/ arr.size <= lo) :
  ∃ w' lo' hi', (markStringish ⟨p, o, none⟩).run P w = .ok () w' /\ w'.heap[p]? = some (.cells arr ty (lo', hi')) /\ arr.size <= lo' /\ w'.heap.size = w.heap.size /\ (∀ k, k ≠ p -> w'.heap[k]? = w.heap[k]?) /\ w'.os = w.os /\ w'.tape = w.tape /\ w'.output = w.output := by
 have hsh : w.shape? p = some (ty, arr.size) := by simp [World.shape?, g]
 have hlt := (Array.getElem?_eq_some_iff.1 g).1
 have hval := (Array.getElem?_eq_some_iff.1 g).2
 refine ⟨w.freeze ⟨p, arr.size, none⟩ 1, if lo == hi then arr.size else min lo arr.size, if lo == hi then arr.size + 1 else max hi (arr.size + 1), ?_, ?_, ?_, ?_, fun k hk => ?_, rfl, rfl, rfl⟩
 ·simp [markStringish, hsh]
 ·simp only [World.freeze, Nat.one_ne_zero, if_false]
  rw [Array.getElem?_modify]
  simp only [if_true, g, Option.map_some]
  split <;> rfl
 ·rcases hf with ⟨rfl, rfl⟩ | hf
  ·simp
  ·split <;> omega
 ·simp [World.freeze]
 ·simp only [World.freeze, Nat.one_ne_zero, if_false]
  rw [Array.getElem?_modify, if_neg (fun e => hk e.symm)]
theorem ZGD (hR : Rel w0 σ hp n w) (hL : ∀ x, VR σ (lk fr x) (ev x)) {src dst : Nat} {x : Operand} (h : Zv (ZkQ P fr hp n src dst x k) φ) :
  LR P w0 σ n w (do pure (Next.value (<- convert src dst (ev x))) : Sem Next) k φ := by
 unfold ZkQ at h
 have hx := hL x
 split at h
 ·rename_i e l m hd he; rw [he] at hx; simp only [VR] at hx
  split at h
  ·rename_i ds hds
   obtain ⟨hu8, h2⟩ := h.bif
   clear h
   have h1 := Zf hds
   have h3 := Zf hd
   have h4 := Zci hu8
   have ha : (⟨(bys l m).toArray⟩ : ByteArray).data.map (fun b => Value.int .u8 b.toNat) = ((bys l m).map ZdF).toArray := by apply Array.ext'; simp [ZdF]
   have hsz : (⟨(bys l m).toArray⟩ : ByteArray).size = l := by simp [ByteArray.size, Zp]
   have hconv : (convert src dst (ev x)).run P w = (Conv.stringToBytes e ⟨(bys l m).toArray⟩).run P w := by
    rw [hx]; cases ds <;> simp [convert, run_underlying h1, run_underlying h3, run_underlying h4]
   obtain ⟨C, hC1, hC2⟩ : ∃ C, l <= C /\ (choose (.appendCap l 0 e)).run P w = .ok C w.drew := ⟨(Question.appendCap l 0 e).cut (w.tape w.drawn (.appendCap l 0 e)), by simp [Question.cut], by simp [choose, Sem.run, Question.forced]⟩
   have hnr : ((((bys l m).map ZdF).toArray ++ Array.replicate (C - l) (.int .u8 0)) : Array Value).toList = (bys l m).map ZdF ++ List.replicate (C - l) (.int .u8 0) := by simp
   generalize hA : ((((bys l m).map ZdF).toArray ++ Array.replicate (C - l) (.int .u8 0)) : Array Value) = A at hnr
   have hAs : A.size = C := by rw [<- hA]; simp [Zp]; omega
   have hRd : Rel w0 σ hp n w.drew := hR.drew _
   obtain ⟨w', lo', hi', f1, f2, f3, f4, f5, f6, f7, f8⟩ := Zlg (P := P) (w := { w.drew with heap := w.heap.push (.cells A e) }) (p := w.heap.size) (o := 0) (ZN w.drew _) (.inl ⟨rfl, rfl⟩)
   obtain ⟨σ', s1, s2, s3, s4, s5⟩ := ZT hRd h2 (.cells A e) C (fun τ hle _ => by
    have := Row.new (w := w.drew) (vs := (bys l m).map ZdF) (arr := A) (ty := e) (fz := true) (spare := _) hnr
    rw [hAs] at this; exact ⟨this, by rw [<- Zds hu8]; exact ⟨_, _, ZN w.drew _⟩⟩)
   have hR2 := s2.same s1 (by rw [Z9 _ _ _ _ (s2.old _ _ _ s1).1 (s2.old _ _ _ s1).1, if_pos rfl]; simp) f4 f5 f6 f7 f8 (by
    rw [Z9 _ _ _ _ (s2.old _ _ _ s1).1 (s2.old _ _ _ s1).1, if_pos rfl]
    exact ⟨⟨A, e, lo', hi', f2, hAs, ⟨_, hnr⟩, .inr ⟨rfl, by rw [<- hAs]; exact f3⟩⟩, by rw [<- Zds hu8]; exact ⟨_, _, f2⟩⟩)
   refine LR.val (v := .slice (some ⟨w.heap.size, 0, none⟩) l C) ?_ ?_ hR2 s3 s4 s5
   ·rw [hconv]
    simp only [Conv.stringToBytes, Sem.run_bind, hsz, hC2, Result.andThen_ok, ha, hA, YK]
    have f1' : (markStringish ⟨w.drew.heap.size, 0, none⟩).run P { w.drew with heap := w.drew.heap.push (.cells A e) } = .ok () w' := f1
    rw [f1']; rfl
   ·simp only [VR]
    exact ⟨_, _, _, _, s1, rfl, ZJd _, hC1, fun e => (by cases e), fun _ => rfl, by omega, fun _ _ => (by omega)⟩
  ·exact h.no.elim
 ·rename_i e b o s l kk ex hd he; rw [he] at hx
  have hx0 := hx
  simp only [VR] at hx; obtain ⟨p, u, o', C, hsb, hv, hlk, hkc, hex, ho, hle, heq⟩ := hx
  split at h
  ·rename_i e2 hds
   obtain ⟨hc, h2⟩ := h.bif
   clear h
   obtain ⟨hq, hu8⟩ : src = dst /\ Zem P e = true := by
    cases hq : Nat.beq src dst
    ·rw [hq] at hc; cases hc
    ·rw [hq] at hc; exact ⟨ZJo hq, hc⟩
   subst hq
   have h1 := Zf hds
   have h3 := Zf hd
   have h4 := Zci hu8
   split at h2
   ·rename_i k' y hb
    obtain ⟨⟨arr, ty, lo, hi, g1, g2, g3, g4⟩, hT⟩ := hR.at hsb hb (by simp)
    obtain ⟨w', lo', hi', f1, f2, f3, f4, f5, f6, f7, f8⟩ := Zlg (P := P) (o := o') g1 (g4.imp id (fun q => by rw [g2]; exact q.2))
    refine LR.val (w' := w') (v := ev x) ?_ hx0 (hR.same hsb (by rw [hb]; simp) f4 f5 f6 f7 f8 (by rw [hb]; exact ⟨⟨arr, ty, lo', hi', f2, g2, g3, .inr ⟨rfl, by rw [<- g2]; exact f3⟩⟩, by obtain ⟨a, z, ha⟩ := hT; rw [g1] at ha; cases ha; exact ⟨_, _, f2⟩⟩)) (Ex.refl _ _) (Nle.refl _) h2
    rw [hv]
    simp [convert, run_underlying h3, run_underlying h4, f1]
   ·exact h2.no.elim
  ·exact h.no.elim
 ·obtain ⟨c, v, g1, g2, g3⟩ := ZAY (k := fun v => k v hp n) hR hL h
  exact LR.val g1 g2 hR (Ex.refl _ _) (Nle.refl _) g3
end
end Go.Cx
namespace Go.Cx
open Go.RowKit (Below)
theorem ZEz {a b : Bool} (h : bbq a b = true) : a = b := by cases a <;> cases b <;> first | rfl | cases h
theorem ibq_t {a b : Int} (h : ibq a b = true) : a = b := by rw [Zbd] at h; simpa using h
theorem nbq {a b : Nat} (h : Nat.beq a b = true) : a = b := ZJo h
theorem Yw {a b : Bool} (h : (bif a then b else false) = true) : a = true /\ b = true := by cases a <;> cases b <;> first | exact ⟨rfl, rfl⟩ | cases h
mutual
theorem CV.bq_t : ∀ {a b : CV}, CV.bq a b = true -> a = b
 | .int k a, .int j b, h => by simp only [CV.bq] at h; obtain ⟨h1, h2⟩ := Yw h; rw [nbq h1, ibq_t h2]
 | .bool a, .bool b, h => by simp only [CV.bq] at h; rw [ZEz h]
 | .str l n, .str k m, h => by simp only [CV.bq] at h; obtain ⟨h1, h2⟩ := Yw h; rw [nbq h1, nbq h2]
 | .ptr b o, .ptr c p, h => by simp only [CV.bq] at h; obtain ⟨h1, h2⟩ := Yw h; rw [nbq h1, nbq h2]
 | .nilp, .nilp, _ => rfl
 | .slice b o s l k e, .slice b' o' s' l' k' e', h => by
  simp only [CV.bq] at h
  obtain ⟨h1, h⟩ := Yw h; obtain ⟨h2, h⟩ := Yw h; obtain ⟨h3, h⟩ := Yw h; obtain ⟨h4, h⟩ := Yw h; obtain ⟨h5, h6⟩ := Yw h
  rw [nbq h1, nbq h2, nbq h3, nbq h4, nbq h5, ZEz h6]
 | .nils, .nils, _ => rfl
 | .map b, .map c, h => by simp only [CV.bq] at h; rw [nbq h]
 | .nilm, .nilm, _ => rfl
 | .fn f l l', .fn g m m', h => by
  simp only [CV.bq] at h
  obtain ⟨h1, h⟩ := Yw h; obtain ⟨h2, h3⟩ := Yw h
  rw [nbq h1, CVs.bq_t h2, CVs.bq_t h3]
 | .mth a v, .mth b w, h => by
  simp only [CV.bq] at h
  obtain ⟨h1, h2⟩ := Yw h
  rw [CV.bq_t h2, show a = b by simpa using h1]
 | .yld a, .yld b, h => by simp only [CV.bq] at h; rw [nbq h]
 | .nilf, .nilf, _ => rfl
 | .ifc t v, .ifc u w, h => by simp only [CV.bq] at h; obtain ⟨h1, h2⟩ := Yw h; rw [nbq h1, CV.bq_t h2]
 | .nili, .nili, _ => rfl
 | .agg l, .agg m, h => by simp only [CV.bq] at h; rw [CVs.bq_t h]
 | .tup l, .tup m, h => by simp only [CV.bq] at h; rw [CVs.bq_t h]
theorem CVs.bq_t : ∀ {a b : List CV}, CVs.bq a b = true -> a = b
 | [], [], _ => rfl
 | a :: l, b :: m, h => by simp only [CVs.bq] at h; obtain ⟨h1, h2⟩ := Yw h; rw [CV.bq_t h1, CVs.bq_t h2]
end
mutual
theorem Zoq {σ : Sg} : ∀ {c : CV} {v v' : Value}, CV.det c = true -> VR σ c v -> VR σ c v' -> v = v'
 | .int _ _, _, _, _, h, k => by simp only [VR] at h k; rw [h, k]
 | .bool _, _, _, _, h, k => by simp only [VR] at h k; rw [h, k]
 | .str _ _, _, _, _, h, k => by simp only [VR] at h k; rw [h, k]
 | .ptr _ _, _, _, _, h, k => by
  simp only [VR] at h k; obtain ⟨p, t, h1, h2⟩ := h; obtain ⟨q, u, k1, k2⟩ := k
  rw [h1] at k1; cases k1; rw [h2, k2]
 | .nilp, _, _, _, h, k => by simp only [VR] at h k; rw [h, k]
 | .slice b o s l kk ex, _, _, hd, h, k => by
  simp only [VR] at h k
  obtain ⟨p, t, o1, c1, h1, h2, h3, h4, h5, h6, h7, h8⟩ := h
  obtain ⟨q, u, o2, c2, k1, k2, k3, k4, k5, k6, k7, k8⟩ := k
  rw [h1] at k1; cases k1
  simp only [CV.det] at hd
  cases ex
  ·simp only [cond_false] at hd
   obtain ⟨d1, d2⟩ := Yw hd
   have d1 := ZJA d1
   have d2 := ZJA d2
   have e1 := h6 (.inl (by omega)); have e2 := k6 (.inl (by omega))
   subst e1; subst e2
   have g1 := h8 rfl (by omega); have g2 := k8 rfl (by omega)
   have : c1 * s = c2 * s := by omega
   have := Nat.eq_of_mul_eq_mul_right (by omega) this
   rw [h2, k2, this]
  ·have e1 := h6 (.inr rfl); have e2 := k6 (.inr rfl)
   have g1 := h5 rfl; have g2 := k5 rfl
   rw [h2, k2, e1, e2, g1, g2]
 | .nils, _, _, _, h, k => by simp only [VR] at h k; rw [h, k]
 | .map _, _, _, _, h, k => by
  simp only [VR] at h k; obtain ⟨p, t, h1, h2⟩ := h; obtain ⟨q, u, k1, k2⟩ := k
  rw [h1] at k1; cases k1; rw [h2, k2]
 | .nilm, _, _, _, h, k => by simp only [VR] at h k; rw [h, k]
 | .fn _ a b, _, _, hd, h, k => by
  simp only [CV.det] at hd; obtain ⟨d1, d2⟩ := Yw hd
  simp only [VR] at h k; obtain ⟨u, v, h1, h2, h3⟩ := h; obtain ⟨u', v', k1, k2, k3⟩ := k
  rw [h3, k3, ZgO d1 h1 k1, ZgO d2 h2 k2]
 | .mth _ c, _, _, hd, h, k => by
  simp only [CV.det] at hd
  simp only [VR] at h k; obtain ⟨u, h1, h3⟩ := h; obtain ⟨u', k1, k3⟩ := k
  rw [h3, k3, Zoq hd h1 k1]
 | .yld _, _, _, _, h, k => by
  simp only [VR] at h k; obtain ⟨p, t, h1, h2⟩ := h; obtain ⟨q, u, k1, k2⟩ := k
  rw [h1] at k1; cases k1; rw [h2, k2]
 | .nilf, _, _, _, h, k => by simp only [VR] at h k; rw [h, k]
 | .ifc _ c, _, _, hd, h, k => by
  simp only [CV.det] at hd
  simp only [VR] at h k; obtain ⟨u, h1, h3⟩ := h; obtain ⟨u', k1, k3⟩ := k
  rw [h3, k3, Zoq hd h1 k1]
 | .nili, _, _, _, h, k => by simp only [VR] at h k; rw [h, k]
 | .agg c, _, _, hd, h, k => by
  simp only [CV.det] at hd
  simp only [VR] at h k; obtain ⟨u, h1, h3⟩ := h; obtain ⟨u', k1, k3⟩ := k
  rw [h3, k3, ZgO hd h1 k1]
 | .tup c, _, _, hd, h, k => by
  simp only [CV.det] at hd
  simp only [VR] at h k; obtain ⟨u, h1, h3⟩ := h; obtain ⟨u', k1, k3⟩ := k
  rw [h3, k3, ZgO hd h1 k1]
 | .junk, _, _, hd, _, _ => by simp only [CV.det] at hd; cases hd
theorem ZgO {σ : Sg} : ∀ {c : List CV} {v v' : List Value}, CVs.det c = true -> VRs σ c v -> VRs σ c v' -> v = v'
 | [], _, _, _, h, k => by simp only [VRs] at h k; rw [h, k]
 | a :: c, _, _, hd, h, k => by
  simp only [CVs.det] at hd; obtain ⟨d1, d2⟩ := Yw hd
  simp only [VRs] at h k; obtain ⟨u, v, rfl, h1, h2⟩ := h; obtain ⟨u', v', rfl, k1, k2⟩ := k
  rw [Zoq d1 h1 k1, ZgO d2 h2 k2]
end
theorem Ents.bq_t : ∀ {a b : List Ent}, Ents.bq a b = true -> a = b
 | [], [], _ => rfl
 | ⟨k, v, s⟩ :: l, ⟨k', v', s'⟩ :: m, h => by
  simp only [Ents.bq] at h
  obtain ⟨h1, h⟩ := Yw h; obtain ⟨h2, h⟩ := Yw h; obtain ⟨h3, h4⟩ := Yw h
  rw [nbq h1, CV.bq_t h2, CV.bq_t h3, Ents.bq_t h4]
theorem ZBN : ∀ {a b : List Nat}, nats a b = true -> a = b
 | [], [], _ => rfl
 | a :: l, b :: m, h => by simp only [nats] at h; obtain ⟨h1, h2⟩ := Yw h; rw [nbq h1, ZBN h2]
theorem Ck.bq_t {a b : Ck} (h : Ck.bq a b = true) : a = b := by
 unfold Ck.bq at h
 split at h
 ·rw [CVs.bq_t h]
 ·obtain ⟨h1, h2⟩ := Yw h; rw [nbq h1, nbq h2]
 ·obtain ⟨h1, h2⟩ := Yw h; rw [nbq h1, Ents.bq_t h2]
 ·obtain ⟨h1, h⟩ := Yw h; obtain ⟨h2, h⟩ := Yw h; obtain ⟨h3, h4⟩ := Yw h; rw [nbq h1, nbq h2, ZBN h3, nbq h4]
 ·obtain ⟨h1, h⟩ := Yw h; obtain ⟨h2, h3⟩ := Yw h; rw [nbq h1, nbq h2, nbq h3]
 ·rfl
 ·rfl
 ·rfl
 ·rw [CVs.bq_t h]
 ·cases h
structure Wk (x y : Out) : Prop where
 v : ∀ σ v, VR σ x.v v -> VR σ y.v v
 hp : ∀ i, ZL y.hp i = ZL x.hp i \/ ZL y.hp i = .no
 n : x.n <= y.n
theorem Wk.refl (x : Out) : Wk x x := ⟨fun _ _ h => h, fun _ => .inl rfl, ZJd _⟩
theorem Wk.trans {x y z : Out} (h : Wk x y) (k : Wk y z) : Wk x z :=
 ⟨fun σ v hv => k.v σ v (h.v σ v hv), fun i => by
  rcases k.hp i with e | e
  ·rw [e]; exact h.hp i
  ·exact .inr e, Nat.le_trans h.n k.n⟩
theorem Zsz {α : Type} (f : α -> α -> α) (a b : O α) (d : Nat) : og (om f a b) d = f (og a d) (og b d) := by
 obtain ⟨c0, c1, c2, c3, c4, c5, c6, c7⟩ := a
 obtain ⟨e0, e1, e2, e3, e4, e5, e6, e7⟩ := b
 match d with
 | 0 => rfl | 1 => rfl | 2 => rfl | 3 => rfl | 4 => rfl | 5 => rfl | 6 => rfl | 7 => rfl | _ + 8 => rfl
theorem Zkf (a b : H) (i : Nat) : ZL (H.meet a b) i = Ck.meet (ZL a i) (ZL b i) := by
 unfold ZL H.meet
 rw [Zsz, Zsz, Zsz, Zsz, Zsz]
theorem Ck.meet_l (a b : Ck) : Ck.meet a b = a \/ Ck.meet a b = .no := by
 unfold Ck.meet; cases Ck.bq a b <;> simp
theorem Ck.meet_r (a b : Ck) : Ck.meet a b = b \/ Ck.meet a b = .no := by
 unfold Ck.meet
 cases h : Ck.bq a b
 ·exact .inr rfl
 ·exact .inl (Ck.bq_t h)
theorem Zvf {σ : Sg} {a b : CV} {v : Value} (h : VR σ a v) : VR σ (CV.meet1 a b) v := by
 unfold CV.meet1; cases CV.bq a b
 ·simp only [cond_false, VR]
 ·exact h
theorem Zue {σ : Sg} {a b : CV} {v : Value} (h : VR σ b v) : VR σ (CV.meet1 a b) v := by
 unfold CV.meet1; cases hb : CV.bq a b
 ·simp only [cond_false, VR]
 ·simp only [cond_true]; rw [CV.bq_t hb]; exact h
theorem Zxf {σ : Sg} : ∀ {a b : List CV} {v : List Value}, a.length = b.length -> VRs σ a v -> VRs σ (CVs.meet a b) v
 | [], [], _, _, h => h
 | x :: a, y :: b, v, hl, h => by
  simp only [VRs] at h; obtain ⟨u, ws, rfl, h1, h2⟩ := h
  simp only [CVs.meet, VRs]; exact ⟨u, ws, rfl, Zvf h1, Zxf (by simpa using hl) h2⟩
theorem ZvS {σ : Sg} : ∀ {a b : List CV} {v : List Value}, a.length = b.length -> VRs σ b v -> VRs σ (CVs.meet a b) v
 | [], [], _, _, h => h
 | x :: a, y :: b, v, hl, h => by
  simp only [VRs] at h; obtain ⟨u, ws, rfl, h1, h2⟩ := h
  simp only [CVs.meet, VRs]; exact ⟨u, ws, rfl, Zue h1, ZvS (by simpa using hl) h2⟩
theorem CV.meet_l {σ : Sg} {a b : CV} {v : Value} (h : VR σ a v) : VR σ (CV.meet a b) v := by
 unfold CV.meet
 split
 ·rename_i l m
  cases hl : Nat.beq l.length m.length
  ·simp only [cond_false, VR]
  ·simp only [VR] at h; obtain ⟨vs, h1, h2⟩ := h
   simp only [cond_true, VR]; exact ⟨vs, Zxf (nbq hl) h1, h2⟩
 ·exact Zvf h
theorem CV.meet_r {σ : Sg} {a b : CV} {v : Value} (h : VR σ b v) : VR σ (CV.meet a b) v := by
 unfold CV.meet
 split
 ·rename_i l m
  cases hl : Nat.beq l.length m.length
  ·simp only [cond_false, VR]
  ·simp only [VR] at h; obtain ⟨vs, h1, h2⟩ := h
   simp only [cond_true, VR]; exact ⟨vs, ZvS (nbq hl) h1, h2⟩
 ·exact Zue h
theorem ZA6 (a b : Out) : a.n <= (Out.meet a b).n /\ b.n <= (Out.meet a b).n := by
 show a.n <= (bif Nat.ble a.n b.n then b.n else a.n) /\ b.n <= (bif Nat.ble a.n b.n then b.n else a.n)
 cases h : Nat.ble a.n b.n
 ·have := Zpa h; simp only [cond_false]; omega
 ·have := ZJA h; simp only [cond_true]; omega
theorem Wk.meet_l (a b : Out) : Wk a (Out.meet a b) :=
 ⟨fun σ v h => CV.meet_l h, fun i => by show ZL (H.meet a.hp b.hp) i = _ \/ ZL (H.meet a.hp b.hp) i = _; rw [Zkf]; exact Ck.meet_l _ _, (ZA6 a b).1⟩
theorem Wk.meet_r (a b : Out) : Wk b (Out.meet a b) :=
 ⟨fun σ v h => CV.meet_r h, fun i => by show ZL (H.meet a.hp b.hp) i = _ \/ ZL (H.meet a.hp b.hp) i = _; rw [Zkf]; exact Ck.meet_r _ _, (ZA6 a b).2⟩
theorem Wk.meets : ∀ (l : List Out) (o x : Out), x ∈ o :: l -> Wk x (meets o l)
 | [], o, x, h => by simp only [ZJg] at h; subst h; exact Wk.refl _
 | p :: l, o, x, h => by
  simp only [Go.Cx.meets]
  rcases List.mem_cons.1 h with rfl | h
  ·exact (Wk.meet_l x p).trans (Wk.meets l _ _ ZJv)
  ·rcases List.mem_cons.1 h with rfl | h
   ·exact (Wk.meet_r o x).trans (Wk.meets l _ _ ZJv)
   ·exact Wk.meets l _ _ (ZJt _ h)
theorem Rel.weak {w0 : World} {σ : Sg} {hp hp' : H} {n m : Nat} {w : World} (h : Rel w0 σ hp n w) (hh : ∀ i, ZL hp' i = ZL hp i \/ ZL hp' i = .no) (hm : Nle n m) : Rel w0 σ hp' m w := by
 have key : ∀ i, ZL hp' i ≠ .no -> ZL hp' i = ZL hp i /\ ZL hp i ≠ .no := fun i hi => by
  rcases hh i with e | e
  ·exact ⟨e, by rw [<- e]; exact hi⟩
  ·exact absurd e hi
 refine ⟨fun i hi hc => ?_, fun i j p t q u hi hj h1 h2 => h.apart i j p t q u hi hj (key i h1).2 (key j h2).2, h.old, fun i h1 h2 => h.fresh i (Nat.le_trans hm.1 h1) (by rw [<- hm.2]; exact h2), by rw [hm.2]; exact h.lim, h.below⟩
 obtain ⟨e, hc'⟩ := key i hc
 obtain ⟨p, t, h1, h2⟩ := h.hold i hi hc'
 exact ⟨p, t, h1, by rw [e]; exact h2⟩
/-! ### Behind a call -/
section
variable {P : Program} {w0 : World} {σ : Sg} {hp : H} {n : Nat} {w : World} {k : KS} {φ : Out -> Prop}
def Ret (w0 : World) (σ : Sg) (n : Nat) (l : List Out) (v : Value) (w' : World) : Prop := ∃ o σ', o ∈ l /\ VR σ' o.v v /\ Rel w0 σ' o.hp o.n w' /\ Ex n σ σ' /\ Nle n o.n
def ZyU (w0 : World) (σ : Sg) (n : Nat) (k : KS) (φ : Out -> Prop) (v : Value) (w' : World) : Prop := ∃ c hp' n' σ', VR σ' c v /\ Rel w0 σ' hp' n' w' /\ Ex n σ σ' /\ Nle n n' /\ Zv (k c hp' n') φ
theorem ZhX : ∀ {l : List Out} {o : Out}, Zv (ZzW k o l) φ -> ∀ x ∈ o :: l, Zv (k x.v x.hp x.n) φ
 | [], o, h, x, hx => by simp only [ZJg] at hx; subst hx; exact h
 | p :: l, o, h, x, hx => by
  simp only [ZzW] at h
  obtain ⟨h1, h2⟩ := h.cat
  rcases List.mem_cons.1 hx with rfl | hx
  ·exact h1
  ·exact ZhX h2 x hx
theorem Zby {mg : Bool} {r : Res} (h : Zv (after mg n r k) φ) : ∃ l, r = some l /\ ∀ v w', Ret w0 σ n l v w' -> ZyU w0 σ n k φ v w' := by
 unfold after at h
 split at h
 ·exact h.no.elim
 ·rename_i l
  refine ⟨l, rfl, ?_⟩
  rintro v w' ⟨o, σ', ho, hv, hR, hx, hn⟩
  split at h
  ·exact h.no.elim
  ·rename_i o1 os
   split at h
   ·simp only [ZJg] at ho; subst ho
    exact ⟨_, _, _, _, hv, hR, hx, hn, h⟩
   ·rename_i p os
    cases mg
    ·exact ⟨_, _, _, _, hv, hR, hx, hn, ZhX h o ho⟩
    ·simp only [cond_true] at h
     obtain ⟨hl, h2⟩ := h.bif
     have hw := Wk.meets (p :: os) o1 o ho
     have hl := nbq hl
     have hnm : Nle o.n (meets o1 (p :: os)).n := by
      refine ⟨?_, by rw [hl, hn.2]⟩
      have h1 := hw.n
      have h3 := hn.2
      unfold Yx at hl h3; unfold idN; omega
     exact ⟨_, _, _, _, hw.v _ _ hv, hR.weak hw.hp hnm, hx, hn.trans hnm, h2⟩
end
end Go.Cx
namespace Go.Cx
open Go.RowKit (Below)
def FF (ro : Option Nat) : Fence := { Fence.wide with round := ro }
theorem ZoY {ro ro' : Option Nat} {P : Program} {f : FuncId} {args : Array Value} {w : World} {R : Ending -> World -> Prop} (h : CallsIn (FF ro) 0 P f args w R) : CallsIn (FF ro') 0 P f args w R := h
theorem ZzB {ro ro' : Option Nat} {P : Program} {l f : Nat} {tm : Array Value} {asq bo : Code} {w : World} {R : Ending -> World -> Prop} (h : RoundIn (FF ro) 0 P l f tm asq bo w R) : RoundIn (FF ro') 0 P l f tm asq bo w R := h
section
variable {P : Program} {w0 : World}
def Zc3 (P : Program) (w0 : World) (f : Nat) (c : Cn) : Prop := ∀ args hp n σ w xs l, Rel w0 σ hp n w -> VRs σ args xs -> c args hp n = some l →
 (∃ v w', (callFunc f xs.toArray).run P w = .ok (.value v) w' /\ Ret w0 σ n l v w') ∨
 ((callFunc f xs.toArray).run P w = .ok (.enter f xs.toArray) w /\ CallsIn (FF none) 0 P f xs.toArray w (fun e w' => ∃ v, e = .returned v /\ Ret w0 σ n l v w'))
def Zcc (P : Program) (w0 : World) (f : Nat) (c : Cn) : Prop := ∀ args hp n σ w xs l, Rel w0 σ hp n w -> VRs σ args xs -> c args hp n = some l →
 (callFunc f xs.toArray).run P w = .ok (.enter f xs.toArray) w /\ CallsIn (FF none) 0 P f xs.toArray w (fun e w' => ∃ v, e = .returned v /\ Ret w0 σ n l v w')
theorem Zcc.call {f : Nat} {c : Cn} (h : Zcc P w0 f c) : Zc3 P w0 f c := fun args hp n σ w xs l h1 h2 h3 => .inr (h args hp n σ w xs l h1 h2 h3)
def ZCK (P : Program) (w0 : World) (l : Nat) (c : Cn) : Prop := ∀ args hp n σ w xs os p t, Rel w0 σ hp n w -> VRs σ args xs -> σ l = some (p, t) -> c args hp n = some os →
 ∃ f tm asq bo, (Instr.yield p xs.toArray).run P w = .ok (.round p f tm asq bo) w /\ RoundIn (FF none) 0 P p f tm asq bo w (fun e w' => ∃ v, e = .returned v /\ Ret w0 σ n os v w')
structure CsOk (P : Program) (w0 : World) (ctrs : List (Nat × Option Cn)) (bd rd : Nat -> Cn) : Prop where
 ctr : ∀ f c, ZS ctrs f = some (some c) -> Zc3 P w0 f c
 bd : ∀ f, Zcc P w0 f (bd f)
 rd : ∀ l, ZCK P w0 l (rd l)
variable {σ : Sg} {hp : H} {n : Nat} {w : World} {k : KS} {φ : Out -> Prop}
def YG (P : Program) (w0 : World) (σ : Sg) (n : Nat) (k : KS) (φ : Out -> Prop) (w : World) (r : Result Next) : Prop :=
 (∃ v w', r = .ok (.value v) w' /\ ZyU w0 σ n k φ v w') \/ (∃ w', r = .ok .skip w' /\ ZyU w0 σ n k φ undef w') ∨
 (∃ f xs, r = .ok (.enter f xs) w /\ CallsIn (FF none) 0 P f xs w (fun e w' => ∃ v, e = .returned v /\ ZyU w0 σ n k φ v w')) ∨
 (∃ l f tm asq bo, r = .ok (.round l f tm asq bo) w /\ RoundIn (FF none) 0 P l f tm asq bo w (fun e w' => ∃ v, e = .returned v /\ ZyU w0 σ n k φ v w'))
theorem YG.of_LR {s : Sem Next} (h : LR P w0 σ n w s k φ) : YG P w0 σ n k φ w (s.run P w) := by
 obtain ⟨w', c, hp', n', σ', h1, hR, hx, hn, hk⟩ := h
 rcases h1 with ⟨v, h1, hv⟩ | ⟨h1, rfl⟩
 ·exact .inl ⟨v, w', h1, c, hp', n', σ', hv, hR, hx, hn, hk⟩
 ·exact .inr (.inl ⟨w', h1, _, hp', n', σ', ZbB, hR, hx, hn, hk⟩)
theorem YG.wpIn {o : Oper} {ro : Option Nat} {a : Act} {next : Act -> World -> Prop} {Q : Exit -> Act -> World -> Prop} (hnd : ∀ c, o.op ≠ .defer c) (h : YG P w0 σ n k φ w ((execOp a.eval o).run P w))
  (hnext : ∀ v w', ZyU w0 σ n k φ v w' -> next (a.put o.dst v) w') : o.wpIn (FF ro) 0 P a w next Q := by
 refine ⟨fun f _ => trivial, ?_⟩
 rw [show (FF ro).round = ro from rfl, Oper.semAt_eq ro a.eval o hnd]
 rcases h with ⟨v, w', h, g⟩ | ⟨w', h, g⟩ | ⟨f, xs, h, g⟩ | ⟨l, f, tm, asq, bo, h, g⟩
 ·rw [h]; exact hnext _ _ g
 ·rw [h]; exact hnext _ _ g
 ·rw [h, Oper.uponIn_enter]
  refine ⟨fun h => (by cases h), CallsIn.mono (ZoY g) fun e w' he => ?_⟩
  obtain ⟨v, rfl, hg⟩ := he
  exact hnext _ _ hg
 ·rw [h, Oper.uponIn_round]
  refine ⟨fun h => (by cases h), RoundIn.mono (ZzB g) fun e w' he => ?_⟩
  obtain ⟨v, rfl, hg⟩ := he
  exact hnext _ _ hg
theorem YG.of_call {mg : Bool} {f : Nat} {c : Cn} {args : List CV} {xs : List Value} (hc : Zc3 P w0 f c) (hR : Rel w0 σ hp n w) (hx : VRs σ args xs) (h : Zv (after mg n (c args hp n) k) φ) :
  YG P w0 σ n k φ w ((callFunc f xs.toArray).run P w) := by
 obtain ⟨l, hl, hg⟩ := Zby h
 rcases hc args hp n σ w xs l hR hx hl with ⟨v, w', h1, h2⟩ | ⟨h1, h2⟩
 ·exact .inl ⟨v, w', h1, hg _ _ h2⟩
 ·refine .inr (.inr (.inl ⟨f, _, h1, CallsIn.mono h2 fun e w' he => ?_⟩))
  obtain ⟨v, rfl, hr⟩ := he
  exact ⟨v, rfl, hg _ _ hr⟩
variable {ctrs : List (Nat × Option Cn)} {bd rd : Nat -> Cn}
theorem Zdu (hC : CsOk P w0 ctrs bd rd) (hR : Rel w0 σ hp n w) {f : Nat} {args : List CV} {xs : List Value} (hx : VRs σ args xs) (h : Zv (ZkD ctrs bd f args hp n k) φ) :
  YG P w0 σ n k φ w ((callFunc f xs.toArray).run P w) := by
 unfold ZkD at h
 split at h
 ·rename_i c hc
  split at h
  ·exact YG.of_call (hC.ctr _ _ hc) hR hx h
  ·exact YG.of_call (hC.bd f).call hR hx h
 ·exact YG.of_call (hC.bd f).call hR hx h
theorem Ze4 {t f : Nat} {name : String} (h : ZaW P t name = some f) (v : Value) (w : World) : (method (P.types.size + Made.depth) t v name).run P w = .ok (f, v) w := by
 unfold ZaW at h
 split at h
 ·rename_i i hi
  have hsz : 0 < P.types.size := by
   unfold tyI at hi
   rw [Zjx, ZJc] at hi
   have := (Array.getElem?_eq_some_iff.1 hi).1; omega
  obtain ⟨fu, hfu⟩ : ∃ fu, P.types.size + Made.depth = fu + 1 := ⟨P.types.size + Made.depth - 1, by omega⟩
  rw [hfu]
  have hi := YQ hi
  rw [ZiW, Array.find?_toList] at h
  split at h
  ·rename_i m hm
   split at h
   ·rename_i f' e hp hf ht
    cases h
    have hu := Zf ht
    simp [method, typeInfo, hi, hm, hp, follow, hf, receiverAt, run_underlying hu, Place.get]
   ·cases h
   ·rename_i f' d hd hp hf ht
    cases h
    have hu := Zf ht
    cases d <;> first | exact (hd _ rfl).elim | exact (hd _ _ rfl).elim | exact (hd _ _ hf rfl).elim | simp [method, typeInfo, hi, hm, hp, follow, hf, receiverAt, run_underlying hu, Place.get]
   ·cases h
  ·cases h
 ·cases h
end
end Go.Cx
namespace Go.Cx
open Go.RowKit (Below)
section
variable {P : Program} {w0 : World} {σ : Sg} {hp : H} {n : Nat} {w : World} {fr : F} {ev : Operand -> Value} {k : KS} {φ : Out -> Prop} {ctrs : List (Nat × Option Cn)} {bd rd : Nat -> Cn}
theorem ZD0 (hR : Rel w0 σ hp n w) (hL : ∀ x, VR σ (lk fr x) (ev x)) {c : Call} {b : Builtin} {ty : Nat} {consts : Array Bool} (h : Zv (Zh3 P fr hp n b c.args.toList c.argTypes.toList k) φ) :
  LR P w0 σ n w (builtin b c.argTypes ty consts (c.args.map ev)) k φ := by
 unfold Zh3 at h
 split at h
 ·rename_i d s t t2 ha ht
  have h0 : c.argTypes[0]? = some t := by rw [<- ZJc, ht]; rfl
  have h1 : c.argTypes[1]? = some t2 := by rw [<- ZJc, ht]; rfl
  rw [Zb3 ha]
  exact ZAs hR (hL d) (hL s) h0 h1 h
 ·rename_i d s t ts ha ht
  have h0 : c.argTypes[0]? = some t := by rw [<- ZJc, ht]; rfl
  rw [Zb3 ha]
  exact ZGw hR (hL d) (hL s) h0 h
 ·rename_i x t ts ha ht
  have h0 : c.argTypes[0]? = some t := by rw [<- ZJc, ht]; rfl
  rw [Zb3 ha]
  exact ZEc hR (hL x) h0 h
 ·rename_i m x t ts ha ht
  have h0 : c.argTypes[0]? = some t := by rw [<- ZJc, ht]; rfl
  rw [Zb3 ha]
  exact Zzx hR hL h0 h
 ·obtain ⟨cv, v, g1, g2, g3⟩ := ZtS (k := fun v => k v hp n) (ty := ty) hR hL h (consts := consts)
  exact ⟨w, cv, hp, n, σ, .inl ⟨v, g1, g2⟩, hR, Ex.refl _ _, Nle.refl _, g3⟩
theorem Zm0 (hC : CsOk P w0 ctrs bd rd) (hR : Rel w0 σ hp n w) {g : CV} {vg : Value} (hg : VR σ g vg) {args : List CV} {xs : List Value} (hx : VRs σ args xs) (h : Zv (ZzX P ctrs bd rd g args hp n k) φ) :
  ∃ d, (Deferred.ofValue vg xs.toArray).run P w = .ok d w /\ YG P w0 σ n k φ w ((invoke d.target d.args).run P w) := by
 unfold ZzX at h
 split at h
 ·rename_i f first caps
  simp only [VR] at hg; obtain ⟨us, vs, h1, h2, rfl⟩ := hg
  refine ⟨_, rfl, ?_⟩
  have := Zdu hC hR ((h1.app hx).app h2) h
  have e : (us ++ xs ++ vs).toArray = us.toArray ++ xs.toArray ++ vs.toArray := by apply Array.ext'; simp
  rw [e] at this; exact this
 ·rename_i l
  simp only [VR] at hg; obtain ⟨p, t, hs, rfl⟩ := hg
  refine ⟨_, rfl, ?_⟩
  obtain ⟨os, hl, hgo⟩ := Zby h
  obtain ⟨f, tm, asq, bo, h1, h2⟩ := hC.rd l args hp n σ w xs os p t hR hx hs hl
  refine .inr (.inr (.inr ⟨p, f, tm, asq, bo, ?_, RoundIn.mono h2 fun e w' he => ?_⟩))
  ·have e : (#[] ++ xs.toArray : Array Value) = xs.toArray := by apply Array.ext'; simp
   show (Instr.yield p (#[] ++ xs.toArray)).run P w = _
   rw [e]; exact h1
  ·obtain ⟨v, rfl, hr⟩ := he
   exact ⟨v, rfl, hgo _ _ hr⟩
 ·rename_i name t v
  simp only [VR] at hg; obtain ⟨x, ⟨y, hy, rfl⟩, rfl⟩ := hg
  refine ⟨_, rfl, ?_⟩
  split at h
  ·rename_i f hf
   have := Zdu hC hR (xs := y :: xs) (by simp only [VRs]; exact ⟨y, xs, rfl, hy, hx⟩) h
   have hm := fun w => Ze4 hf y w
   have e0 : (#[Value.iface t y] ++ xs.toArray)[0]? = some (Value.iface t y) := by simp
   have e1 : (#[Value.iface t y] ++ xs.toArray).extract 1 (#[Value.iface t y] ++ xs.toArray).size = xs.toArray := by apply Array.ext'; simp
   have e2 : (#[y] ++ xs.toArray : Array Value) = (y :: xs).toArray := by apply Array.ext'; simp
   simp only [invoke, e0, callMethod, Sem.run_bind, run_program, hm, Result.andThen_ok, e1, e2]
   exact this
  ·exact h.no.elim
 ·exact h.no.elim
theorem ZHX (hC : CsOk P w0 ctrs bd rd) (hR : Rel w0 σ hp n w) (hL : ∀ x, VR σ (lk fr x) (ev x)) {c : Call} {o : Oper} (ho : o.op = .call c) (h : Zv (ZmJ P ctrs bd rd c fr hp n k) φ) :
  YG P w0 σ n k φ w ((execOp ev o).run P w) := by
 have hex : (execOp ev o).run P w = (do let d <- resolve ev c o.type; invoke d.target d.args : Sem Next).run P w := by unfold execOp; rw [ho]
 rw [hex]
 unfold ZmJ at h
 split at h
 ·rename_i f hf
  obtain ⟨d, h1, h2⟩ := Zm0 hC hR (hL f) (Zrh hL c.args.toList) h
  have ea : c.args.map ev = (c.args.toList.map ev).toArray := amap _
  simp only [resolve, hf, Sem.run_bind, ea, h1, Result.andThen_ok]
  exact h2
 ·rename_i b hb
  have := ZD0 (ty := o.type) (consts := c.args.map fun | .const _ => true | _ => false) hR hL h
  simp only [resolve, hb, Sem.run_bind, Sem.run_pure, Result.andThen_ok]
  exact YG.of_LR this
 ·rename_i r name hr
  have hx := hL r
  split at h
  ·rename_i t v e
   rw [e] at hx; simp only [VR] at hx; obtain ⟨y, hy, hv⟩ := hx
   split at h
   ·rename_i f hf
    have := Zdu hC hR (xs := y :: c.args.toList.map ev) (by simp only [VRs]; exact ⟨y, _, rfl, hy, Zrh hL _⟩) h
    have hm := fun w => Ze4 hf y w
    have ea : c.args.map ev = (c.args.toList.map ev).toArray := amap _
    generalize hxs : c.args.toList.map ev = xs at this ea
    have e0 : (#[Value.iface t y] ++ xs.toArray)[0]? = some (Value.iface t y) := by simp
    have e1 : (#[Value.iface t y] ++ xs.toArray).extract 1 (#[Value.iface t y] ++ xs.toArray).size = xs.toArray := by apply Array.ext'; simp
    have e2 : (#[y] ++ xs.toArray : Array Value) = (y :: xs).toArray := by apply Array.ext'; simp
    simp only [resolve, hr, hv, ea, Sem.run_bind, Sem.run_pure, Result.andThen_ok, invoke, e0, callMethod, run_program, hm, e1, e2]
    exact this
   ·exact h.no.elim
  ·exact h.no.elim
theorem ZdK (hC : CsOk P w0 ctrs bd rd) (hR : Rel w0 σ hp n w) (hL : ∀ x, VR σ (lk fr x) (ev x)) {o : Oper} (h : Zv (lev P ctrs bd rd o.op fr hp n k) φ) :
  YG P w0 σ n k φ w ((execOp ev o).run P w) := by
 cases hop : o.op with
 | call c => rw [hop] at h; exact ZHX hC hR hL hop h
 | alloc t => rw [hop] at h; have := ZEJ (P := P) hR h; unfold execOp; rw [hop]; exact YG.of_LR this
 | box t x => rw [hop] at h; have := l_box (P := P) (t := t) hR hL h; unfold execOp; rw [hop]; exact YG.of_LR this
 | store t a v => rw [hop] at h; have := ZEY (P := P) hR hL h; unfold execOp; rw [hop]; exact YG.of_LR this
 | makeSlice t l c => rw [hop] at h; have := ZEk (P := P) hR hL h; unfold execOp; rw [hop]; exact YG.of_LR this
 | makeMap t r => rw [hop] at h; have := ZCg (P := P) hR hL h; unfold execOp; rw [hop]; exact YG.of_LR this
 | buildSlice t len parts => rw [hop] at h; have := Zz1 (P := P) hR hL h; unfold execOp; rw [hop]; exact YG.of_LR this
 | mapUpdate t m x v => rw [hop] at h; have := ZwJ (P := P) hR hL h; unfold execOp; rw [hop]; exact YG.of_LR this
 | insert t m x v => rw [hop] at h; have := ZwJ (P := P) hR hL h; unfold execOp; rw [hop]; exact YG.of_LR this
 | mapEntry t m x => rw [hop] at h; have := Zrc (P := P) hR hL h; unfold execOp; rw [hop]; exact YG.of_LR this
 | entryStore t m s v => rw [hop] at h; have := Zkd (P := P) (t := t) hR hL h; unfold execOp; rw [hop]; exact YG.of_LR this
 | range t x => rw [hop] at h; have := ZCj (P := P) hR hL h; unfold execOp; rw [hop]; exact YG.of_LR this
 | next x str => rw [hop] at h; have := ZHn (P := P) (ty := o.type) hR hL h; unfold execOp; rw [hop]; exact YG.of_LR this
 | entry x => rw [hop] at h; have := ZC8 (P := P) hR hL h; unfold execOp; rw [hop]; exact YG.of_LR this
 | convert s d x => rw [hop] at h; have := ZGD (P := P) hR hL h; unfold execOp; rw [hop]; exact YG.of_LR this
 | _ =>
  have h' : Zv (qev P fr hp o.op (fun v => k v hp n)) φ := by rw [hop] at h ⊢; exact h
  obtain ⟨c, v, g1, g2, g3⟩ := ZaO (k := fun v => k v hp n) hR hL h'
  exact .inl ⟨v, w, g1, c, hp, n, σ, g2, hR, Ex.refl _ _, Nle.refl _, g3⟩
end
end Go.Cx
namespace Go.Cx
open Go.RowKit (Below)
section
variable {P : Program} {w0 : World} {σ : Sg} {hp : H} {n : Nat} {w : World} {fr : F} {a : Act} {φ : Out -> Prop} {ctrs : List (Nat × Option Cn)} {bd rd : Nat -> Cn}
theorem fg_R (h : FrR σ fr a) (t : Nat) : VR σ (fg fr t) (a.tmps.getD t undef) := by
 rw [ZD4]
 cases hb : Nat.blt t fr.n
 ·simp only [cond_false, VR]
 ·simp only [cond_true]
  have hlt : t < fr.n := by simpa [Nat.blt_eq] using hb
  rw [h.sz] at hlt
  refine h.val t _ ?_
  rw [Array.getD_eq_getD_getElem?, Array.getElem?_eq_getElem hlt]; rfl
theorem ZuO (h : FrR σ fr a) {t : Nat} (hj : fg fr t ≠ .junk) : ∃ v, a.tmps[t]? = some v /\ VR σ (fg fr t) v := by
 rw [ZD4] at hj ⊢
 cases hb : Nat.blt t fr.n
 ·rw [hb] at hj; exact absurd rfl hj
 ·simp only [cond_true]
  have hlt : t < fr.n := by simpa [Nat.blt_eq] using hb
  rw [h.sz] at hlt
  exact ⟨a.tmps[t], Array.getElem?_eq_getElem hlt, h.val t _ (Array.getElem?_eq_getElem hlt)⟩
theorem ZpV (h : FrR σ fr a) (x : Operand) : VR σ (lk fr x) (a.eval x) := by
 cases x with
 | tmp t => exact fg_R h t
 | const v => exact Zxb v
 | global g => simp only [lk, VR]
 | func f => simp only [lk, VR, VRs]; exact ⟨[], [], rfl, rfl, rfl⟩
theorem ZgS {i j : Nat} {c : CV} (hn : fr.n <= 511) (hj : j < 512) : Zc9 (Zml fr i c) j = if j = i /\ i < fr.n then c else Zc9 fr j := by
 rw [Zud]
 cases hb : Nat.blt i fr.n
 ·have : ¬ i < fr.n := by intro e; have := Nat.blt_eq.symm ▸ e; rw [this] at hb; cases hb
  rw [if_neg (fun e => this e.2)]; rfl
 ·have hlt : i < fr.n := by simpa [Nat.blt_eq] using hb
  simp only [cond_true]
  rw [Y8 _ _ _ _ (by omega) hj]
  by_cases e : j = i
  ·rw [if_pos e, if_pos ⟨e, hlt⟩]
  ·rw [if_neg e, if_neg (fun h => e h.1)]
theorem Zvw (i : Nat) (c : CV) : (Zml fr i c).n = fr.n := by
 rw [Zud]; cases Nat.blt i fr.n
 ·rfl
 ·exact Zlu _ _ _
theorem Zjq {i : Nat} {c : CV} (hn : fr.n <= 511) : Zc9 (Zml fr i c) ZW = Zc9 fr ZW := by
 rw [ZgS hn (by decide)]
 rw [if_neg (fun h => by have h1 := h.1; have h2 := h.2; unfold ZW at h1; omega)]
theorem NJ.set (h : NJ fr) {i : Nat} {c : CV} (hn : fr.n <= 511) : NJ (Zml fr i c) := by
 intro j h1 h2
 rw [Zvw] at h1
 rw [ZgS hn (by omega), if_neg (fun e => by have := e.1; have := e.2; omega)]
 exact h j h1 h2
theorem NJ.put (h : NJ fr) {d : Option Nat} {c : CV} (hn : fr.n <= 511) : NJ (Zhc fr d c) := by
 cases d with
 | none => exact h
 | some d => exact h.set hn
theorem FrR.set (h : FrR σ fr a) {i : Nat} {c : CV} {v : Value} (hv : VR σ c v) : FrR σ (Zml fr i c) { a with tmps := a.tmps.setIfInBounds i v } := by
 have hs := h.sz
 have hm := h.small
 refine ⟨by rw [Zvw, hs]; simp, by simpa using hm, fun j u hj => ?_, ?_, h.nj.set (by omega)⟩
 ·simp only [Array.getElem?_setIfInBounds] at hj
  have hj' : j < 512 := by
   have : j < a.tmps.size := by
    by_cases e : i = j
    ·subst e
     by_cases hlt : i < a.tmps.size
     ·exact hlt
     ·simp [hlt] at hj
    ·rw [if_neg e] at hj; exact (Array.getElem?_eq_some_iff.1 hj).1
   omega
  rw [ZgS (by omega) hj']
  by_cases e : i = j
  ·subst e
   by_cases hlt : i < a.tmps.size
   ·simp [hlt] at hj; subst hj
    rw [if_pos ⟨rfl, by omega⟩]; exact hv
   ·simp [hlt] at hj
  ·rw [if_neg e] at hj
   rw [if_neg (fun x => e x.1.symm)]
   exact h.val j u hj
 ·have : dfs (Zml fr i c) = dfs fr := by unfold dfs; rw [Zjq (by omega)]
  rw [this]; exact h.df
theorem FrR.put (h : FrR σ fr a) {d : Option Nat} {c : CV} {v : Value} (hv : VR σ c v) : FrR σ (Zhc fr d c) (a.put d v) := by
 cases d with
 | none => exact h
 | some d => exact h.set hv
theorem ZiA (h : FrR σ fr a) (d : Option Nat) (c : CV) : Zc9 (Zhc fr d c) ZW = Zc9 fr ZW := by
 cases d with
 | none => rfl
 | some d => exact Zjq (by rw [h.sz]; exact h.small)
def ZrK (ro : Option Nat) (fr : F) : Prop := ro = none \/ Zc9 fr ZW = .nili
/-! ### Guards -/
theorem Zz9 (ops : Array Oper) (j : Nat) : ZD9 ops.toList j = (ops[j]?).bind (·.dst) := by
 unfold ZD9
 rw [Za7, ZJc]
 cases ops[j]? <;> rfl
theorem Yp (h : FrR σ fr a) (ops : Array Oper) (o : Oper) :
  (Zz ops.toList fr o.guard = .go -> Region.wanted o (yielded ops a.tmps) = true) /\ (Zz ops.toList fr o.guard = .skip -> Region.wanted o (yielded ops a.tmps) = false) := by
 unfold Zz Region.wanted
 cases hg : o.guard with
 | none => simp
 | some jw =>
  obtain ⟨j, want⟩ := jw
  simp only [Zz9]
  cases hd : (ops[j]?).bind (·.dst) with
  | none => simp
  | some d =>
   simp only
   have hy : ∀ v, a.tmps[d]? = some v -> yielded ops a.tmps j = (match v with | .bool b => some b | _ => none) := fun v hv => by
    unfold yielded; rw [hd]; simp only [Option.bind_some]; rw [hv]; cases v <;> rfl
   cases hc : fg fr d with
   | bool b =>
    obtain ⟨v, hv, hr⟩ := ZuO h (t := d) (by rw [hc]; simp)
    rw [hc] at hr; simp only [VR] at hr; subst hr
    rw [hy _ hv]
    simp only
    cases hb : bbq b want
    ·refine ⟨fun e => (by cases e), fun _ => ?_⟩
     have : b ≠ want := fun e => by subst e; cases b <;> cases hb
     simp [this]
    ·have := ZEz hb; subst this
     exact ⟨fun _ => (by simp), fun e => (by cases e)⟩
   | tup l =>
    cases l with
    | nil =>
     obtain ⟨v, hv, hr⟩ := ZuO h (t := d) (by rw [hc]; simp)
     rw [hc] at hr; simp only [VR, VRs] at hr
     obtain ⟨vs, rfl, rfl⟩ := hr
     rw [hy _ hv]
     exact ⟨fun e => (by cases e), fun _ => (by simp)⟩
    | cons x l => simp
   | _ => simp
/-! ### Regions in the order of their text -/
structure St (w0 : World) (ro : Option Nat) (σ : Sg) (n : Nat) (σ' : Sg) (fr' : F) (hp' : H) (n' : Nat) (a' : Act) (w' : World) : Prop where
 rel : Rel w0 σ' hp' n' w'
 fr : FrR σ' fr' a'
 ro : ZrK ro fr'
 ex : Ex n σ σ'
 n : Nle n n'
theorem St.trans {ro : Option Nat} {σ1 σ' : Sg} {n1 n' : Nat} {fr' : F} {hp' : H} {a' : Act} {w' : World} (hx : Ex n σ σ1) (hn : Nle n n1) (h : St w0 ro σ1 n1 σ' fr' hp' n' a' w') : St w0 ro σ n σ' fr' hp' n' a' w' :=
 ⟨h.rel, h.fr, h.ro, hx.trans hn h.ex, hn.trans h.n⟩
theorem Zp5 (fr : F) (l : List CV) : dfs (ZrM fr ZW (.tup l)) = l := by
 unfold dfs; rw [Y8 _ _ _ _ (by decide) (by decide), if_pos rfl]
theorem Zo9 (fr : F) (d : CV) : (Zhl fr d).n = fr.n /\ (∀ j, j < 511 -> Zc9 (Zhl fr d) j = Zc9 fr j) /\ dfs (Zhl fr d) = d :: dfs fr := by
 unfold Zhl
 split
 ·rename_i l hl
  refine ⟨Zlu _ _ _, fun j hj => by rw [Y8 _ _ _ _ (by decide) (by omega), if_neg (by unfold ZW; omega)], ?_⟩
  rw [Zp5]; unfold dfs; rw [hl]
 ·rename_i hl
  refine ⟨Zlu _ _ _, fun j hj => by rw [Y8 _ _ _ _ (by decide) (by omega), if_neg (by unfold ZW; omega)], ?_⟩
  rw [Zp5]
  have : dfs fr = [] := by
   unfold dfs; split
   ·rename_i l hl'; exact (hl _ hl').elim
   ·rfl
  rw [this]
theorem FrR.push (h : FrR σ fr a) {d : CV} {ds : Deferred} (hd : DfR σ (d :: dfs fr) (ds :: a.defers)) : FrR σ (Zhl fr d) { a with defers := ds :: a.defers } := by
 obtain ⟨p1, p2, p3⟩ := Zo9 fr d
 have hs := h.small
 refine ⟨by rw [p1]; exact h.sz, h.small, fun i v hi => ?_, by rw [p3]; exact hd, fun i h1 h2 => by rw [p2 i h2]; exact h.nj i (by rw [p1] at h1; exact h1) h2⟩
 have : i < a.tmps.size := (Array.getElem?_eq_some_iff.1 hi).1
 rw [p2 i (by omega)]; exact h.val i v hi
theorem ZEF {ro : Option Nat} (hF : FrR σ fr a) (hro : ZrK ro fr) {k : KS} {d : Option Nat} {v : Value} {w' : World} (h : ZyU w0 σ n k φ v w') :
  ∃ c hp' n' σ', St w0 ro σ n σ' (Zhc fr d c) hp' n' (a.put d v) w' /\ Zv (k c hp' n') φ := by
 obtain ⟨c, hp', n', σ', hv, hR, hx, hn, hk⟩ := h
 have hF' := hF.mono hx.1
 refine ⟨c, hp', n', σ', ⟨hR, hF'.put hv, ?_, hx, hn⟩, hk⟩
 rcases hro with h | h
 ·exact .inl h
 ·exact .inr (by rw [ZiA hF]; exact h)
theorem ZnA (hC : CsOk P w0 ctrs bd rd) (hR : Rel w0 σ hp n w) (hF : FrR σ fr a) {ro : Option Nat} (hro : ZrK ro fr) {o : Oper} {k : F -> H -> Nat -> Res} (h : Zv (Zlo P ctrs bd rd o fr hp n k) φ)
  {next : Act -> World -> Prop} {Q : Exit -> Act -> World -> Prop} (hnext : ∀ σ' fr' hp' n' a' w', St w0 ro σ n σ' fr' hp' n' a' w' -> Zv (k fr' hp' n') φ -> next a' w') : o.wpIn (FF ro) 0 P a w next Q := by
 unfold Zlo at h
 split at h
 ·rename_i c hop
  split at h
  ·rename_i d hd
   unfold Zh5 at hd
   split at hd
   ·cases hd
   ·rename_i hnn
    have hro' : ro = none := by
     rcases hro with h | h
     ·exact h
     ·exact absurd h hnn
    subst hro'
    split at hd
    ·rename_i f hf
     split at hd
     ·rename_i g fi ca he
      cases hd
      have hv := ZpV hF f
      rw [he] at hv; simp only [VR] at hv
      obtain ⟨us, vs, h1, h2, hv⟩ := hv
      refine ⟨fun f _ => trivial, ?_⟩
      have hrun : ((o.semAt (FF none).round a.eval).run P w) = .ok (.defer { target := .fn (.func g) vs.toArray, args := us.toArray ++ (c.args.toList.map a.eval).toArray }) w := by
       rw [show (FF none).round = none from rfl, Oper.semAt_none]
       unfold execOp; rw [hop]
       simp only [resolve, hf, hv, Deferred.ofValue, Sem.run_bind, Sem.run_pure, Result.andThen_ok, amap]
      rw [hrun, Oper.uponIn_defer]
      have hF2 := hF.push (d := .tup (.fn g fi ca :: lks fr c.args.toList)) (ds := { target := .fn (.func g) vs.toArray, args := us.toArray ++ (c.args.toList.map a.eval).toArray }) (by
       unfold DfR; exact ⟨us, vs, _, _, h1, h2, Zrh (ZpV hF) _, rfl, hF.df⟩)
      exact hnext _ _ _ _ _ _ ⟨hR, hF2.put ZbB, .inl rfl, Ex.refl _ _, Nle.refl _⟩ h
     ·cases hd
    ·cases hd
  ·exact h.no.elim
 ·rename_i hnd
  refine YG.wpIn (fun c hc => hnd c hc) (ZdK hC hR (ZpV hF) h) (fun v w' hg => ?_)
  obtain ⟨c, hp', n', σ', hS, hk⟩ := ZEF (ro := ro) (d := o.dst) hF hro hg
  exact hnext _ _ _ _ _ _ hS hk
theorem ZeF (hC : CsOk P w0 ctrs bd rd) {ro : Option Nat} {ops : Array Oper} {Q : Exit -> Act -> World -> Prop} {k : F -> H -> Nat -> Res} :
  ∀ (l : List Oper) (i : Nat) {σ : Sg} {hp : H} {n : Nat} {w : World} {fr : F} {a : Act}, ops.toList.drop i = l -> Rel w0 σ hp n w -> FrR σ fr a -> ZrK ro fr -> Zv (ZBh P ctrs bd rd ops.toList l fr hp n k) φ →
   (∀ σ' fr' hp' n' a' w', St w0 ro σ n σ' fr' hp' n' a' w' -> Zv (k fr' hp' n') φ -> Q .normal a' w') -> wpOpsIn (FF ro) 0 P ops Q (List.range' i l.length) a w
 | [], i, σ, hp, n, w, fr, a, hl, hR, hF, hro, h, hQ => hQ _ _ _ _ _ _ ⟨hR, hF, hro, Ex.refl _ _, Nle.refl _⟩ h
 | o :: rest, i, σ, hp, n, w, fr, a, hl, hR, hF, hro, h, hQ => by
  have hi : ops[i]? = some o := by
   rw [<- ZJc]
   have := congrArg (fun l => l[0]?) hl
   simpa using this
  have hrest : ops.toList.drop (i + 1) = rest := by
   have := congrArg List.tail hl
   simpa [List.tail_drop] using this
  simp only [ZJH, List.range'_succ, wpOpsIn, hi]
  simp only [ZBh] at h
  have hg := Yp hF ops o
  split at h
  ·rename_i hgo
   rw [if_pos (hg.1 hgo)]
   refine ZnA hC hR hF hro h (fun σ' fr' hp' n' a' w' hS hk => ?_)
   exact ZeF hC rest (i + 1) hrest hS.rel hS.fr hS.ro hk (fun σ2 fr2 hp2 n2 a2 w2 hS2 hk2 => hQ _ _ _ _ _ _ (St.trans hS.ex hS.n hS2) hk2)
  ·rename_i hgs
   rw [if_neg (by rw [hg.2 hgs]; simp)]
   refine ⟨fun f _ => trivial, ?_⟩
   refine ZeF hC rest (i + 1) hrest hR (hF.put ZbB) ?_ h hQ
   rcases hro with h | h
   ·exact .inl h
   ·exact .inr (by rw [ZiA hF]; exact h)
  ·exact h.no.elim
end
end Go.Cx
namespace Go.Cx
open Go.RowKit (Below)
section
variable {P : Program} {ro : Option Nat}
def Yi (P : Program) (ro : Option Nat) (ops : Array Oper) (Q : Exit -> Act -> World -> Prop) (T : Array Bool -> World -> Prop) : Nat -> Array Bool -> Act -> World -> Prop
 | 0, listed, a, w => Region.ready .any ops listed = [] /\ Q .normal a w
 | fuel + 1, listed, a, w =>
  (Region.ready .any ops listed = [] -> Q .normal a w) ∧
  ∀ i ∈ Region.ready .any ops listed, wpOpIn (FF ro) 0 P ops Q i (fun a' w' => T (listed.setIfInBounds i true) w' /\ Yi P ro ops Q T fuel (listed.setIfInBounds i true) a' w') a w
theorem Zbf {ops : Array Oper} {Q : Exit -> Act -> World -> Prop} {T : Array Bool -> World -> Prop} : ∀ (fuel : Nat) (listed : Array Bool) (a : Act) (w : World), Yi P ro ops Q T fuel listed a w -> wpAnyIn (FF ro) 0 P .any ops Q fuel listed a w
 | 0, _, _, _, h => h
 | fuel + 1, _, _, _, h => ⟨h.1, fun i hi => wpOpIn_mono (fun a' w' h' => Zbf fuel _ a' w' h'.2) (h.2 i hi)⟩
theorem ZaG {ops : Array Oper} {Q : Exit -> Act -> World -> Prop} {T T' : Array Bool -> World -> Prop} (hT : ∀ l w, T l w -> T' l w) : ∀ (fuel : Nat) (listed : Array Bool) (a : Act) (w : World), Yi P ro ops Q T fuel listed a w -> Yi P ro ops Q T' fuel listed a w
 | 0, _, _, _, h => h
 | fuel + 1, _, _, _, h => ⟨h.1, fun i hi => wpOpIn_mono (fun a' w' h' => ⟨hT _ _ h'.1, ZaG hT fuel _ a' w' h'.2⟩) (h.2 i hi)⟩
def ZaT (ops : Array Oper) (listed : Array Bool) : Prop := ∀ j o, ops[j]? = some o -> listed.getD j true = true -> ∀ e ∈ o.after, Region.binds .any e = true -> listed.getD e.on false = true
def ZB (P : Program) (ops : Array Oper) (T : Array Bool -> World -> Prop) (i : Nat) (o : Oper) (v : Value) (a : Act) : Prop :=
 (Region.wanted o (yielded ops a.tmps) = true /\ ∀ l w, ZaT ops l -> l.getD i true = false -> T l w -> (execOp a.eval o).run P w = .ok (.value v) w) ∨
 (Region.wanted o (yielded ops a.tmps) = false /\ v = undef)
theorem ZB.wpOp {ops : Array Oper} {Q : Exit -> Act -> World -> Prop} {T : Array Bool -> World -> Prop} {i : Nat} {o : Oper} {v : Value} {a : Act} (hi : ops[i]? = some o) (hnd : ∀ c, o.op ≠ .defer c) (hy : ZB P ops T i o v a)
  {l : Array Bool} {K : Act -> World -> Prop} {w : World} (hc : ZaT ops l) (hl : l.getD i true = false) (hT : T l w) (h : K (a.put o.dst v) w) : wpOpIn (FF ro) 0 P ops Q i K a w := by
 unfold Go.wpOpIn
 simp only [hi]
 rcases hy with ⟨hw, hv⟩ | ⟨hw, rfl⟩
 ·simp only [hw, if_true]
  refine ⟨fun f _ => trivial, ?_⟩
  rw [show (FF ro).round = ro from rfl, Oper.semAt_eq ro a.eval o hnd, hv l w hc hl hT]
  exact h
 ·simp only [hw, Bool.false_eq_true, if_false]; exact ⟨fun f _ => trivial, h⟩
theorem ZB.of_same {ops : Array Oper} {T : Array Bool -> World -> Prop} {i : Nat} {o : Oper} {v : Value} {a a' : Act} (hy : ZB P ops T i o v a) (he : execOp a'.eval o = execOp a.eval o)
  (hw : Region.wanted o (yielded ops a'.tmps) = Region.wanted o (yielded ops a.tmps)) : ZB P ops T i o v a' := by
 unfold ZB at *
 rw [he, hw]
 exact hy
theorem ZfK {ops : Array Oper} {Q : Exit -> Act -> World -> Prop} {T : Array Bool -> World -> Prop} {i j : Nat} {oi oj : Oper} {v : Value} (hj : ops[j]? = some oj) (hap : oi.apart ops oj = true)
  (hsi : ∀ cs b, oi.op ≠ .select cs b) (hsj : ∀ cs b, oj.op ≠ .select cs b) (hnd : ∀ c, oj.op ≠ .defer c)
  (hQ : ∀ c a w, Q (.panic c) (a.put oi.dst v) w -> Q (.panic c) a w) {K : Act -> World -> Prop} {a : Act} {w : World}
  (hy : ZB P ops T i oi v a) (h : wpOpIn (FF ro) 0 P ops Q j K (a.put oi.dst v) w) :
  wpOpIn (FF ro) 0 P ops Q j (fun a' w' => ZB P ops T i oi v a' /\ K (a'.put oi.dst v) w') a w := by
 obtain ⟨h1, h2, h3⟩ := Oper.apart_spec hap
 have keep : ∀ (a : Act), ZB P ops T i oi v a -> ∀ u, ZB P ops T i oi v (a.put oj.dst u) := fun a hy u =>
  hy.of_same (execOp_put oi hsi a oj.dst u h3) (wanted_put oi a oj.dst u h3)
 have keepD : ∀ d, ZB P ops T i oi v { a with defers := d :: a.defers } := fun d => hy.of_same rfl rfl
 unfold wpOpIn at *
 simp only [hj] at *
 rw [wanted_put oj a oi.dst v h1] at h
 split
 ·rename_i hw
  simp only [hw, if_true] at h
  refine ⟨fun f _ => trivial, ?_⟩
  have h := h.2
  rw [show (FF ro).round = ro from rfl, Oper.semAt_eq ro _ oj hnd] at h ⊢
  rw [execOp_put oj hsj a oi.dst v h1] at h
  generalize (execOp a.eval oj).run P w = r at *
  cases r with
  | ok n w' =>
   cases n <;> simp only [Oper.uponIn] at h ⊢
   case value u => exact ⟨keep a hy u, by rw [<- Act.put_comm a v u h2]; exact h⟩
   case skip => exact ⟨keep a hy _, by rw [<- Act.put_comm a v undef h2]; exact h⟩
   case defer d =>
    refine ⟨keep _ (keepD d) _, ?_⟩
    rw [<- Act.put_comm _ v undef h2, <- Act.put_defers]
    exact h
   case enter f args =>
    refine ⟨h.1, CallsIn.mono h.2 fun e w'' he => ?_⟩
    cases e with
    | returned u => exact ⟨keep a hy u, by rw [<- Act.put_comm a v u h2]; exact he⟩
    | panicked c => exact hQ _ _ _ he
    | outgrown => exact he
   case row row args => exact ⟨h.1, RowsIn.mono h.2 fun u w'' he => ⟨keep a hy u, by rw [<- Act.put_comm a v u h2]; exact he⟩⟩
   case round l f tm asq bo =>
    refine ⟨h.1, RoundIn.mono h.2 fun e w'' he => ?_⟩
    cases e with
    | returned u => exact ⟨keep a hy u, by rw [<- Act.put_comm a v u h2]; exact he⟩
    | panicked c => exact hQ _ _ _ he
    | outgrown => exact he
  | halt x w' =>
   cases x <;> simp only [Oper.uponIn] at h ⊢
   case panic u => exact hQ _ _ _ h
 ·rename_i hw
  simp only [hw] at h
  exact ⟨fun f _ => trivial, keep a hy _, by rw [<- Act.put_comm a v undef h2]; exact h.2⟩
theorem ZaT.set {ops : Array Oper} {l : Array Bool} {i : Nat} (h : ZaT ops l) (hi : i ∈ Region.ready .any ops l) : ZaT ops (l.setIfInBounds i true) := by
 intro j o hj hl e he hb
 by_cases hji : j = i
 ·subst hji
  obtain ⟨_, o', ho', hall⟩ := mem_ready.1 hi
  rw [hj] at ho'; cases ho'
  exact getD_set_true (hall e he hb)
 ·rw [getD_set_ne true (Ne.symm hji)] at hl
  exact getD_set_true (h j o hj hl e he hb)
theorem Zca {ops : Array Oper} {Q : Exit -> Act -> World -> Prop} {T : Array Bool -> World -> Prop} {i : Nat} {oi : Oper} {v : Value} (hi : ops[i]? = some oi) (hsel : ∀ (j : Nat) (o : Oper) cs b, ops[j]? = some o -> o.op ≠ .select cs b)
  (hnd : ∀ (j : Nat) (o : Oper) c, ops[j]? = some o -> o.op ≠ .defer c)
  (hQ : ∀ c a w, Q (.panic c) (a.put oi.dst v) w -> Q (.panic c) a w) (hTi : ∀ l w, T (l.setIfInBounds i true) w -> T l w) :
  ∀ (fuel : Nat) (listed : Array Bool) (a : Act) (w : World), ZaT ops listed →
   (∀ j oj, ops[j]? = some oj -> j ≠ i -> listed.getD j true = false -> (∀ e ∈ oj.after, Region.binds .any e = true -> e.on ≠ i) -> oi.apart ops oj = true) →
   i ∈ Region.ready .any ops listed -> ZB P ops T i oi v a -> T listed w -> T (listed.setIfInBounds i true) w →
   Yi P ro ops Q T fuel (listed.setIfInBounds i true) (a.put oi.dst v) w -> Yi P ro ops Q T (fuel + 1) listed a w := by
 intro fuel
 induction fuel with
 | zero =>
  intro listed a w hc _ hr hy hT hT' H
  refine ⟨fun h => (by rw [h] at hr; cases hr), fun j hj => ?_⟩
  by_cases hji : j = i
  ·subst hji; exact hy.wpOp hi (fun c => hnd j oi c hi) hc (mem_ready.1 hr).1 hT ⟨hT', H⟩
  ·have := ready_mono hj hji
   rw [H.1] at this
   cases this
 | succ fuel ih =>
  intro listed a w hc hfree hr hy hT hT' H
  refine ⟨fun h => (by rw [h] at hr; cases hr), fun j hj => ?_⟩
  by_cases hji : j = i
  ·subst hji; exact hy.wpOp hi (fun c => hnd j oi c hi) hc (mem_ready.1 hr).1 hT ⟨hT', H⟩
  ·have h1 := H.2 j (ready_mono hj hji)
   obtain ⟨hjun, oj, hoj, hall⟩ := mem_ready.1 hj
   have hnot : ∀ e ∈ oj.after, Region.binds .any e = true -> e.on ≠ i := fun e he hb heq => by
    have h1 := hall e he hb
    have h0 := (mem_ready.1 hr).1
    rw [heq] at h1
    rcases ZJh i listed.size with h' | h'
    ·simp [h'] at h0 h1; rw [h0] at h1; cases h1
    ·simp [Array.getElem?_eq_none h'] at h1
   have h2 := ZfK hoj (hfree j oj hoj hji hjun hnot) (fun cs b => hsel i oi cs b hi) (fun cs b => hsel j oj cs b hoj) (fun c => hnd j oj c hoj) hQ hy h1
   have hfree' : ∀ k ok, ops[k]? = some ok -> k ≠ i -> (listed.setIfInBounds j true).getD k true = false →
     (∀ e ∈ ok.after, Region.binds .any e = true -> e.on ≠ i) -> oi.apart ops ok = true := fun k ok hk hki hun hno => by
    refine hfree k ok hk hki ?_ hno
    by_cases hjk : j = k
    ·subst hjk; exact hjun
    ·rw [getD_set_ne true hjk] at hun; exact hun
   refine wpOpIn_mono (fun a' w' h3 => ?_) h2
   obtain ⟨hy', hT3, H3⟩ := h3
   rw [Array.setIfInBounds_comm _ _ (Ne.symm hji)] at hT3 H3
   have hT4 := hTi _ _ hT3
   exact ⟨hT4, ih (listed.setIfInBounds j true) a' w' (hc.set hj) hfree' (ready_mono hr (Ne.symm hji)) hy' hT4 hT3 H3⟩
/-! ### What is left -/
def left (listed : Array Bool) : Nat := listed.toList.countP (· == false)
theorem Zap {l : Array Bool} {i : Nat} (h : l.getD i true = false) : left (l.setIfInBounds i true) + 1 = left l := by
 unfold left
 rw [Array.toList_setIfInBounds]
 rw [Array.getD_eq_getD_getElem?, <- ZJc] at h
 revert h
 generalize l.toList = m
 intro h
 induction m generalizing i with
 | nil => simp at h
 | cons b m ih =>
  cases i with
  | zero => simp at h; subst h; simp
  | succ i =>
   have := ih (i := i) (by simpa using h)
   simp only [List.set_cons_succ, List.countP_cons]
   omega
theorem ZfQ {l : Array Bool} {i : Nat} (h : l.getD i true = false) : i < l.size := by
 rcases ZJh i l.size with h' | h'
 ·exact h'
 ·simp [Array.getElem?_eq_none h'] at h
theorem Zx {l : Array Bool} {i : Nat} (h : l.getD i true = false) (d : Bool) : (l.setIfInBounds i true).getD i d = true := by
 simp [ZfQ h]
theorem Zbx {ops : Array Oper} {Q : Exit -> Act -> World -> Prop} {T : Array Bool -> World -> Prop} {listed : Array Bool} {a : Act} {w : World} (hr : Region.ready .any ops listed = []) (h : Q .normal a w) : ∀ k, Yi P ro ops Q T k listed a w
 | 0 => ⟨hr, h⟩
 | k + 1 => ⟨fun _ => h, by rw [hr]; simp⟩
structure Say where
 i : Nat
 o : Oper
 ev : Operand -> Value
 v : Value
def Zaj (ops : Array Oper) (X : Nat -> Prop) (l : Array Bool) (s : Say) : Prop :=
 ∀ j o, ops[j]? = some o -> ¬ X j -> l.getD j true = true -> ZdM o s.i = false
def TR (P : Program) (ops : Array Oper) (X : Nat -> Prop) (R : List Say) (l : Array Bool) (w : World) : Prop :=
 ∀ s ∈ R, Zaj ops X l s -> (execOp s.ev s.o).run P w = .ok (.value s.v) w
theorem ZeC {ops : Array Oper} {X : Nat -> Prop} {l : Array Bool} {i : Nat} {s : Say} (hl : l.getD i true = false) (h : Zaj ops X (l.setIfInBounds i true) s) : Zaj ops X l s := by
 intro j o hj hx hlj
 refine h j o hj hx ?_
 by_cases hij : i = j
 ·subst hij; exact Zx hl _
 ·rw [getD_set_ne true hij]; exact hlj
theorem Zbh {ops : Array Oper} {X : Nat -> Prop} {l : Array Bool} {i : Nat} {s : Say} (hl : l.getD i true = false) (h : Zaj ops (fun j => X j \/ j = i) l s) : Zaj ops X l s := by
 intro j o hj hx hlj
 refine h j o hj (fun h' => ?_) hlj
 rcases h' with h' | rfl
 ·exact hx h'
 ·rw [hl] at hlj; cases hlj
theorem Yu {ops : Array Oper} {X : Nat -> Prop} {l : Array Bool} {i : Nat} {s : Say} (h : Zaj ops (fun j => X j \/ j = i) (l.setIfInBounds i true) s) : Zaj ops (fun j => X j \/ j = i) l s := by
 intro j o hj hx hlj
 have hij : i ≠ j := fun h' => hx (.inr h'.symm)
 exact h j o hj hx (by rw [getD_set_ne true hij]; exact hlj)
theorem valid_setX' {ops : Array Oper} {X : Nat -> Prop} {l : Array Bool} {i : Nat} {s : Say} (h : Zaj ops (fun j => X j \/ j = i) l s) : Zaj ops (fun j => X j \/ j = i) (l.setIfInBounds i true) s := by
 intro j o hj hx hlj
 have hij : i ≠ j := fun h' => hx (.inr h'.symm)
 exact h j o hj hx (by rw [getD_set_ne true hij] at hlj; exact hlj)
theorem Zht {φ : Out -> Prop} {f : Nat -> Res} : ∀ {l : List Nat}, Zv (ZmK f l) φ -> ∀ e ∈ l, Zv (f e) φ
 | [], _, e, he => by cases he
 | [a], h, e, he => by
  simp only [ZJg] at he; subst he; exact h
 | a :: b :: l, h, e, he => by
  simp only [ZmK] at h
  obtain ⟨h1, h2⟩ := h.cat
  rcases List.mem_cons.1 he with rfl | he
  ·exact h1
  ·exact Zht h2 e he
theorem Yl {fr : F} {ops : List Oper} : ∀ {l : List Nat} {i : Nat} {o : Oper}, ZR P fr ops l = some (i, o) -> i ∈ l /\ Zeb ops i = some o
 | [], _, _, h => nomatch h
 | j :: l, i, o, h => by
  simp only [ZR] at h
  split at h
  ·rename_i o' ho
   cases hq : ZeB P fr ops o'
   ·rw [hq] at h; have := Yl h; exact ⟨ZJt _ this.1, this.2⟩
   ·rw [hq] at h; cases h; exact ⟨ZJv, ho⟩
  ·cases h
end
end Go.Cx
namespace Go.Cx
open Go.RowKit (Below)
theorem ZvE {lim id : Nat} (h : id < 1048576) : idN (mkN lim id) = id /\ Yx (mkN lim id) = lim := by unfold idN Yx mkN; omega
theorem Rel.renum {w0 : World} {σ : Sg} {hp : H} {n m : Nat} {w : World} (h : Rel w0 σ hp n w) (hf : ∀ i, idN m <= i -> i < Yx m -> σ i = none) (hl : Yx m <= 32768) : Rel w0 σ hp m w :=
 ⟨h.hold, h.apart, h.old, hf, hl, h.below⟩
theorem ZdL : ∀ {l : List Oper} {j : Nat} {o : Oper}, l[j]? = some o -> Yc o.op = true -> Za5 l j < ZaS l
 | [], j, o, h, _ => by cases h
 | x :: l, 0, o, h, ha => by
  simp at h; subst h
  simp only [Za5, ZaS, ha, cond_true]; omega
 | x :: l, j + 1, o, h, ha => by
  have := ZdL (l := l) (j := j) (by simpa using h) ha
  simp only [Za5, ZaS]
  cases Yc x.op
  ·simpa using this
  ·simp only [cond_true]; omega
theorem Zl0 : ∀ {l : List Oper} {j k : Nat} {o p : Oper}, l[j]? = some o -> l[k]? = some p -> Yc o.op = true -> Yc p.op = true -> j ≠ k -> Za5 l j ≠ Za5 l k
 | [], j, k, o, p, h, _, _, _, _ => by cases h
 | x :: l, 0, 0, o, p, _, _, _, _, hne => absurd rfl hne
 | x :: l, 0, k + 1, o, p, h, hk, ha, hb, _ => by
  simp at h; subst h
  simp only [Za5, ha, cond_true]; omega
 | x :: l, j + 1, 0, o, p, h, hk, ha, hb, _ => by
  simp at hk; subst hk
  simp only [Za5, hb, cond_true]; omega
 | x :: l, j + 1, k + 1, o, p, h, hk, ha, hb, hne => by
  have := Zl0 (l := l) (j := j) (k := k) (by simpa using h) (by simpa using hk) ha hb (by omega)
  simp only [Za5]
  cases Yc x.op
  ·simpa using this
  ·simp only [cond_true]; omega
theorem Zab {α : Type} : ∀ {l : List (Nat × α)} {i : Nat} {x : α}, ZS l i = some x -> (i, x) ∈ l
 | [], i, x, h => by cases h
 | (j, y) :: l, i, x, h => by
  unfold ZS at h
  cases hb : Nat.beq j i
  ·rw [hb] at h; exact ZJt _ (Zab h)
  ·rw [hb] at h; cases h; rw [nbq hb]; exact ZJv
structure Inv (ops : Array Oper) (n0 : Nat) (listed : Array Bool) (rs : List (Nat × Nat)) (σ : Sg) (n : Nat) : Prop where
 lo : n0 + ZaS ops.toList <= idN n
 fa : ∀ j o, ops[j]? = some o -> listed.getD j true = false -> Yc o.op = true -> σ (n0 + Za5 ops.toList j) = none
 fr : ∀ j i, (j, i) ∈ rs -> listed.getD j true = false -> ∀ x, i <= x -> x < i + YD -> σ x = none
 rb : ∀ j i, (j, i) ∈ rs -> n0 + ZaS ops.toList <= i /\ i + YD <= idN n
 dj : ∀ j i j' i', (j, i) ∈ rs -> (j', i') ∈ rs -> j ≠ j' -> i + YD <= i' \/ i' + YD <= i
theorem Inv.less {ops : Array Oper} {n0 : Nat} {listed : Array Bool} {rs : List (Nat × Nat)} {σ : Sg} {n : Nat} (h : Inv ops n0 listed rs σ n) (i : Nat) : Inv ops n0 (listed.setIfInBounds i true) rs σ n := by
 have key : ∀ j, (listed.setIfInBounds i true).getD j true = false -> listed.getD j true = false := fun j hj => by
  by_cases e : i = j
  ·subst e
   by_cases hlt : i < listed.size
   ·simp [hlt] at hj
   ·simp [hlt] at hj
  ·rwa [getD_set_ne true e] at hj
 exact ⟨h.lo, fun j o hj hl ha => h.fa j o hj (key j hl) ha, fun j i hm hl => h.fr j i hm (key j hl), h.rb, h.dj⟩
theorem unl {listed : Array Bool} {i j : Nat} (h : (listed.setIfInBounds i true).getD j true = false) : j ≠ i /\ listed.getD j true = false := by
 by_cases e : i = j
 ·subst e
  by_cases hlt : i < listed.size
  ·simp [hlt] at h
  ·simp [hlt] at h
 ·exact ⟨fun x => e x.symm, by rwa [getD_set_ne true e] at h⟩
section
variable {P : Program} {w0 : World} {σ : Sg} {hp : H} {n : Nat} {w : World} {fr : F} {ev : Operand -> Value} {k : KS} {φ : Out -> Prop} {ctrs : List (Nat × Option Cn)} {bd rd : Nat -> Cn}
def GoesA (w0 : World) (ops : Array Oper) (n0 : Nat) (listed : Array Bool) (rs : List (Nat × Nat)) (σ : Sg) (n : Nat) (k : KS) (φ : Out -> Prop) (v : Value) (w' : World) : Prop :=
 ∃ c hp' n' σ', VR σ' c v /\ Rel w0 σ' hp' n' w' /\ Le σ σ' /\ (∀ i, ¬ (n0 <= i /\ i < Yx n) -> σ' i = σ i) /\ Nle n n' /\ Inv ops n0 listed rs σ' n' /\ Zv (k c hp' n') φ
theorem ZqP (hC : CsOk P w0 ctrs bd rd) {ops : Array Oper} {n0 : Nat} {listed : Array Bool} {rs : List (Nat × Nat)} (hI : Inv ops n0 listed rs σ n) (hhi : idN n <= Yx n) (hR : Rel w0 σ hp n w) (hL : ∀ x, VR σ (lk fr x) (ev x))
  {j : Nat} {o : Oper} (hj : ops[j]? = some o) (hun : listed.getD j true = false) (h : Zv (ZFB P ctrs bd rd ops.toList n0 j rs o.op fr hp n k) φ) :
  ∃ ns ks, YG P w0 σ ns ks φ w ((execOp ev o).run P w) /\ ∀ v w', ZyU w0 σ ns ks φ v w' -> GoesA w0 ops n0 (listed.setIfInBounds j true) rs σ n k φ v w' := by
 have hlim := hR.lim
 have hlo := hI.lo
 have hjl : ops.toList[j]? = some o := by rw [ZJc]; exact hj
 unfold ZFB at h
 cases ha : Yc o.op
 ·rw [ha] at h; simp only [cond_false] at h
  split at h
  ·rename_i i hi
   have hm := Zab hi
   obtain ⟨b1, b2⟩ := hI.rb _ _ hm
   obtain ⟨e1, e2⟩ := ZvE (lim := i + YD) (id := i) (by omega)
   have hR' : Rel w0 σ hp (mkN (i + YD) i) w := hR.renum (fun x h1 h2 => hI.fr _ _ hm hun x (by rw [e1] at h1; exact h1) (by rw [e2] at h2; exact h2)) (by rw [e2]; omega)
   refine ⟨_, _, ZdK hC hR' hL h, ?_⟩
   rintro v w' ⟨c, hp', n', σ', g1, g2, g3, g4, g5⟩
   have same : ∀ x, ¬ (i <= x /\ x < i + YD) -> σ' x = σ x := fun x hx => g3.2 x (by rw [e1, e2]; exact hx)
   refine ⟨c, hp', n, σ', g1, g2.renum (fun x h1 h2 => by rw [same x (by omega)]; exact hR.fresh x h1 h2) hlim, g3.1, fun x hx => same x (by omega), Nle.refl _, ⟨hlo, fun j' o' hj' hl' ha' => ?_, fun j' i' hm' hl' x h1 h2 => ?_, hI.rb, hI.dj⟩, g5⟩
   ·obtain ⟨hne, hl'⟩ := unl hl'
    have := ZdL (l := ops.toList) (j := j') (by rw [ZJc]; exact hj') ha'
    rw [same _ (by omega)]; exact hI.fa j' o' hj' hl' ha'
   ·obtain ⟨hne, hl'⟩ := unl hl'
    have := hI.dj _ _ _ _ hm hm' (Ne.symm hne)
    rw [same _ (by omega)]; exact hI.fr j' i' hm' hl' x h1 h2
  ·refine ⟨_, _, ZdK hC hR hL h, ?_⟩
   rintro v w' ⟨c, hp', n', σ', g1, g2, g3, g4, g5⟩
   refine ⟨c, hp', n', σ', g1, g2, g3.1, fun x hx => g3.2 x (by omega), g4, ⟨by have := g4.1; omega, fun j' o' hj' hl' ha' => ?_, fun j' i' hm' hl' x h1 h2 => ?_, fun j' i' hm' => ⟨(hI.rb _ _ hm').1, by have := (hI.rb _ _ hm').2; have := g4.1; omega⟩, hI.dj⟩, g5⟩
   ·obtain ⟨hne, hl'⟩ := unl hl'
    have := ZdL (l := ops.toList) (j := j') (by rw [ZJc]; exact hj') ha'
    rw [g3.2 _ (by omega)]; exact hI.fa j' o' hj' hl' ha'
   ·obtain ⟨hne, hl'⟩ := unl hl'
    have := hI.rb _ _ hm'
    rw [g3.2 _ (by omega)]; exact hI.fr j' i' hm' hl' x h1 h2
 ·rw [ha] at h; simp only [cond_true] at h
  have hr := ZdL hjl ha
  obtain ⟨e1, e2⟩ := ZvE (lim := n0 + Za5 ops.toList j + 1) (id := n0 + Za5 ops.toList j) (by omega)
  have hR' : Rel w0 σ hp (mkN (n0 + Za5 ops.toList j + 1) (n0 + Za5 ops.toList j)) w := hR.renum (fun x h1 h2 => by
   rw [e1] at h1; rw [e2] at h2
   have : x = n0 + Za5 ops.toList j := by omega
   rw [this]; exact hI.fa j o hj hun ha) (by rw [e2]; omega)
  refine ⟨_, _, ZdK hC hR' hL h, ?_⟩
  rintro v w' ⟨c, hp', n', σ', g1, g2, g3, g4, g5⟩
  have same : ∀ x, x ≠ n0 + Za5 ops.toList j -> σ' x = σ x := fun x hx => g3.2 x (by rw [e1, e2]; omega)
  refine ⟨c, hp', n, σ', g1, g2.renum (fun x h1 h2 => by rw [same x (by omega)]; exact hR.fresh x h1 h2) hlim, g3.1, fun x hx => same x (by omega), Nle.refl _, ⟨hlo, fun j' o' hj' hl' ha' => ?_, fun j' i' hm' hl' x h1 h2 => ?_, hI.rb, hI.dj⟩, g5⟩
  ·obtain ⟨hne, hl'⟩ := unl hl'
   have := Zl0 (l := ops.toList) (by rw [ZJc]; exact hj') hjl ha' ha hne
   rw [same _ (by omega)]; exact hI.fa j' o' hj' hl' ha'
  ·obtain ⟨hne, hl'⟩ := unl hl'
   have := hI.rb _ _ hm'
   rw [same _ (by omega)]; exact hI.fr j' i' hm' hl' x h1 h2
end
theorem ZcF (ops : List Oper) : ∀ (l : List Nat) (rs : List (Nat × Nat)) (n : Nat), n <= (Zbz ops l rs n).2
 | [], rs, n => ZJd _
 | j :: l, rs, n => by
  unfold Zbz
  split
  ·rename_i o ho
   cases Zqz o.op
   ·exact ZcF ops l rs n
   ·simp only [cond_true]
    split
    ·exact ZcF ops l rs n
    ·exact Nat.le_trans (Nat.le_add_right _ _) (ZcF ops l _ (n + YD))
  ·exact ZcF ops l rs n
theorem ZaH {ops : Array Oper} {n0 : Nat} {listed : Array Bool} {σ : Sg} : ∀ (l : List Nat) (rs : List (Nat × Nat)) (n : Nat), Inv ops n0 listed rs σ n -> Yx (Zbz ops.toList l rs n).2 = Yx n →
  (∀ x, idN n <= x -> x < idN (Zbz ops.toList l rs n).2 -> σ x = none) -> Inv ops n0 listed (Zbz ops.toList l rs n).1 σ (Zbz ops.toList l rs n).2
 | [], rs, n, h, _, _ => h
 | j :: l, rs, n, h, hl, hf => by
  unfold Zbz at hl hf ⊢
  split at hl
  ·rename_i o ho
   simp only [ho] at hf ⊢
   cases hc : Zqz o.op
   ·rw [hc] at hl hf; exact ZaH l rs n h hl hf
   ·rw [hc] at hl hf
    simp only [cond_true] at hl hf ⊢
    cases has : ZS rs j with
    | some i => rw [has] at hl hf; exact ZaH l rs n h hl hf
    | none =>
     rw [has] at hl hf
     simp only at hl hf ⊢
     have hle := ZcF ops.toList l ((j, idN n) :: rs) (n + YD)
     generalize hg : Zbz ops.toList l ((j, idN n) :: rs) (n + YD) = g at hl hf hle
     have e1 : Yx (n + YD) = Yx n := by unfold Yx YD at *; omega
     have e2 : idN (n + YD) = idN n + YD := by unfold idN Yx YD at *; omega
     have e3 : idN (n + YD) <= idN g.2 := by unfold idN Yx YD at *; omega
     have := ZaH (listed := listed) (σ := σ) (n0 := n0) l ((j, idN n) :: rs) (n + YD) ⟨by have := h.lo; omega, h.fa, fun j' i' hm hl' x h1 h2 => ?_, fun j' i' hm => ?_, fun j1 i1 j2 i2 h1 h2 hne => ?_⟩ (by rw [hg, hl, e1]) (by rw [hg]; exact fun x h1 h2 => hf x (by omega) h2)
     ·rw [hg] at this; exact this
     ·rcases List.mem_cons.1 hm with e | hm
      ·cases e; exact hf x h1 (by omega)
      ·exact h.fr j' i' hm hl' x h1 h2
     ·rcases List.mem_cons.1 hm with e | hm
      ·cases e; exact ⟨h.lo, by omega⟩
      ·have := h.rb _ _ hm; exact ⟨this.1, by omega⟩
     ·rcases List.mem_cons.1 h1 with e | h1
      ·cases e
       rcases List.mem_cons.1 h2 with e | h2
       ·cases e; exact absurd rfl hne
       ·have := h.rb _ _ h2; right; exact this.2
      ·rcases List.mem_cons.1 h2 with e | h2
       ·cases e; have := h.rb _ _ h1; left; exact this.2
       ·exact h.dj _ _ _ _ h1 h2 hne
  ·rename_i ho
   simp only [ho] at hf ⊢
   exact ZaH l rs n h hl hf
end Go.Cx
namespace Go.Cx
open Go.RowKit (Below)
section
variable {P : Program} {w0 : World} {φ : Out -> Prop} {ctrs : List (Nat × Option Cn)} {bd rd : Nat -> Cn} {ro : Option Nat}
def Nv {α : Type} (P : Program) (s : Sem α) : Prop := ∀ w v w', s.run P w ≠ .ok v w'
theorem Nv.left {α β : Type} {s : Sem α} {f : α -> Sem β} (h : Nv P s) : Nv P (s >>= f) := by
 intro w u w' e
 rw [Sem.run_bind] at e
 cases hr : s.run P w with
 | ok v w1 => exact h _ _ _ hr
 | halt x w1 => rw [hr] at e; cases e
theorem Nv.right {α β : Type} {s : Sem α} {f : α -> Sem β} (h : ∀ v, Nv P (f v)) : Nv P (s >>= f) := by
 intro w u w' e
 rw [Sem.run_bind] at e
 cases hr : s.run P w with
 | ok v w1 => rw [hr] at e; exact h _ _ _ _ e
 | halt x w1 => rw [hr] at e; cases e
theorem Nv.panic {α : Type} (v : Value) : Nv P (goPanic v : Sem α) := fun w v w' e => by simp [goPanic, Sem.run] at e
theorem Nv.stuck {α : Type} (m : String) : Nv P (Go.stuck m : Sem α) := fun w v w' e => by simp [Go.stuck, Sem.run] at e
theorem Nv.uns {α : Type} (m : Unsupported) : Nv P (unsupported m : Sem α) := fun w v w' e => by simp [unsupported, Sem.run] at e
theorem Nv.rp {α : Type} (e : RuntimeError) : Nv P (runtimePanic e : Sem α) := by
 unfold runtimePanic
 refine .right fun p => ?_
 cases e <;> first | exact .panic _ | exact .right fun _ => .panic _ | exact .right fun _ => .right fun _ => .panic _ | exact .right fun _ => .right fun _ => .right fun _ => .panic _
def Cm {α : Type} (P : Program) (s : Sem α) : Prop := ∀ w v w1, s.run P w = .ok v w1 -> w1 = w /\ ∀ w', s.run P w' = .ok v w'
theorem Cm.pure {α : Type} (v : α) : Cm P (Pure.pure v : Sem α) := fun w u w1 h => by cases h; exact ⟨rfl, fun _ => rfl⟩
theorem Cm.bind {α β : Type} {s : Sem α} {f : α -> Sem β} (h : Cm P s) (k : ∀ v, Cm P (f v)) : Cm P (s >>= f) := by
 intro w u w1 e
 rw [Sem.run_bind] at e
 cases hr : s.run P w with
 | ok v w2 =>
  rw [hr] at e
  obtain ⟨rfl, h2⟩ := h _ _ _ hr
  obtain ⟨h3, h4⟩ := k v _ _ _ e
  exact ⟨h3, fun w' => by rw [Sem.run_bind, h2, Result.andThen_ok, h4]⟩
 | halt x w2 => rw [hr] at e; cases e
theorem Cm.program : Cm P program := fun w v w1 h => by
 rw [run_program] at h; cases h; exact ⟨rfl, fun w' => run_program P w'⟩
theorem Cm.never {α : Type} {s : Sem α} (h : Nv P s) : Cm P s := fun w v w1 e => absurd e (h _ _ _)
theorem Cm.info (t : TypeId) : Cm P (typeInfo t) := by
 unfold typeInfo
 refine .bind .program fun p => ?_
 split
 ·exact .pure _
 ·exact .never (.stuck _)
theorem Cm.und (t : TypeId) : Cm P (underlying t) := by
 unfold underlying
 refine .bind .program fun p => ?_
 split
 ·exact .pure _
 ·exact .never (.stuck _)
theorem Cm.size (t : TypeId) : Cm P (sizeOf t) := .bind (.info t) fun _ => .pure _
theorem Cm.intOf (v : Value) : Cm P (asIntOf v) := by
 unfold asIntOf
 split
 ·exact .pure _
 ·exact .never (.uns _)
 ·exact .never (.stuck _)
theorem Cm.bound (x : Value) (y : Nat) (c : BoundsCode) : Cm P (Instr.sliceBound x y c) := by
 unfold Instr.sliceBound
 refine .bind (.intOf x) fun p => ?_
 obtain ⟨k, i⟩ := p
 simp only
 split
 ·exact .pure _
 ·unfold boundsPanic
  refine .never ?_
  simp only
  split
  ·exact .right fun _ => .rp _
  ·exact .right fun _ => .rp _
theorem Cm.bounds (b : Bool) (len cap : Nat) (lo hi mx : Option Value) : Cm P (Instr.sliceBounds b len cap lo hi mx) := by
 unfold Instr.sliceBounds
 cases mx <;> cases hi <;> cases lo <;> dsimp only <;>
  repeat first | exact .pure _ | exact .never (.stuck _) | exact .never (.left (.stuck _)) | refine .bind (.bound _ _ _) fun _ => ?_ | refine .bind (.pure _) fun _ => ?_
theorem Cm.addr (x : Value) : Cm P (Instr.sureAddr x) := by
 unfold Instr.sureAddr
 split
 ·exact .pure _
 ·exact .never (.stuck _)
theorem Cm.asAddr (x : Value) : Cm P (Go.asAddr x) := by
 unfold Go.asAddr
 split <;> first | exact .pure _ | exact .never (.stuck _) | exact .never (.rp _) | exact .never (.uns _)
theorem Cm.slice (t : TypeId) (x : Value) (lo hi mx : Option Value) : Cm P (Instr.sliceAt t x lo hi mx) := by
 unfold Instr.sliceAt
 refine .bind (.und t) fun d => ?_
 split
 ·exact .bind (.addr x) fun a => .bind (.bounds _ _ _ _ _ _) fun p => .bind (.size _) fun z => .pure _
 ·unfold Instr.slice
  refine .bind (.und t) fun d => ?_
  split
  ·split
   ·exact .never (.left (.stuck _))
   ·exact .bind (.bounds _ _ _ _ _ _) fun ⟨_, _, _⟩ => .pure _
  ·exact .bind (.bounds _ _ _ _ _ _) fun p => .bind (.size _) fun z => .pure _
  ·refine .bind (.asAddr x) fun a => .bind (.und _) fun d => ?_
   split
   ·exact .bind (.bounds _ _ _ _ _ _) fun p => .bind (.size _) fun z => .pure _
   ·exact .never (.stuck _)
  ·exact .never (.stuck _)
theorem Zq7 {o : Oper} (h : ZbY o.op = true) {ev : Operand -> Value} {v : Value} {w : World} (hr : (execOp ev o).run P w = .ok (.value v) w) (w' : World) : (execOp ev o).run P w' = .ok (.value v) w' := by
 have hc : Cm P (execOp ev o) := by
  unfold ZbY at h
  unfold execOp
  split at h
  ·rename_i x e; rw [e]; exact .pure _
  ·rename_i x e; rw [e]; exact .pure _
  ·rename_i t x lo hi mx e; rw [e]; exact .bind (.slice _ _ _ _ _) fun _ => .pure _
  ·cases h
 exact (hc _ _ _ hr).2 w'
def ZC2 (P : Program) (s : Say) : Prop := ∀ w, (execOp s.ev s.o).run P w = .ok (.value s.v) w
def ZDf (σ : Sg) (r : Rec) (s : Say) : Prop := r.i = s.i /\ r.o = s.o /\ (∀ x, VR σ (lk r.fr x) (s.ev x)) /\ VR σ r.v s.v
theorem ZDf.mono {σ τ : Sg} (h : Le σ τ) {r : Rec} {s : Say} (k : ZDf σ r s) : ZDf τ r s := ⟨k.1, k.2.1, fun x => (k.2.2.1 x).mono h, k.2.2.2.mono h⟩
theorem ZmN {σ : Sg} {hp : H} {n : Nat} {w : World} (hR : Rel w0 σ hp n w) {r : Rec} {s : Say} (hr : ZDf σ r s) (h : Zhh P hp r = true) : (execOp s.ev s.o).run P w = .ok (.value s.v) w := by
 obtain ⟨h1, h2, h3, h4⟩ := hr
 unfold Zhh at h
 obtain ⟨hd, h⟩ := Yw h
 split at h
 ·rename_i hq
  have hg : Zv (qev P r.fr hp r.o.op (fun v => bif CV.bq r.v v then some [] else none)) (fun _ => True) := ⟨[], hq, fun _ _ => trivial⟩
  obtain ⟨c, v, g1, g2, g3⟩ := ZaO (o := r.o) hR h3 hg
  obtain ⟨g4, _⟩ := g3.bif
  have := CV.bq_t g4; subst this
  rw [<- h2, g1, Zoq hd g2 h4]
 ·cases h
theorem Zc6 (hC : CsOk P w0 ctrs bd rd) {ops : Array Oper} {n0 : Nat} {k : F -> H -> Nat -> Res} {Q : Exit -> Act -> World -> Prop} (hns : Region.noSelect ops = true) (hnd : ∀ (j : Nat) (o : Oper) c, ops[j]? = some o -> o.op ≠ .defer c) (hQp : ∀ c a w, ¬ Q (.panic c) a w) :
  ∀ (fuel : Nat) (listed : Array Bool) (rs : List (Nat × Nat)) (recs : List Rec) (σ : Sg) (hp : H) (n : Nat) (fr : F) (X : Nat -> Prop) (R : List Say) (kk : Nat) (a : Act) (w : World),
   Rel w0 σ hp n w -> FrR σ fr a -> ZrK ro fr -> Inv ops n0 listed rs σ n -> ZaT ops listed -> (∀ j, X j -> listed.getD j true = true) →
   (∀ s ∈ R, Zaj ops X listed s -> ZC2 P s \/ ∃ r ∈ recs, ZDf σ r s) -> TR P ops X R listed w -> left listed <= kk -> Zv (Y3 P ctrs bd rd ops n0 fuel listed rs recs fr hp n k) φ →
   (∀ σ' fr' hp' n' a' w', Rel w0 σ' hp' n' w' -> FrR σ' fr' a' -> ZrK ro fr' -> Le σ σ' -> (∀ i, ¬ (n0 <= i /\ i < Yx n) -> σ' i = σ i) -> Nle n n' -> Zv (k fr' hp' n') φ -> Q .normal a' w') -> Yi P ro ops Q (TR P ops X R) kk listed a w := by
 intro fuel
 induction fuel with
 | zero => intro listed rs recs σ hp n fr X R kk a w _ _ _ _ _ _ _ _ _ h _; exact h.no.elim
 | succ fuel ih =>
  intro listed rs recs σ hp n fr X R kk a w hR hF hro hI hc hX hrel hT hk h hK
  simp only [Y3] at h
  split at h
  ·rename_i hr
   exact Zbx hr (hK σ fr hp n a w hR hF hro (Le.refl _) (fun _ _ => rfl) (Nle.refl _) h) kk
  ·rename_i i0 rest hready
   have hro' : ∀ d c, ZrK ro (Zhc fr d c) := fun d c => by
    rcases hro with h | h
    ·exact .inl h
    ·exact .inr (by rw [ZiA hF]; exact h)
   split at h
   ·-- a quiet one is taken first
    rename_i i o hfq
    obtain ⟨hmem, hi⟩ := Yl hfq
    rw [Za7, ZJc] at hi
    have hir : i ∈ Region.ready .any ops listed := by rw [hready]; exact hmem
    have hil := (mem_ready.1 hir).1
    obtain ⟨hfree, h⟩ := h.bif
    obtain ⟨k', rfl⟩ : ∃ k', kk = k' + 1 := ⟨kk - 1, by have := Zap hil; omega⟩
    have hk' : left (listed.setIfInBounds i true) <= k' := by have := Zap hil; omega
    have hX' : ∀ j, (X j \/ j = i) -> (listed.setIfInBounds i true).getD j true = true := by
     rintro j (hj | rfl)
     ·by_cases hij : i = j
      ·subst hij; exact Zx hil _
      ·rw [getD_set_ne true hij]; exact hX j hj
     ·exact Zx hil _
    have mono : ∀ R', (∀ s ∈ R, s ∈ R') -> ∀ l w, TR P ops (fun j => X j \/ j = i) R' l w -> TR P ops X R l w := fun R' hsub l w hT' s hs hv =>
     hT' s (hsub s hs) fun j o' hj hx hlj => hv j o' hj (fun h' => hx (.inl h')) hlj
    have core : ∀ (R' : List Say) (v : Value) , (∀ s ∈ R, s ∈ R') -> ZB P ops (TR P ops (fun j => X j \/ j = i) R') i o v a -> TR P ops (fun j => X j \/ j = i) R' listed w →
      Yi P ro ops Q (TR P ops (fun j => X j \/ j = i) R') k' (listed.setIfInBounds i true) (a.put o.dst v) w -> Yi P ro ops Q (TR P ops X R) (k' + 1) listed a w := by
     intro R' v hsub hy hTl hrest
     refine ZaG (mono R' hsub) _ _ _ _ ?_
     refine Zca hi (Region.noSelect_spec hns) hnd (fun c a w h' => absurd h' (hQp c _ w)) ?_ k' listed a w hc (Region.free_spec hi hfree) hir hy hTl ?_ hrest
     ·intro l w hTl s hs hv; exact hTl s hs (valid_setX' hv)
     ·intro s hs hv; exact hTl s hs (Yu hv)
    have hT1 : TR P ops (fun j => X j \/ j = i) R listed w := fun s hs hv => hT s hs (Zbh hil hv)
    have hrel1 : ∀ s ∈ R, Zaj ops (fun j => X j \/ j = i) (listed.setIfInBounds i true) s -> ZC2 P s \/ ∃ r ∈ recs, ZDf σ r s := fun s hs hv => hrel s hs (Zbh hil (Yu hv))
    have hg := Yp hF ops o
    split at h
    ·rename_i he
     have hw := hg.1 he
     obtain ⟨c, x, hrun, hx, hk2⟩ := ZaO (o := o) hR (ZpV hF) h
     refine core (⟨i, o, a.eval, x⟩ :: R) x (fun s hs => ZJt _ hs) ?_ ?_ ?_
     ·refine .inl ⟨hw, fun l w hcl hli hTl => hTl ⟨i, o, a.eval, x⟩ ZJv ?_⟩
      intro j o' hj hx' hlj
      cases hwt : ZdM o' i
      ·rfl
      ·exfalso
       obtain ⟨e, he, hbe⟩ := Array.any_eq_true'.1 hwt
       simp only [Bool.and_eq_true, beq_iff_eq] at hbe
       have := hcl j o' hj hlj e he hbe.1
       rw [hbe.2] at this
       have hlt := ZfQ hli
       simp [hlt] at this hli
       rw [hli] at this; cases this
     ·intro s hs hv'
      rcases List.mem_cons.1 hs with rfl | hs
      ·exact hrun
      ·exact hT1 s hs hv'
     ·refine ih _ _ _ _ _ _ _ _ _ k' _ w hR (hF.put hx) (hro' _ _) (hI.less i) (hc.set hir) hX' ?_ ?_ hk' hk2 hK
      ·intro s hs hv'
       rcases List.mem_cons.1 hs with rfl | hs
       ·cases hp : ZbY o.op
        ·exact .inr ⟨_, ZJv, rfl, rfl, ZpV hF, hx⟩
        ·exact .inl fun w' => Zq7 hp hrun w'
       ·rcases hrel1 s hs hv' with hp | ⟨r, hr, hrd⟩
        ·exact .inl hp
        ·refine .inr ⟨r, ?_, hrd⟩
         cases ZbY o.op
         ·exact ZJt _ hr
         ·exact hr
      ·intro s hs hv'
       rcases List.mem_cons.1 hs with rfl | hs
       ·exact hrun
       ·exact hT1 s hs (Yu hv')
    ·rename_i he
     refine core R undef (fun s hs => hs) (.inr ⟨hg.2 he, rfl⟩) hT1 ?_
     exact ih _ _ _ _ _ _ _ _ _ k' _ w hR (hF.put ZbB) (hro' _ _) (hI.less i) (hc.set hir) hX' hrel1 (fun s hs hv => hT1 s hs (Yu hv)) hk' h hK
    ·exact h.no.elim
   ·-- loud ones: whichever comes
    have hir0 : i0 ∈ Region.ready .any ops listed := by rw [hready]; exact ZJv
    have hil0 := (mem_ready.1 hir0).1
    obtain ⟨k', rfl⟩ : ∃ k', kk = k' + 1 := ⟨kk - 1, by have := Zap hil0; omega⟩
    -- the names for calls
    have hgp : ∀ g, (bif YT ops.toList 0 (i0 :: rest) then Zbz ops.toList (i0 :: rest) rs n else (rs, n)) = g -> Yx g.2 = Yx n -> idN g.2 <= Yx g.2 -> Inv ops n0 listed g.1 σ g.2 /\ n <= g.2 := by
     rintro g rfl
     cases YT ops.toList 0 (i0 :: rest)
     ·exact fun _ _ => ⟨hI, ZJd _⟩
     ·exact fun e1 e2 => ⟨ZaH _ _ _ hI e1 (fun x h1 h2 => hR.fresh x h1 (by simp only [cond_true] at e1 e2; omega)), ZcF _ _ _ _⟩
    generalize hgg : (bif YT ops.toList 0 (i0 :: rest) then Zbz ops.toList (i0 :: rest) rs n else (rs, n)) = g at h
    have hgp := hgp g hgg
    obtain ⟨rs', m⟩ := g
    simp only at h hgp
    obtain ⟨hcond, h⟩ := h.bif
    obtain ⟨c1, c2⟩ := Yw hcond
    have hhi := ZJA c1
    have c2 := nbq c2
    obtain ⟨hIm, i2⟩ := hgp c2 hhi
    have hnm : Nle n m := ⟨by unfold idN Yx at *; omega, c2⟩
    have hRm : Rel w0 σ hp m w := hR.weak (fun _ => .inl rfl) hnm
    refine ⟨fun h0 => (by rw [h0] at hir0; cases hir0), fun j hj => ?_⟩
    have hil := (mem_ready.1 hj).1
    have hir := hj
    have hk' : left (listed.setIfInBounds j true) <= k' := by have := Zap hil; omega
    rw [hready] at hj
    have h := Zht h j hj
    split at h
    ·rename_i o hi
     rw [Za7, ZJc] at hi
     have hg := Yp hF ops o
     split at h
     ·rename_i he
      have hw := hg.1 he
      unfold Go.wpOpIn
      simp only [hi, hw, if_true]
      obtain ⟨ns, ks, hl, hgo⟩ := ZqP hC hIm hhi hRm (ZpV hF) hi hil h
      refine YG.wpIn (fun c => hnd j o c hi) hl (fun v w' hv => ?_)
      obtain ⟨c, hp', n', σ', hv', hR', hle, hex, hn', hI', hk2⟩ := hgo v w' hv
      simp only at hk2
      obtain ⟨hall, hk2⟩ := hk2.bif
      have hrel2 : ∀ s ∈ R, Zaj ops X (listed.setIfInBounds j true) s -> ZC2 P s \/ ∃ r ∈ recs.filter (fun r => !(ZdM o r.i)), ZDf σ' r s := by
       intro s hs hv
       rcases hrel s hs (ZeC hil hv) with hp | ⟨r, hr, hrd⟩
       ·exact .inl hp
       refine .inr ⟨r, List.mem_filter.2 ⟨hr, ?_⟩, hrd.mono hle⟩
       have := hv j o hi (fun hx => by have := hX j hx; rw [hil] at this; cases this) (Zx hil _)
       rw [hrd.1, this]; rfl
      have hT2 : TR P ops X R (listed.setIfInBounds j true) w' := by
       intro s hs hv
       rcases hrel2 s hs hv with hp | ⟨r, hr, hrd⟩
       ·exact hp _
       ·exact ZmN hR' hrd (List.all_eq_true.1 hall r hr)
      have hF' := hF.mono hle
      refine ⟨hT2, ih _ _ _ _ _ _ _ X R k' _ w' hR' (hF'.put hv') (hro' _ _) hI' (hc.set hir) ?_ hrel2 hT2 hk' hk2 ?_⟩
      ·intro j' hj'
       by_cases hij : j = j'
       ·subst hij; exact Zx hil _
       ·rw [getD_set_ne true hij]; exact hX j' hj'
      ·intro σ2 fr2 hp2 n2 a2 w2 r1 r2 r3 r4 r5 r6 r7
       refine hK _ _ _ _ _ _ r1 r2 r3 (hle.trans r4) (fun i hi => ?_) ((hnm.trans hn').trans r6) r7
       have e1 : Yx n' = Yx n := by rw [hn'.2, hnm.2]
       rw [r5 i (by rw [e1]; exact hi), hex i (by rw [hnm.2]; exact hi)]
     ·exact h.no.elim
    ·exact h.no.elim
end
end Go.Cx
namespace Go.Cx
open Go.RowKit (Below)
section
variable {P : Program} {w0 : World} {φ : Out -> Prop} {ctrs : List (Nat × Option Cn)} {bd rd : Nat -> Cn} {ro : Option Nat}
/-! ### Loops -/
def WpL (F : Fence) (P : Program) (c : Code) (Q : Exit -> Act -> World -> Prop) (a : Act) (w : World) : Prop :=
 ∀ (b : Frame) (k : List Item) (cs : List Frame), b.roundOf = F.round -> F.fn b.fn -> F.room (cs.length + 1 + 0) -> ∃ e a' w', Q e a' w' /\ ArrivesIn (Machine.fenced P F) P (lone (b.atR a (.code c :: .inLoop c :: k)) cs w) b k cs e a' w'
theorem Zow {F : Fence} {c : Code} {Q : Exit -> Act -> World -> Prop} {a : Act} {w : World} (h : WpL F P c Q a w) : (Code.loop c).wpIn F 0 P Q a w := by
 intro b k cs hro hb hr
 obtain ⟨e, a', w', hq, harr⟩ := h b k cs hro hb hr
 exact ⟨e, a', w', hq, .of_steps (.one (fenced_calm hb hr rfl) stepR_loop) harr⟩
theorem Zzd {F : Fence} {c : Code} {Q : Exit -> Act -> World -> Prop} {a : Act} {w : World} (h : c.wpIn F 0 P (Exit.then (WpL F P c Q) Q) a w) : WpL F P c Q a w := by
 intro b k cs hro hb hr
 obtain ⟨e, a₁, w₁, hq, harr⟩ := h b (.inLoop c :: k) cs hro hb hr
 cases e with
 | normal =>
  obtain ⟨e₂, a₂, w₂, hq₂, harr₂⟩ := hq b k cs hro hb hr
  exact ⟨e₂, a₂, w₂, hq₂, .of_steps (StepsIn.trans harr (.one (fenced_calm hb hr rfl) stepR_inLoop)) harr₂⟩
 | exit id => exact ⟨_, a₁, w₁, hq, .pass (x := .inLoop c) rfl (fun _ _ => .inl (by simp)) harr⟩
 | goto l => exact ⟨_, a₁, w₁, hq, .pass (x := .inLoop c) rfl (fun _ _ => .inl (by simp)) harr⟩
 | ret => exact ⟨_, a₁, w₁, hq, .pass (x := .inLoop c) rfl (fun _ _ => .inl (by simp)) harr⟩
 | panic ch => exact ⟨_, a₁, w₁, hq, .pass (x := .inLoop c) rfl (fun _ _ => .inl (by simp)) harr⟩
 | outgrown => exact ⟨_, a₁, w₁, hq, .pass (x := .inLoop c) rfl (fun _ _ => .inl (by simp)) harr⟩
def CxW (F : Fence) (P : Program) : Code -> (Exit -> Act -> World -> Prop) -> Act -> World -> Prop
 | .loop b, Q, a, w => WpL F P b Q a w
 | c, Q, a, w => c.wpIn F 0 P Q a w
theorem CxW.wp {F : Fence} {c : Code} {Q : Exit -> Act -> World -> Prop} {a : Act} {w : World} (h : CxW F P c Q a w) : c.wpIn F 0 P Q a w := by
 unfold CxW at h
 split at h
 ·exact Zow h
 ·exact h
theorem ZlM {ops : Array Oper} (h : ZeI ops.toList = true) : ∀ (j : Nat) (o : Oper) c, ops[j]? = some o -> o.op ≠ .defer c := by
 intro j o c hj
 rw [<- ZJc] at hj
 revert h hj
 generalize ops.toList = l
 intro h hj
 induction l generalizing j with
 | nil => cases hj
 | cons x l ih =>
  unfold ZeI at h
  cases hx : Zv1 x.op
  ·rw [hx] at h
   cases j with
   | zero => simp at hj; subst hj; intro e; rw [e] at hx; cases hx
   | succ j => exact ih j h (by simpa using hj)
  ·rw [hx] at h; cases h
end
end Go.Cx
namespace Go.Cx
open Go.RowKit (Below)
section
variable {P : Program} {w0 : World} {φ : Out -> Prop} {ctrs : List (Nat × Option Cn)} {bd rd : Nat -> Cn} {ro : Option Nat}
theorem Zrn {l : Nat} {hp hp' : H} {j : Option Code} {σ : Sg} {n : Nat} {w : World} {p t : Nat} (hR : Rel w0 σ hp n w) (hs : σ l = some (p, t)) (h : ZH0 l hp = some (j, hp')) :
  ∃ w', (Instr.endLoop p).run P w = .ok j w' /\ Rel w0 σ hp' n w' := by
 unfold ZH0 at h
 split at h
 ·rename_i fn fr ps assign body db st pend he
  cases hb : Nat.beq st 1
  ·rw [hb] at h; cases h
   obtain ⟨q, u, tm, g, h1, h2, h3, h4⟩ := hR.at hs he (by simp)
   have hlt : p < w.heap.size := (Array.getElem?_eq_some_iff.1 h4).1
   refine ⟨_, run_endLoop h4 ?_, hR.upd hs (by rw [he]; simp) World.putObj_size (fun k hk => World.putObj_heap_other hk) rfl rfl rfl ⟨q, u, tm, g, h1, h2, h3, ?_⟩⟩
   ·have hne : st ≠ 1 := fun e => by subst e; cases hb
    show Zui st ≠ .busy
    unfold Zui
    split <;> simp_all
   ·exact World.putObj_heap_same hlt
  ·rw [hb] at h; cases h
 ·cases h
theorem Zk4 {vro : Option Nat} {σ : Sg} {fr : F} {hp : H} {n : Nat} {a : Act} {w : World} {ps : Array Tmp} {assign body : Code} {fnv fn0 : Nat} {l : Nat} {fr' : F} {hp' : H} {n' : Nat}
  (hvro : (vro = none /\ ro = none) \/ ∃ l p t, vro = some l /\ ro = some p /\ σ l = some (p, t))
  (hR : Rel w0 σ hp n w) (hF : FrR σ fr a) (hro : ZrK ro fr) (h : Zln vro fnv ps.toList assign body fr hp n = some (l, fr', hp', n')) :
  ∃ p t mark w' σ', (Instr.enterLoop fn0 a.tmps ps assign body ro).run P w = .ok (p, mark) w' /\ σ' l = some (p, t) /\ Rel w0 σ' hp' n' w' /\ FrR σ' fr' { a with defers := mark ++ a.defers } /\ ZrK ro fr' /\ Ex n σ σ' /\ Nle n n' := by
 have hlim := hR.lim
 unfold Zln at h
 rcases hvro with ⟨rfl, rfl⟩ | ⟨l0, p0, t0, rfl, rfl, hl0⟩
 ·simp only at h
  cases hb : Nat.blt (idN n + 1) (Yx n)
  ·rw [hb] at h; cases h
  ·rw [hb] at h
   simp only [cond_true, Option.some.injEq, Prod.mk.injEq] at h
   obtain ⟨rfl, rfl, rfl, rfl⟩ := h
   have hb : idN n + 1 < Yx n := by simpa [Nat.blt_eq] using hb
   obtain ⟨e1, e2⟩ := ZkY (by omega : idN n < Yx n) hlim
   obtain ⟨e3, e4⟩ := ZkY (n := n + 1) (by omega) (by omega)
   have e3 : idN (n + 2) = idN n + 2 := by show idN (n + 1 + 1) = _; omega
   have e4 : Yx (n + 2) = Yx n := by show Yx (n + 1 + 1) = _; omega
   have hf1 : σ (idN n) = none := hR.fresh _ (ZJd _) (by omega)
   have hR1 := hR.new (i := idN n) (t := 0) (m := n + 1) (c := .dfr) (by omega) hf1 (.deferred (some [])) (fun τ _ _ => ZN w _) e2 (fun j hj _ => ⟨by omega, by omega⟩)
   have hf2 : (ZnF σ (idN n) w.heap.size 0) (idN n + 1) = none := hR1.fresh _ (by omega) (by omega)
   have hR2 := hR1.new (i := idN n + 1) (t := 0) (m := n + 2) (c := .loop fnv fr ps.toList assign body (idN n) 0 none) (by omega) hf2
    (.loop { state := .ready, pending := none, fn := fn0, tmps := a.tmps, params := ps, assign, body, defers := w.heap.size })
    (fun τ hle _ => ⟨w.heap.size, 0, a.tmps, fn0, hle _ _ (Zad _ _ _), ⟨hF.sz, hF.small, hF.nj⟩, fun i v hv => (hF.val i v hv).mono ((Le.upd hf1).trans hle), by
     have := ZN { w with heap := w.heap.push (.deferred (some [])) } (.loop { state := .ready, pending := none, fn := fn0, tmps := a.tmps, params := ps, assign, body, defers := w.heap.size })
     exact this⟩) (by omega) (fun j hj _ => ⟨by omega, by omega⟩)
   refine ⟨_, 0, _, _, _, run_enterLoop_outer fn0 a.tmps ps assign body, ?_, hR2, ?_, .inl rfl, ⟨(Le.upd hf1).trans (Le.upd hf2), fun i hi => ?_⟩, ⟨by omega, e4⟩⟩
   ·rw [Zad]
    show some (_, _) = _
    congr 2
    show (w.heap.push _).size = _
    simp
   ·refine (hF.mono ((Le.upd hf1).trans (Le.upd hf2))).push ?_
    unfold DfR
    exact ⟨w.heap.size, 0, a.defers, (Le.upd hf2) _ _ (Zad _ _ _), rfl, hF.df.mono ((Le.upd hf1).trans (Le.upd hf2))⟩
   ·unfold ZnF
    rw [if_neg (fun e => hi ⟨by omega, by omega⟩), if_neg (fun e => hi ⟨by omega, by omega⟩)]
 ·simp only at h
  split at h
  ·rename_i fn1 fr1 ps1 as1 bo1 db st1 pe1 he
   cases hb : Nat.blt (idN n) (Yx n)
   ·rw [hb] at h; cases h
   ·rw [hb] at h
    simp only [cond_true, Option.some.injEq, Prod.mk.injEq] at h
    obtain ⟨rfl, rfl, rfl, rfl⟩ := h
    have hb : idN n < Yx n := by simpa [Nat.blt_eq] using hb
    obtain ⟨e1, e2⟩ := ZkY hb hlim
    obtain ⟨q, u, tm, g, h1, h2, h3, h4⟩ := hR.at hl0 he (by simp)
    have hf1 : σ (idN n) = none := hR.fresh _ (ZJd _) (by omega)
    have hR1 := hR.new (i := idN n) (t := 0) (m := n + 1) (c := .loop fnv fr ps.toList assign body db 0 none) (by omega) hf1
     (.loop { state := .ready, pending := none, fn := fn0, tmps := a.tmps, params := ps, assign, body, defers := q })
     (fun τ hle _ => ⟨q, u, a.tmps, fn0, hle _ _ h1, ⟨hF.sz, hF.small, hF.nj⟩, fun i v hv => (hF.val i v hv).mono hle, ZN w _⟩) e2 (fun j hj _ => ⟨by omega, by omega⟩)
    refine ⟨w.heap.size, 0, [], _, _, ?_, Zad _ _ _, hR1, ?_, hro, ⟨Le.upd hf1, fun i hi => ?_⟩, ⟨by omega, e2⟩⟩
    ·unfold Instr.enterLoop
     simp only [Sem.run_bind, run_getLoop h4, run_newObj_alloc, Result.andThen, Sem.run_pure]
     rfl
    ·exact hF.mono (Le.upd hf1)
    ·unfold ZnF
     rw [if_neg (fun e => hi ⟨by omega, by omega⟩)]
  ·cases h
theorem Zmo {k : KS} {σ : Sg} {hp : H} {n : Nat} {w : World} (hC : CsOk P w0 ctrs bd rd) (hR : Rel w0 σ hp n w) {g : CV} {vg : Value} (hg : VR σ g vg) {args : List CV} {xs : List Value} (hx : VRs σ args xs) (h : Zv (ZuA ctrs bd g args hp n k) φ) :
  ∃ d f ys, (Deferred.ofValue vg xs.toArray).run P w = .ok d w /\ (invoke d.target d.args).run P w = .ok (.enter f ys) w /\ CallsIn (FF none) 0 P f ys w (fun e w' => ∃ v, e = .returned v /\ ZyU w0 σ n k φ v w') := by
 unfold ZuA at h
 split at h
 ·rename_i f first caps
  simp only [VR] at hg; obtain ⟨us, vs, h1, h2, rfl⟩ := hg
  have key : ∀ mg, Zv (after mg n (bd f ((first ++ args) ++ caps) hp n) k) φ -> (callFunc f ((us ++ xs) ++ vs).toArray).run P w = .ok (.enter f ((us ++ xs) ++ vs).toArray) w /\ CallsIn (FF none) 0 P f ((us ++ xs) ++ vs).toArray w (fun e w' => ∃ v, e = .returned v /\ ZyU w0 σ n k φ v w') := by
   intro mg h
   obtain ⟨os, hl, hgo⟩ := Zby h
   obtain ⟨q1, q2⟩ := hC.bd f _ hp n σ w _ os hR ((h1.app hx).app h2) hl
   refine ⟨q1, CallsIn.mono q2 fun e w' he => ?_⟩
   obtain ⟨v, rfl, hr⟩ := he
   exact ⟨v, rfl, hgo _ _ hr⟩
  have e : (us ++ xs ++ vs).toArray = us.toArray ++ xs.toArray ++ vs.toArray := by apply Array.ext'; simp
  have : ∃ mg, Zv (after mg n (bd f ((first ++ args) ++ caps) hp n) k) φ := by
   split at h
   ·split at h
    ·exact h.no.elim
    ·exact ⟨_, h⟩
   ·exact ⟨_, h⟩
  obtain ⟨mg, h⟩ := this
  obtain ⟨q1, q2⟩ := key mg h
  rw [e] at q1 q2
  exact ⟨_, f, _, rfl, q1, q2⟩
 ·exact h.no.elim
theorem ZAH (hC : CsOk P w0 ctrs bd rd) {fn : Nat} {vro : Option Nat} {g : Operand} {ps : Array Tmp} {assign body : Code} {σ : Sg} {fr : F} {hp : H} {n : Nat} {kn : F -> H -> Nat -> Res} {ke : Nat -> F -> H -> Nat -> Res} {kr : F -> H -> Nat -> Res} {a : Act} {w : World} {Q : Exit -> Act -> World -> Prop}
  (hvro : (vro = none /\ ro = none) \/ ∃ l p t, vro = some l /\ ro = some p /\ σ l = some (p, t))
  (hR : Rel w0 σ hp n w) (hF : FrR σ fr a) (hro : ZrK ro fr) (h : Zv (match Zln vro fn ps.toList assign body fr hp n with
   | some (l, fr, hp, n) => ZuA ctrs bd (lk fr g) [.yld l] hp n (fun _ hp n =>
    match ZH0 l hp with
    | some (j, hp) => jump j fr hp n kn ke kr
    | none => none)
   | none => none) φ)
  (hN : ∀ σ' fr' hp' n' a' w', St w0 ro σ n σ' fr' hp' n' a' w' -> Zv (kn fr' hp' n') φ -> Q .normal a' w')
  (hE : ∀ i σ' fr' hp' n' a' w', St w0 ro σ n σ' fr' hp' n' a' w' -> Zv (ke i fr' hp' n') φ -> Q (.exit i) a' w')
  (hK : ∀ σ' fr' hp' n' a' w', St w0 ro σ n σ' fr' hp' n' a' w' -> Zv (kr fr' hp' n') φ -> Q .ret a' w') : (Code.rangeFunc g ps assign body).wpIn (FF ro) 0 P Q a w := by
 split at h
 ·rename_i l fr1 hp1 n1 hl
  refine wpIn_rangeFunc fun fn0 _ => ?_
  obtain ⟨p, t, mark, w1, σ1, g1, g2, g3, g4, g5, g6, g7⟩ := Zk4 (P := P) (fn0 := fn0) hvro hR hF hro hl
  have hg := ZpV g4 g
  obtain ⟨d, f, ys, r1, r2, r3⟩ := Zmo hC g3 hg (args := [.yld l]) (xs := [.func (.yield p) #[] #[]]) (by simp only [VRs, VR]; exact ⟨_, _, rfl, ⟨p, t, g2, rfl⟩, rfl⟩) h
  refine ⟨p, mark, w1, d, w1, f, ys, w1, g1, ?_, fun f' _ => trivial, r2, fun h => (by cases h), ?_⟩
  ·have ea : (rangeCall g p).args.map a.eval = #[Value.func (Fn.yield p) #[] #[]] := by simp [Act.eval]
   simp only [resolve, ea]
   exact r1
  ·refine CallsIn.mono (ZoY r3) fun e w3 he => ?_
   obtain ⟨v, rfl, c, hp2, n2, σ2, s1, s2, s3, s4, s5⟩ := he
   simp only at s5
   split at s5
   ·rename_i j hp3 hj
    obtain ⟨w4, q1, q2⟩ := Zrn (P := P) s2 (s3.1 _ _ g2) hj
    have hS : St w0 ro σ n σ2 fr1 hp3 n2 { a with defers := mark ++ a.defers } w4 := ⟨q2, g4.mono s3.1, g5, g6.trans g7 s3, g7.trans s4⟩
    refine ⟨j, w4, q1, ?_⟩
    unfold jump at s5
    split at s5
    ·exact hN _ _ _ _ _ _ hS s5
    ·exact wpIn_ret (hK _ _ _ _ _ _ hS s5)
    ·exact wpIn_exit (hE _ _ _ _ _ _ _ hS s5)
    ·exact s5.no.elim
   ·exact s5.no.elim
 ·exact h.no.elim
end
end Go.Cx
namespace Go.Cx
open Go.RowKit (Below)
section
variable {P : Program} {w0 : World} {φ : Out -> Prop} {ctrs : List (Nat × Option Cn)} {bd rd : Nat -> Cn} {σ : Sg} {hp : H} {n : Nat} {w : World} {fr : F} {a : Act}
def ZDi (tmps : Array Value) : ResultVar -> Sem Value
 | .tmp t => pure (tmps.getD t undef)
 | .cell a t => do loadVar t (<- asAddr (tmps.getD a undef))
theorem Zbk (hR : Rel w0 σ hp n w) (hF : FrR σ fr a) : ∀ (l : List ResultVar) {r : List CV}, Zkn P fr hp l = some r -> ∃ vs, (l.mapM (ZDi a.tmps)).run P w = .ok vs w /\ VRs σ r vs
 | [], r, h => by cases h; exact ⟨[], by simp [List.mapM_nil], rfl⟩
 | .tmp t :: l, r, h => by
  simp only [Zkn] at h
  split at h
  ·cases h
  ·rename_i hj
   split at h
   ·rename_i r' hr'
    cases h
    obtain ⟨vs, h1, h2⟩ := Zbk hR hF l hr'
    refine ⟨a.tmps.getD t undef :: vs, ?_, ?_⟩
    ·rw [List.mapM_cons]; simp [ZDi, h1]
    ·simp only [VRs]; exact ⟨_, _, rfl, fg_R hF t, h2⟩
   ·cases h
 | .cell b t :: l, r, h => by
  simp only [Zkn] at h
  have hb := fg_R hF b
  split at h
  ·rename_i bb o he
   rw [he] at hb; simp only [VR] at hb
   obtain ⟨p, u, hs, hv⟩ := hb
   split at h
   ·rename_i m hA
    obtain ⟨d, d1, d2, d3⟩ := ZcE hA
    split at h
    ·rename_i cs hc
     split at h
     ·rename_i r' hr'
      cases h
      obtain ⟨vs, h1, h2⟩ := Zbk hR hF l hr'
      obtain ⟨us, g1, g2, g3⟩ := ZlT hR hc hs
      refine ⟨.agg us.toArray :: vs, ?_, ?_⟩
      ·rw [List.mapM_cons]; simp only [ZDi, hv]; simp [asAddr, ZgZ d1 d2 d3 g1 g3, h1]
      ·simp only [VRs, VR]; exact ⟨_, _, rfl, ⟨us, g2, rfl⟩, h2⟩
     ·cases h
    ·cases h
   ·rename_i m hA
    obtain ⟨d, d1, d2, d3⟩ := ZcE hA
    split at h
    ·rename_i c hc
     split at h
     ·rename_i r' hr'
      cases h
      obtain ⟨vs, h1, h2⟩ := Zbk hR hF l hr'
      obtain ⟨v, g1, g2⟩ := ZlY hR hc hs
      refine ⟨v :: vs, ?_, ?_⟩
      ·rw [List.mapM_cons]; simp only [ZDi, hv]; simp [asAddr, Zgg d1 d2 g1, h1]
      ·simp only [VRs]; exact ⟨_, _, rfl, g2, h2⟩
     ·cases h
    ·cases h
   ·cases h
  ·cases h
theorem Zgm {fn : Func} {vs : List Value} (h : (fn.results.toList.mapM (ZDi a.tmps)).run P w = .ok vs w) : (results fn a.tmps).run P w = .ok (if h : vs.toArray.size = 1 then vs.toArray[0] else .tuple vs.toArray) w := by
 have e : results fn a.tmps = (do let vs <- fn.results.mapM (ZDi a.tmps); pure (if h : vs.size = 1 then vs[0] else .tuple vs)) := by
  unfold results; congr
 rw [e, Array.mapM_eq_mapM_toList]
 simp [h]
end
end Go.Cx
namespace Go.Cx
open Go.RowKit (Below)
section
variable {P : Program} {w0 : World} {φ : Out -> Prop}
def Zf4 (P : Program) (w0 : World) (f : Nat) (c : Cn) : Prop := ∀ args hp n σ w xs l, Rel w0 σ hp n w -> VRs σ args xs -> c args hp n = some l →
 (callFunc f xs.toArray).run P w = .ok (.enter f xs.toArray) w /\ CallsDIn (FF none) 0 P f xs.toArray .returning w (fun e u' w' => u' = .returning /\ ∃ v, e = .returned v /\ Ret w0 σ n l v w')
structure DsOk (P : Program) (w0 : World) (dctrs : List (Nat × Cn)) (db : Nat -> Cn) : Prop where
 ctr : ∀ f c, ZS dctrs f = some c -> Zf4 P w0 f c
 db : ∀ f, Zf4 P w0 f (db f)
theorem Zdv {dctrs : List (Nat × Cn)} {db : Nat -> Cn} (hD : DsOk P w0 dctrs db) {fn : Func} {tmps : Array Value} {R : Ending -> World -> Prop} {k : H -> Nat -> Res} :
  ∀ (l : List CV) (ds : List Deferred) {σ : Sg} {hp : H} {n : Nat} {w : World}, DfR σ l ds -> Rel w0 σ hp n w -> Zv (Zhj dctrs db l hp n k) φ →
   (∀ σ' hp' n' w', Rel w0 σ' hp' n' w' -> Ex n σ σ' -> Nle n n' -> Zv (k hp' n') φ -> LeavesIn (FF none) 0 P fn tmps R [] .returning w') -> LeavesInM (FF none) 0 P fn tmps R ds .returning w
 | [], ds, σ, hp, n, w, hd, hR, h, hk => by
  unfold DfR at hd; subst hd
  exact hk _ _ _ _ hR (Ex.refl _ _) (Nle.refl _) h
 | c :: l, ds, σ, hp, n, w, hd, hR, h, hk => by
  unfold DfR at hd
  split at hd
  ·rename_i hx; cases hx
  ·rename_i ds' r cs hx
   cases hx
   obtain ⟨p, t, ds', hs, rfl, hd'⟩ := hd
   simp only [Zhj] at h
   split at h
   ·rename_i hdf
    have hw : w.heap[p]? = some (.deferred (some [])) := hR.at hs hdf (by simp)
    refine ⟨by simp, .inl ⟨p, _, rfl, run_takeDeferred hw, ?_⟩⟩
    have hlive : ZL hp r ≠ .no := by rw [hdf]; simp
    obtain ⟨hb1, hb2, hb3⟩ := hR.old _ _ _ hs
    have hR' : Rel w0 σ (YZ hp r .no) n (w.putObj p (.deferred none)) := by
     refine (hR.kill hb1).chg (p := p) (by simp [World.putObj]) (fun k hk => World.putObj_heap_other hk) rfl rfl rfl hb2 (fun j q u hj hjc hq => ?_)
     rw [Z9 _ _ _ _ hb1 hj] at hjc
     by_cases e : j = r
     ·rw [if_pos e] at hjc; exact absurd rfl hjc
     ·rw [if_neg e] at hjc; exact hR.apart j r q u p t hj hb1 hjc hlive e hq hs
    exact Zdv hD l ds' hd' hR' h hk
   ·exact h.no.elim
  ·rename_i f first caps args cs hx
   cases hx
   obtain ⟨us, vs, ws, ds', h1, h2, h3, rfl, hd'⟩ := hd
   simp only [Zhj] at h
   have core : ∀ ct, Zf4 P w0 f ct -> Zv (after true n (ct ((first ++ args) ++ caps) hp n) (fun _ hp n => Zhj dctrs db l hp n k)) φ -> LeavesInM (FF none) 0 P fn tmps R ({ target := .fn (.func f) vs.toArray, args := us.toArray ++ ws.toArray } :: ds') .returning w := by
    intro ct hct h
    obtain ⟨os, ho, hgo⟩ := Zby h
    have hx := (h1.app h3).app h2
    obtain ⟨q1, q2⟩ := hct _ hp n σ w _ os hR hx ho
    have e : (us ++ ws ++ vs).toArray = us.toArray ++ ws.toArray ++ vs.toArray := by apply Array.ext'; simp
    rw [e] at q1 q2
    refine ⟨by simp, .inr ⟨fun h => (by cases h), _, _, f, _, rfl, q1, fun g _ => trivial, CallsDIn.mono q2 fun e u' w' he => ?_⟩⟩
    obtain ⟨rfl, v, rfl, hr⟩ := he
    obtain ⟨c', hp', n', σ', g1, g2, g3, g4, g5⟩ := hgo _ _ hr
    exact Zdv hD l ds' (hd'.mono g3.1) g2 g5 (fun σ2 hp2 n2 w2 r1 r2 r3 r4 => hk _ _ _ _ r1 (g3.trans g4 r2) (g4.trans r3) r4)
   split at h
   ·rename_i ct hct
    exact core ct (hD.ctr _ _ hct) h
   ·exact core _ (hD.db f) h
  ·exact hd.elim
end
end Go.Cx
namespace Go.Cx
noncomputable section
/-! ### Values looked into -/
def ZuV (x : CV) (q : Nat -> Int -> Res) (e : Res) : Res := @CV.rec (fun _ => (Nat -> Int -> Res) -> Res -> Res) (fun _ => Unit) (fun k n q _ => q k n) (fun _ _ e => e) (fun _ _ _ e => e) (fun _ _ _ e => e) (fun _ e => e) (fun _ _ _ _ _ _ _ e => e) (fun _ e => e) (fun _ _ e => e) (fun _ e => e) (fun _ _ _ _ _ _ e => e) (fun _ _ _ _ e => e) (fun _ _ e => e) (fun _ e => e) (fun _ _ _ _ e => e) (fun _ e => e) (fun _ _ _ e => e) (fun _ _ _ e => e) (fun _ e => e) () (fun _ _ _ _ => ()) x q e
def ZnU (x : CV) (q : Bool -> Res) (e : Res) : Res := @CV.rec (fun _ => (Bool -> Res) -> Res -> Res) (fun _ => Unit) (fun _ _ _ e => e) (fun b q _ => q b) (fun _ _ _ e => e) (fun _ _ _ e => e) (fun _ e => e) (fun _ _ _ _ _ _ _ e => e) (fun _ e => e) (fun _ _ e => e) (fun _ e => e) (fun _ _ _ _ _ _ e => e) (fun _ _ _ _ e => e) (fun _ _ e => e) (fun _ e => e) (fun _ _ _ _ e => e) (fun _ e => e) (fun _ _ _ e => e) (fun _ _ _ e => e) (fun _ e => e) () (fun _ _ _ _ => ()) x q e
def Zjt (x : CV) (q : Nat -> Nat -> Res) (e : Res) : Res := @CV.rec (fun _ => (Nat -> Nat -> Res) -> Res -> Res) (fun _ => Unit) (fun _ _ _ e => e) (fun _ _ e => e) (fun _ _ _ e => e) (fun b o q _ => q b o) (fun _ e => e) (fun _ _ _ _ _ _ _ e => e) (fun _ e => e) (fun _ _ e => e) (fun _ e => e) (fun _ _ _ _ _ _ e => e) (fun _ _ _ _ e => e) (fun _ _ e => e) (fun _ e => e) (fun _ _ _ _ e => e) (fun _ e => e) (fun _ _ _ e => e) (fun _ _ _ e => e) (fun _ e => e) () (fun _ _ _ _ => ()) x q e
def ZmQ (x : CV) (q : Nat -> Nat -> Nat -> Nat -> Nat -> Bool -> Res) (e : Res) : Res := @CV.rec (fun _ => (Nat -> Nat -> Nat -> Nat -> Nat -> Bool -> Res) -> Res -> Res) (fun _ => Unit) (fun _ _ _ e => e) (fun _ _ e => e) (fun _ _ _ e => e) (fun _ _ _ e => e) (fun _ e => e) (fun b o s l k ex q _ => q b o s l k ex) (fun _ e => e) (fun _ _ e => e) (fun _ e => e) (fun _ _ _ _ _ _ e => e) (fun _ _ _ _ e => e) (fun _ _ e => e) (fun _ e => e) (fun _ _ _ _ e => e) (fun _ e => e) (fun _ _ _ e => e) (fun _ _ _ e => e) (fun _ e => e) () (fun _ _ _ _ => ()) x q e
def ZAy (x : CV) (q : List CV -> Res) (e : Res) : Res := @CV.rec (fun _ => (List CV -> Res) -> Res -> Res) (fun _ => Unit) (fun _ _ _ e => e) (fun _ _ e => e) (fun _ _ _ e => e) (fun _ _ _ e => e) (fun _ e => e) (fun _ _ _ _ _ _ _ e => e) (fun _ e => e) (fun _ _ e => e) (fun _ e => e) (fun _ _ _ _ _ _ e => e) (fun _ _ _ _ e => e) (fun _ _ e => e) (fun _ e => e) (fun _ _ _ _ e => e) (fun _ e => e) (fun _ _ _ e => e) (fun cs _ q _ => q cs) (fun _ e => e) () (fun _ _ _ _ => ()) x q e
/-! ### Places -/
structure Pj (α : Type) where
 run : O α -> α
def pj {α : Type} (d : Nat) : Pj α := sel ⟨fun o => o.c0⟩ ⟨fun o => o.c1⟩ ⟨fun o => o.c2⟩ ⟨fun o => o.c3⟩ ⟨fun o => o.c4⟩ ⟨fun o => o.c5⟩ ⟨fun o => o.c6⟩ ⟨fun o => o.c7⟩ d
structure Up (α : Type) where
 run : (α -> α) -> O α -> O α
def up {α : Type} (d : Nat) : Up α :=
 sel ⟨fun f o => @O.rec α (fun _ => O α) (fun c0 c1 c2 c3 c4 c5 c6 c7 => ⟨f c0, c1, c2, c3, c4, c5, c6, c7⟩) o⟩
  ⟨fun f o => @O.rec α (fun _ => O α) (fun c0 c1 c2 c3 c4 c5 c6 c7 => ⟨c0, f c1, c2, c3, c4, c5, c6, c7⟩) o⟩
  ⟨fun f o => @O.rec α (fun _ => O α) (fun c0 c1 c2 c3 c4 c5 c6 c7 => ⟨c0, c1, f c2, c3, c4, c5, c6, c7⟩) o⟩
  ⟨fun f o => @O.rec α (fun _ => O α) (fun c0 c1 c2 c3 c4 c5 c6 c7 => ⟨c0, c1, c2, f c3, c4, c5, c6, c7⟩) o⟩
  ⟨fun f o => @O.rec α (fun _ => O α) (fun c0 c1 c2 c3 c4 c5 c6 c7 => ⟨c0, c1, c2, c3, f c4, c5, c6, c7⟩) o⟩
  ⟨fun f o => @O.rec α (fun _ => O α) (fun c0 c1 c2 c3 c4 c5 c6 c7 => ⟨c0, c1, c2, c3, c4, f c5, c6, c7⟩) o⟩
  ⟨fun f o => @O.rec α (fun _ => O α) (fun c0 c1 c2 c3 c4 c5 c6 c7 => ⟨c0, c1, c2, c3, c4, c5, f c6, c7⟩) o⟩
  ⟨fun f o => @O.rec α (fun _ => O α) (fun c0 c1 c2 c3 c4 c5 c6 c7 => ⟨c0, c1, c2, c3, c4, c5, c6, f c7⟩) o⟩ d
structure CX where
 run : F -> CV
def Zy0 (t : Nat) : CX := @Bool.rec (fun _ => CX) ⟨fun fr => fg fr t⟩ ⟨fun fr => (@pj CV (Nat.mod t 8)).run ((@pj (O CV) (Nat.mod (Nat.div t 8) 8)).run ((@pj (O (O CV)) (Nat.div t 64)).run fr.o))⟩ (Nat.ble t 510)
def Zfe (x : Operand) : CX :=
 match x with
 | .tmp t => Zy0 t
 | x => ⟨fun fr => lk fr x⟩
structure CXs where
 run : F -> List CV
def Zm6 (l : List Operand) : CXs := @List.rec Operand (fun _ => CXs) ⟨fun _ => []⟩ (fun x _ ih => ⟨fun fr => (Zfe x).run fr :: ih.run fr⟩) l
structure CU where
 run : CV -> F -> F
def ZFK (t : Nat) : CU := ⟨fun v fr => @F.rec (fun _ => F) (fun n o => (@Bool.rec (fun _ => F) (⟨n, o⟩) (⟨n, (@up (O (O CV)) (Nat.div t 64)).run (fun g => (@up (O CV) (Nat.mod (Nat.div t 8) 8)).run (fun h => (@up CV (Nat.mod t 8)).run (fun _ => v) h) g) o⟩) (Nat.ble (Nat.succ t) n))) fr⟩
def ZyX (d : Option Nat) : CU := match d with | some d => ZFK d | none => ⟨fun _ fr => fr⟩
def ZmS (h : H) (i : Nat) : Ck := (@pj Ck (Nat.mod i 8)).run ((@pj (O Ck) (Nat.mod (Nat.div i 8) 8)).run ((@pj (O (O Ck)) (Nat.mod (Nat.div i 64) 8)).run ((@pj (O (O (O Ck))) (Nat.mod (Nat.div i 512) 8)).run ((@pj (O (O (O (O Ck)))) (Nat.div i 4096)).run h))))
def ZzA (h : H) (i : Nat) (c : Ck) : H :=
 (@up (O (O (O (O Ck)))) (Nat.div i 4096)).run (fun h => (@up (O (O (O Ck))) (Nat.mod (Nat.div i 512) 8)).run (fun h => (@up (O (O Ck)) (Nat.mod (Nat.div i 64) 8)).run (fun h => (@up (O Ck) (Nat.mod (Nat.div i 8) 8)).run (fun h => (@up Ck (Nat.mod i 8)).run (fun _ => c) h) h) h) h) h
/-! ### Numbers -/
def addS (a b : Int) : Int := @Int.rec (fun _ => Int -> Int) (fun m b => @Int.rec (fun _ => Int) (fun n => .ofNat (Nat.add m n)) (fun n => Int.add (.ofNat m) (.negSucc n)) b) (fun m b => Int.add (.negSucc m) b) a b
def subS (a b : Int) : Int := @Int.rec (fun _ => Int -> Int) (fun m b => @Int.rec (fun _ => Int) (fun n => (@Bool.rec (fun _ => Int) (.negSucc (Nat.sub (Nat.sub n m) 1)) (.ofNat (Nat.sub m n)) (Nat.ble n m))) (fun n => Int.sub (.ofNat m) (.negSucc n)) b) (fun m b => Int.sub (.negSucc m) b) a b
def ltS (a b : Int) : Bool := @Int.rec (fun _ => Int -> Bool) (fun m b => @Int.rec (fun _ => Bool) (fun n => Nat.ble (Nat.succ m) n) (fun n => false) b) (fun m b => decide (Int.negSucc m < b)) a b
def leS (a b : Int) : Bool := @Int.rec (fun _ => Int -> Bool) (fun m b => @Int.rec (fun _ => Bool) (fun n => Nat.ble m n) (fun n => false) b) (fun m b => decide (Int.negSucc m <= b)) a b
def eqS (a b : Int) : Bool := @Int.rec (fun _ => Int -> Bool) (fun m b => @Int.rec (fun _ => Bool) (fun n => Nat.beq m n) (fun n => false) b) (fun m b => @Int.rec (fun _ => Bool) (fun n => false) (fun n => Nat.beq m n) b) a b
structure WK where
 run : Int -> Int
def Zzy (kd : Nat) : WK := ⟨fun n => @Int.rec (fun _ => Int) (fun m => (@Bool.rec (fun _ => Int) ((kc kd).wrap (.ofNat m)) (.ofNat m) (Nat.ble m (hiN kd)))) (fun m => Zfi kd (.negSucc m)) n⟩
structure IOp where
 run : Nat -> Int -> Int -> KS -> H -> Nat -> Res
def iop (op : BinOp) : IOp :=
 match op with
 | .add => ⟨fun kd a b k hp n => k (.int kd ((Zzy kd).run (addS a b))) hp n⟩
 | .sub => ⟨fun kd a b k hp n => k (.int kd ((Zzy kd).run (subS a b))) hp n⟩
 | .eql => ⟨fun kd a b k hp n => k (.bool (eqS a b)) hp n⟩
 | .neq => ⟨fun kd a b k hp n => k (.bool ((@Bool.rec (fun _ => Bool) (true) (false) (eqS a b)))) hp n⟩
 | .lss => ⟨fun kd a b k hp n => k (.bool (ltS a b)) hp n⟩
 | .leq => ⟨fun kd a b k hp n => k (.bool (leS a b)) hp n⟩
 | .gtr => ⟨fun kd a b k hp n => k (.bool (ltS b a)) hp n⟩
 | .geq => ⟨fun kd a b k hp n => k (.bool (leS b a)) hp n⟩
 | op => ⟨fun kd a b k hp n => ZqN op kd a b (fun v => k v hp n)⟩
def Zmx (op : BinOp) : Bool := match op with | .shl => true | .shr => true | _ => false
/-! ### Memory -/
def nthS (l : List CV) : Nat -> (CV -> Res) -> Res :=
 @List.rec CV (fun _ => Nat -> (CV -> Res) -> Res) (fun _ _ => none) (fun c _ ih i k => @Nat.rec (fun _ => Res) (k c) (fun j _ => ih j k) i) l
def rdS (c : Ck) (o : Nat) (k : CV -> Res) : Res :=
 @Ck.rec (fun _ => Res) none (fun cs => nthS cs o k) (fun l n => (@Bool.rec (fun _ => Res) (none) (k (.int 4 (.ofNat (Zhd n o)))) (Nat.ble (Nat.succ o) l))) (fun _ _ => none) (fun _ _ _ _ => none) (fun _ _ _ => none) none none (fun _ _ _ _ _ _ _ _ => none) (fun cs => nthS cs o k) c
def putS (v : CV) (l : List CV) : Nat -> (List CV -> Res) -> Res :=
 @List.rec CV (fun _ => Nat -> (List CV -> Res) -> Res) (fun _ _ => none) (fun c r ih i k => @Nat.rec (fun _ => Res) (k (v :: r)) (fun j _ => ih j (fun r' => k (c :: r'))) i) l
def ZGR (l : List CV) : Nat -> List CV := @List.rec CV (fun _ => Nat -> List CV) (fun _ => []) (fun c r ih i => @Nat.rec (fun _ => List CV) (c :: r) (fun j _ => ih j) i) l
def ZCp (l : List CV) : Nat -> (List CV -> Res) -> Res :=
 @List.rec CV (fun _ => Nat -> (List CV -> Res) -> Res) (fun n k => @Nat.rec (fun _ => Res) (k []) (fun _ _ => none) n) (fun c _ ih n k => @Nat.rec (fun _ => Res) (k []) (fun j _ => ih j (fun r => k (c :: r))) n) l
def ZnJ (c : Ck) (q : List CV -> Res) (e : Res) : Res :=
 @Ck.rec (fun _ => Res) e (fun cs => q cs) (fun _ _ => e) (fun _ _ => e) (fun _ _ _ _ => e) (fun _ _ _ => e) e e (fun _ _ _ _ _ _ _ _ => e) (fun _ => e) c
def newS (hp : H) (n : Nat) (c : Ck) (k : Nat -> H -> Nat -> Res) : Res :=
 (@Bool.rec (fun _ => Res) (none) (k (Nat.mod n 1048576) (ZzA hp (Nat.mod n 1048576) c) (Nat.succ n)) (Nat.ble (Nat.succ (Nat.mod n 1048576)) (Nat.div n 1048576)))
def Zok (mg : Bool) (n : Nat) (r : Res) (k : KS) : Res :=
 @Option.rec (List Out) (fun _ => Res) none (fun l => @List.rec Out (fun _ => Res) none (fun o os _ => @List.rec Out (fun _ => Res) (@Out.rec (fun _ => Res) (fun v hp n => k v hp n) o) (fun p os _ => after mg n (some (o :: p :: os)) k) os) l) r
abbrev Rn := Nat -> Cn
structure Cl where
 run : Rn -> Rn -> F -> H -> Nat -> KS -> Res
structure CR where
 run : Rn -> Rn -> F -> H -> Nat -> (F -> H -> Nat -> Res) -> Res
structure CC where
 run : Rn -> Rn -> Option Nat -> F -> H -> Nat -> (F -> H -> Nat -> Res) -> (Nat -> F -> H -> Nat -> Res) -> (F -> H -> Nat -> Res) -> Res
section
variable (P : Program) (ctrs : List (Nat × Option Cn))
def ZvO (x : CV) : Bool := @CV.rec (fun _ => Bool) (fun _ => Unit) (fun _ _ => true) (fun _ => true) (fun _ _ => true) (fun _ _ => true) true (fun _ _ _ _ _ _ => true) true (fun _ => true) true (fun _ _ _ _ _ => true) (fun _ _ _ => true) (fun _ => true) true (fun _ _ _ => true) true (fun _ _ => false) (fun _ _ => false) false () (fun _ _ _ _ => ()) x
def ZtJ (x : CV) : Bool := @CV.rec (fun _ => Bool) (fun _ => Unit) (fun _ _ => true) (fun _ => true) (fun _ _ => true) (fun _ _ => true) true (fun _ _ _ _ _ _ => true) true (fun _ => true) true (fun _ _ _ _ _ => true) (fun _ _ _ => true) (fun _ => true) true (fun _ _ _ => true) true (fun _ _ => true) (fun _ _ => true) false () (fun _ _ _ _ => ()) x
/-! ### Operations -/
def ZCR (t : Nat) (a : Operand) : Cl :=
 match tyA P t with
 | some (false, _) => ⟨fun bd rd fr hp n k => Zjt ((Zfe a).run fr) (fun b o => rdS (ZmS hp b) o (fun c => k c hp n)) none⟩
 | some (true, m) => ⟨fun bd rd fr hp n k => Zjt ((Zfe a).run fr) (fun b o => ZnJ (ZmS hp b) (fun cs => ZCp (ZGR cs o) m (fun r => k (.agg r) hp n)) (ZmL P fr hp t a (fun v => k v hp n))) none⟩
 | none => ⟨fun _ _ _ _ _ _ => none⟩
def Zva (t : Nat) (a v : Operand) : Cl :=
 match Zf9 P t with
 | some 1 => ⟨fun bd rd fr hp n k => Zjt ((Zfe a).run fr) (fun b o => (fun x => (@Bool.rec (fun _ => Res) (ZdR P fr hp n t a v k) (ZnJ (ZmS hp b) (fun cs => putS x cs o (fun r => k (.tup []) (ZzA hp b (.cells r)) n)) (ZdR P fr hp n t a v k)) (ZvO x))) ((Zfe v).run fr)) none⟩
 | _ => ⟨fun bd rd fr hp n k => ZdR P fr hp n t a v k⟩
def sBin (op : BinOp) (t : Nat) (x y : Operand) : Cl :=
 match Zmx op with
 | true => ⟨fun bd rd fr hp n k => ZAQ P fr hp op t x y (fun v => k v hp n)⟩
 | false => ⟨fun bd rd fr hp n k => ZuV ((Zfe x).run fr) (fun kd i => ZuV ((Zfe y).run fr) (fun kd' j => (@Bool.rec (fun _ => Res) (none) ((iop op).run kd i j k hp n) (Nat.beq kd kd'))) (ZAQ P fr hp op t x y (fun v => k v hp n))) (ZAQ P fr hp op t x y (fun v => k v hp n))⟩
def Znw (s : Nat) (x : Operand) (f : Nat) : Cl :=
 match tyD P s with
 | some (.struct fs) => (match Zeb fs.toList f with
  | some fd => (match Zf9 P fd.type with
   | some (_ + 1) => ⟨fun bd rd fr hp n k => Zjt ((Zfe x).run fr) (fun b o => k (.ptr b (Nat.add o fd.offset)) hp n) none⟩
   | _ => ⟨fun _ _ _ _ _ _ => none⟩)
  | none => ⟨fun _ _ _ _ _ _ => none⟩)
 | _ => ⟨fun _ _ _ _ _ _ => none⟩
def Zm2 (t : Nat) (x ix : Operand) : Cl :=
 match tyD P t with
 | some (.slice e) => (match Zf9 P e with
  | some (m + 1) => ⟨fun bd rd fr hp n k => ZuV ((Zfe ix).run fr) (fun _ i => @Int.rec (fun _ => Res) (fun i => ZmQ ((Zfe x).run fr) (fun b o s l _ _ => (@Bool.rec (fun _ => Res) (none) ((@Bool.rec (fun _ => Res) (none) (k (.ptr b (Nat.add o (Nat.mul i s))) hp n) (Nat.beq s (Nat.succ m)))) (Nat.ble (Nat.succ i) l))) none) (fun _ => none) i) none⟩
  | _ => ⟨fun _ _ _ _ _ _ => none⟩)
 | _ => ⟨fun bd rd fr hp n k => Zdf P fr t x ix (fun v => k v hp n)⟩
def ZiE (t : Operand) (ix : Nat) : Cl := ⟨fun bd rd fr hp n k => ZAy ((Zfe t).run fr) (fun vs => nthS vs ix (fun v => k v hp n)) none⟩
def ZFp (c a b : Operand) : Cl := ⟨fun bd rd fr hp n k => ZnU ((Zfe c).run fr) (fun q => (@Bool.rec (fun _ => Res) (k ((Zfe b).run fr) hp n) (k ((Zfe a).run fr) hp n) (q))) none⟩
def Zt8 (t : Nat) : Cl :=
 match ZkA P t with
 | some cs => (match Nat.beq t ZIs with
  | true => ⟨fun bd rd fr hp n k => newS hp n (.tcells cs) (fun i hp n => k (.ptr i 0) hp n)⟩
  | false => ⟨fun bd rd fr hp n k => newS hp n (.cells cs) (fun i hp n => k (.ptr i 0) hp n)⟩)
 | none => ⟨fun _ _ _ _ _ _ => none⟩
def ZEv (s d : Nat) (x : Operand) : Cl :=
 match tyD P d, tyD P s with
 | some (.int kd), some _ => ⟨fun bd rd fr hp n k => ZuV ((Zfe x).run fr) (fun _ i => k (.int (kn kd) ((Zzy (kn kd)).run i)) hp n) none⟩
 | _, _ => ⟨fun bd rd fr hp n k => ZkQ P fr hp n s d x k⟩
def ZCA (c : Call) : Cl :=
 match c.callee with
 | .value (.func f) => (match ZS ctrs f with
  | some c' => (match c' with
   | some c' => ⟨fun bd rd fr hp n k => Zok true n (c' ((Zm6 c.args.toList).run fr) hp n) k⟩
   | none => ⟨fun bd rd fr hp n k => Zok false n (bd f ((Zm6 c.args.toList).run fr) hp n) k⟩)
  | none => ⟨fun bd rd fr hp n k => Zok true n (bd f ((Zm6 c.args.toList).run fr) hp n) k⟩)
 | .value f => ⟨fun bd rd fr hp n k => ZzX P ctrs bd rd ((Zfe f).run fr) ((Zm6 c.args.toList).run fr) hp n k⟩
 | .builtin b => (match b, c.args.toList, c.argTypes.toList with
  | .len, [x], t :: _ => (match tyD P t with
   | some (.slice _) => ⟨fun bd rd fr hp n k => ZmQ ((Zfe x).run fr) (fun _ _ _ l _ _ => k (.int 3 (.ofNat l)) hp n) (ZIa P hp ((Zfe x).run fr) t (fun v => k v hp n))⟩
   | _ => ⟨fun bd rd fr hp n k => Zh3 P fr hp n b c.args.toList c.argTypes.toList k⟩)
  | _, _, _ => ⟨fun bd rd fr hp n k => Zh3 P fr hp n b c.args.toList c.argTypes.toList k⟩)
 | .invoke r name => ⟨fun bd rd fr hp n k => match (Zfe r).run fr with
  | .ifc t v => (match ZaW P t name with
   | some f => ZkD ctrs bd f (v :: (Zm6 c.args.toList).run fr) hp n k
   | none => none)
  | _ => none⟩
def sOp (o : Op) : Cl :=
 match o with
 | .alloc t => Zt8 P t
 | .box t x => ⟨fun bd rd fr hp n k => lBox fr hp n t x k⟩
 | .store t a v => Zva P t a v
 | .makeSlice t l c => ⟨fun bd rd fr hp n k => Zqj P fr hp n t l c k⟩
 | .makeMap t r => ⟨fun bd rd fr hp n k => Zox P fr hp n t r k⟩
 | .buildSlice t len parts => ⟨fun bd rd fr hp n k => ZjI P fr hp n t len parts k⟩
 | .mapUpdate t m x v => ⟨fun bd rd fr hp n k => Zhz P fr hp n t m x v k⟩
 | .insert t m x v => ⟨fun bd rd fr hp n k => Zhz P fr hp n t m x v k⟩
 | .mapEntry t m x => ⟨fun bd rd fr hp n k => ZdE P fr hp n t m x k⟩
 | .entryStore t m s v => ⟨fun bd rd fr hp n k => ZbF fr hp n m s v k⟩
 | .range t x => ⟨fun bd rd fr hp n k => Zqm P fr hp n t x k⟩
 | .next x str => ⟨fun bd rd fr hp n k => ZAc fr hp n x str k⟩
 | .entry x => ⟨fun bd rd fr hp n k => ZpI fr hp n x k⟩
 | .convert s d x => ZEv P s d x
 | .call c => ZCA P ctrs c
 | .move x => ⟨fun bd rd fr hp n k => k ((Zfe x).run fr) hp n⟩
 | .assign x => ⟨fun bd rd fr hp n k => k ((Zfe x).run fr) hp n⟩
 | .pick c a b => ZFp c a b
 | .load t a => ZCR P t a
 | .nilCheck x => ⟨fun bd rd fr hp n k => qNil P fr x (fun v => k v hp n)⟩
 | .binOp op t x y _ => sBin P op t x y
 | .unOp op _ x => ⟨fun bd rd fr hp n k => qUn fr op x (fun v => k v hp n)⟩
 | .makeInterface t x => ⟨fun bd rd fr hp n k => ZoU P fr t x (fun v => k v hp n)⟩
 | .makeFunc fn a b => ⟨fun bd rd fr hp n k => ZoH fr fn a b (fun v => k v hp n)⟩
 | .slice t x lo hi mx => ⟨fun bd rd fr hp n k => Zpi P fr hp t x lo hi mx (fun v => k v hp n)⟩
 | .fieldAddr s x f => Znw P s x f
 | .field t x f => ⟨fun bd rd fr hp n k => Zqr P fr t x f (fun v => k v hp n)⟩
 | .indexAddr t x ix => Zm2 P t x ix
 | .index t x ix => ⟨fun bd rd fr hp n k => Zn2 P fr t x ix (fun v => k v hp n)⟩
 | .lookup t x ix ok => ⟨fun bd rd fr hp n k => ZAk P fr hp t x ix ok (fun v => k v hp n)⟩
 | .typeAssert x xt t ok => ⟨fun bd rd fr hp n k => Zji P fr x xt t ok (fun v => k v hp n)⟩
 | .extract t ix => ZiE t ix
 | .build t parts => ⟨fun bd rd fr hp n k => Zoc P fr t parts (fun v => k v hp n)⟩
 | _ => ⟨fun _ _ _ _ _ _ => none⟩
def ZqZ (o : Oper) (next : CR) : CR :=
 match o.op with
 | .defer c => ⟨fun bd rd fr hp n k => match Zh5 c fr with | some d => next.run bd rd (Zhc (Zhl fr d) o.dst (.tup [])) hp n k | none => none⟩
 | op => (match o.dst with
  | some d => ⟨fun bd rd fr hp n k => (sOp P ctrs op).run bd rd fr hp n (fun v hp n => next.run bd rd ((ZFK d).run v fr) hp n k)⟩
  | none => ⟨fun bd rd fr hp n k => (sOp P ctrs op).run bd rd fr hp n (fun v hp n => next.run bd rd fr hp n k)⟩)
def ZBy (ops l : List Oper) : CR :=
 @List.rec Oper (fun _ => CR) ⟨fun _ _ fr hp n k => k fr hp n⟩ (fun o _ next =>
  match o.guard with
  | none => ZqZ P ctrs o next
  | some g => ⟨fun bd rd fr hp n k => match Zz ops fr (some g) with
   | .go => (ZqZ P ctrs o next).run bd rd fr hp n k
   | .skip => next.run bd rd (Zhc fr o.dst (.tup [])) hp n k
   | .bad => none⟩) l
/-! Regions that draw their order: what has been listed is a number's bits; what they wait for is told once. -/
def ZyV (l : List Edge) : Nat := @List.rec Edge (fun _ => Nat) 0 (fun e _ ih => bif Region.binds .any e then Nat.lor (Nat.pow 2 e.on) ih else ih) l
def ZmX (l : List Oper) : List Nat := @List.rec Oper (fun _ => List Nat) [] (fun o _ ih => ZyV o.after.toList :: ih) l
def ZgX (m : Nat) (l : List Nat) : Nat -> List Nat :=
 @List.rec Nat (fun _ => Nat -> List Nat) (fun _ => []) (fun d _ ih i => bif (bif Nat.beq (Nat.land m (Nat.pow 2 i)) 0 then Nat.beq (Nat.land m d) d else false) then i :: ih (i + 1) else ih (i + 1)) l
def apM (ops : Array Oper) (i : Nat) (oi : Oper) (l : List Oper) : Nat -> Nat :=
 @List.rec Oper (fun _ => Nat -> Nat) (fun _ => 0) (fun oj _ ih j => bif (bif Nat.beq j i then true else bif oj.after.any (fun e => Region.binds .any e && e.on == i) then true else oi.apart ops oj) then Nat.lor (Nat.pow 2 j) (ih (j + 1)) else ih (j + 1)) l
def apMs (ops : Array Oper) (i : Nat) : Nat := match Zeb ops.toList i with | some oi => apM ops i oi ops.toList 0 | none => 0
def Zgt (ops : Array Oper) (m i : Nat) : Bool := match Nat.pow 2 ops.size - 1 with | f => Nat.beq (Nat.land (Nat.lor m (apMs ops i)) f) f
structure DR where
 run : Rn -> Rn -> Nat -> List (Nat × Nat) -> List Rec -> F -> H -> Nat -> (F -> H -> Nat -> Res) -> Res
def ZzK (ops : List Oper) (j : Nat) (op : Op) (bd rd : Rn) (n0 : Nat) (rs : List (Nat × Nat)) (fr : F) (hp : H) (n : Nat) (k : KS) : Res :=
 bif Yc op then (sOp P ctrs op).run bd rd fr hp (mkN (n0 + Za5 ops j + 1) (n0 + Za5 ops j)) (fun v hp _ => k v hp n) else
  (match ZS rs j with
  | some i => (sOp P ctrs op).run bd rd fr hp (mkN (i + YD) i) (fun v hp _ => k v hp n)
  | none => (sOp P ctrs op).run bd rd fr hp n k)
def Zdo (ops : Array Oper) (fuel : Nat) : Nat -> DR :=
 @Nat.rec (fun _ => Nat -> DR) (fun _ => ⟨fun _ _ _ _ _ _ _ _ _ => none⟩) (fun _ ih m =>
  match ZgX m (ZmX ops.toList) 0 with
  | [] => ⟨fun _ _ _ _ _ fr hp n k => k fr hp n⟩
  | i0 :: rest => @List.rec Nat (fun _ => DR)
   ⟨fun bd rd n0 rs recs fr hp n k => (match (bif YT ops.toList 0 (i0 :: rest) then Zbz ops.toList (i0 :: rest) rs n else (rs, n)) with
    | (rs, m') => bif (bif Nat.ble (idN m') (Yx m') then Nat.beq (Yx m') (Yx n) else false) then ZmK (fun j => match Zeb ops.toList j with
     | some o => (match Zz ops.toList fr o.guard with
      | .go => ZzK P ctrs ops.toList j o.op bd rd n0 rs fr hp m' fun v hp n =>
        (match recs.filter fun r => !(ZdM o r.i) with
        | recs => bif recs.all (Zhh P hp) then (ih (Nat.lor m (Nat.pow 2 j))).run bd rd n0 rs recs ((ZyX o.dst).run v fr) hp n k else none)
      | _ => none)
     | none => none) (i0 :: rest) else none)⟩
   (fun i _ next => match Zeb ops.toList i with
    | none => next
    | some o => (match o.guard with
     | none => (match Yg P o.op with
      | true => (match Zgt ops m i with
       | true => ⟨fun bd rd n0 rs recs fr hp n k => (sOp P ctrs o.op).run bd rd fr hp n (fun v hp n => (ih (Nat.lor m (Nat.pow 2 i))).run bd rd n0 rs (@Bool.rec (fun _ => List Rec) (⟨i, o, fr, v⟩ :: recs) recs (ZbY o.op)) ((ZyX o.dst).run v fr) hp n k)⟩
       | false => ⟨fun _ _ _ _ _ _ _ _ _ => none⟩)
      | false => next)
     | some g => ⟨fun bd rd n0 rs recs fr hp n k => match Zz ops.toList fr (some g) with
      | .skip => bif Zgt ops m i then (ih (Nat.lor m (Nat.pow 2 i))).run bd rd n0 rs recs ((ZyX o.dst).run (.tup []) fr) hp n k else none
      | .go => bif Yg P o.op then (bif Zgt ops m i then (sOp P ctrs o.op).run bd rd fr hp n (fun v hp n => (ih (Nat.lor m (Nat.pow 2 i))).run bd rd n0 rs (@Bool.rec (fun _ => List Rec) (⟨i, o, fr, v⟩ :: recs) recs (ZbY o.op)) ((ZyX o.dst).run v fr) hp n k) else none) else next.run bd rd n0 rs recs fr hp n k
      | .bad => bif Yg P o.op then none else next.run bd rd n0 rs recs fr hp n k⟩)) (i0 :: rest)) fuel
def ZmP (ops : Array Oper) (draw : Bool) : CR :=
 match draw with
 | false => ZBy P ctrs ops.toList ops.toList
 | true => (match (bif P.follows .mixedOrders then (bif Region.noSelect ops then ZeI ops.toList else false) else false) with
  | true => ⟨fun bd rd fr hp n k => bif Nat.ble (idN n + ZaS ops.toList) (Yx n) then (Zdo P ctrs ops (ops.size + 1) 0).run bd rd (idN n) [] [] fr hp (n + ZaS ops.toList) k else none⟩
  | false => ⟨fun _ _ _ _ _ _ => none⟩)
def Zzu (c : CC) (bd rd : Rn) (ro : Option Nat) (kn : F -> H -> Nat -> Res) (ke : Nat -> F -> H -> Nat -> Res) (kr : F -> H -> Nat -> Res) (fuel : Nat) : F -> H -> Nat -> Res :=
 @Nat.rec (fun _ => F -> H -> Nat -> Res) (fun _ _ _ => none) (fun _ ih fr hp n => c.run bd rd ro fr hp n ih ke kr) fuel
def Zis : Nat := 1000000
def Zaq (fn : Nat) : Code -> CC
 | .skip => ⟨fun bd rd ro fr hp n kn ke kr => kn fr hp n⟩
 | .label _ => ⟨fun bd rd ro fr hp n kn ke kr => kn fr hp n⟩
 | .region _ ops draw => ⟨fun bd rd ro fr hp n kn ke kr => (ZmP P ctrs ops draw).run bd rd fr hp n kn⟩
 | .seq a b => ⟨fun bd rd ro fr hp n kn ke kr => (Zaq fn a).run bd rd ro fr hp n (fun fr hp n => (Zaq fn b).run bd rd ro fr hp n kn ke kr) ke kr⟩
 | .cond x a b => ⟨fun bd rd ro fr hp n kn ke kr => ZnU ((Zfe x).run fr) (fun q => @Bool.rec (fun _ => Res) ((Zaq fn b).run bd rd ro fr hp n kn ke kr) ((Zaq fn a).run bd rd ro fr hp n kn ke kr) q) none⟩
 | .block id b => ⟨fun bd rd ro fr hp n kn ke kr => (Zaq fn b).run bd rd ro fr hp n kn (fun i fr hp n => @Bool.rec (fun _ => Res) (ke i fr hp n) (kn fr hp n) (Nat.beq i id)) kr⟩
 | .exit id => ⟨fun bd rd ro fr hp n kn ke kr => ke id fr hp n⟩
 | .ret => ⟨fun bd rd ro fr hp n kn ke kr => kr fr hp n⟩
 | .loop b => ⟨fun bd rd ro fr hp n kn ke kr => Zzu (Zaq fn b) bd rd ro kn ke kr Zis fr hp n⟩
 | .rangeFunc g ps assign body => ⟨fun bd rd ro fr hp n kn ke kr => match Zln ro fn ps.toList assign body fr hp n with
   | some (l, fr, hp, n) => ZuA ctrs bd (lk fr g) [.yld l] hp n (fun _ hp n =>
    match ZH0 l hp with
    | some (j, hp) => jump j fr hp n kn ke kr
    | none => none)
   | none => none⟩
 | _ => ⟨fun _ _ _ _ _ _ _ _ _ => none⟩
structure CF where
 run : Rn -> Rn -> Rn -> Cn
variable (dctrs : List (Nat × Cn))
def argS (args : List CV) : Nat -> F -> F := @List.rec CV (fun _ => Nat -> F -> F) (fun _ fr => fr) (fun c _ ih i fr => ih (Nat.succ i) ((ZFK i).run c fr)) args
def ZIY (args : List CV) : Nat := @List.rec CV (fun _ => Nat) 0 (fun _ _ ih => Nat.succ ih) args
structure CV1 where
 run : F -> H -> (List CV -> Res) -> Res
def ZAq (l : List ResultVar) : CV1 :=
 @List.rec ResultVar (fun _ => CV1) ⟨fun _ _ k => k []⟩ (fun r _ ih =>
  match r with
  | .tmp t => ⟨fun fr hp k => (fun x => @Bool.rec (fun _ => Res) none (ih.run fr hp (fun vs => k (x :: vs))) (ZtJ x)) ((Zy0 t).run fr)⟩
  | .cell a t => (match tyA P t with
   | some (false, _) => ⟨fun fr hp k => Zjt ((Zy0 a).run fr) (fun b o => rdS (ZmS hp b) o (fun c => ih.run fr hp (fun vs => k (c :: vs)))) none⟩
   | some (true, m) => ⟨fun fr hp k => Zjt ((Zy0 a).run fr) (fun b o => match rdN hp b o m with | some cs => ih.run fr hp (fun vs => k (.agg cs :: vs)) | none => none) none⟩
   | none => ⟨fun _ _ _ => none⟩)) l
def ZFM (vs : List CV) (hp : H) (n : Nat) : Res :=
 @List.rec CV (fun _ => Res) (some [⟨.tup [], hp, n⟩]) (fun v r _ => @List.rec CV (fun _ => Res) (some [⟨v, hp, n⟩]) (fun w r _ => some [⟨.tup (v :: w :: r), hp, n⟩]) r) vs
structure CE where
 run : Rn -> F -> H -> Nat -> Res
def ZII (fn : Func) : CE := ⟨fun db fr hp n => ZAy (Zc9 fr ZW) (fun l => Zhj dctrs db l hp n (fun hp n => (ZAq P fn.results.toList).run fr hp (fun vs => ZFM vs hp n))) ((ZAq P fn.results.toList).run fr hp (fun vs => ZFM vs hp n))⟩
def Zvo (fn : Func) : CE := ⟨fun _ fr hp n => ZAy (Zc9 fr ZW) (fun _ => none) ((ZAq P fn.results.toList).run fr hp (fun vs => ZFM vs hp n))⟩
def sEnd (m : Nat) (fn : Func) : CE := match m with | 0 => ZII P dctrs fn | _ => Zvo P fn
def ZFR (m f : Nat) : CF :=
 match ZHk P.funcs.toList f with
 | none => ⟨fun _ _ _ _ _ _ => none⟩
 | some fn => (match fn.body with
  | none => ⟨fun _ _ _ _ _ _ => none⟩
  | some c => (match (bif Nat.ble fn.ntmps 511 then !(fn.name == "runtime.NumGoroutine") else false) with
   | true => ⟨fun bd rd db args hp n => @Bool.rec (fun _ => Res) none
     ((Zaq P ctrs f c).run bd rd none (argS args 0 (F0 (Nat.add (ZIY args) (Nat.sub fn.ntmps (ZIY args))))) hp n ((sEnd P dctrs m fn).run db) (fun _ _ _ _ => none) ((sEnd P dctrs m fn).run db)) (Nat.ble (ZIY args) 511)⟩
   | false => ⟨fun _ _ _ _ _ _ => none⟩))
def ZoL (bd rd : Rn) (l : Nat) (args : List CV) (hp : H) (n : Nat) : Res :=
 match ZL hp l with
 | .loop fn fr ps assign body db st pend => bif Nat.beq st 0 then (match ZrG ps args (ZrM fr ZW .nili) with
  | some fr => (Zaq P ctrs fn assign).run bd rd (some l) fr hp n (fun fr1 hp n => match ZL hp l with
   | .loop fn0 fr0 ps0 a0 b0 db0 st0 pend0 => bif Nat.beq st0 0 then (Zaq P ctrs fn body).run bd rd (some l) fr1 (YZ hp l (.loop fn0 fr0 ps0 a0 b0 db0 1 pend0)) n
     (fun _ hp n => round.endR l none hp n) (fun i _ hp n => round.endR l (some (.exit i)) hp n) (fun _ hp n => round.endR l (some .ret) hp n) else none
   | _ => none) (fun _ _ _ _ => none) (fun _ _ _ => none)
  | none => none) else none
 | _ => none
def goS (fuel : Nat) : Nat -> Rn :=
 @Nat.rec (fun _ => Nat -> Rn) (fun _ _ _ _ _ => none) (fun _ ih m => match m with
  | 1 => fun l args hp n => ZoL P ctrs (ih 0) (ih 1) l args hp n
  | m => fun f args hp n => (ZFR P ctrs dctrs m f).run (ih 0) (ih 1) (ih 2) args hp n) fuel
end
end
end Go.Cx
namespace Go.Cx
theorem Zol {α : Type} (d : Nat) (o : O α) : (pj d).run o = og o d := by
 obtain ⟨c0, c1, c2, c3, c4, c5, c6, c7⟩ := o
 match d with
 | 0 => rfl | 1 => rfl | 2 => rfl | 3 => rfl | 4 => rfl | 5 => rfl | 6 => rfl | 7 => rfl | _ + 8 => rfl
theorem ZBb {α : Type} (d : Nat) (f : α -> α) (o : O α) : (up d).run f o = os f o d := by
 obtain ⟨c0, c1, c2, c3, c4, c5, c6, c7⟩ := o
 match d with
 | 0 => rfl | 1 => rfl | 2 => rfl | 3 => rfl | 4 => rfl | 5 => rfl | 6 => rfl | 7 => rfl | _ + 8 => rfl
theorem ZvW {α : Type} (b : Bool) (x y : α) : @Bool.rec (fun _ => α) y x b = bif b then x else y := by cases b <;> rfl
variable {fr : F}
theorem ZiV (h : NJ fr) (t : Nat) : (Zy0 t).run fr = fg fr t := by
 unfold Zy0
 cases hb : Nat.ble t 510
 ·rfl
 ·have ht := ZJA hb
  show (@pj CV (t % 8)).run ((@pj (O CV) (t / 8 % 8)).run ((@pj (O (O CV)) (t / 64)).run fr.o)) = fg fr t
  rw [Zol, Zol, Zol, ZD4]
  have e : og (og (og fr.o (t / 64)) (t / 8 % 8)) (t % 8) = Zc9 fr t := by obtain ⟨n, o⟩ := fr; rfl
  rw [e]
  cases hn : Nat.blt t fr.n
  ·have : ¬ t < fr.n := fun e => by have h2 : Nat.blt t fr.n = true := (by simpa [Nat.blt_eq] using e); rw [hn] at h2; cases h2
   exact h t (by omega) (by omega)
  ·rfl
theorem Yy (h : NJ fr) (x : Operand) : (Zfe x).run fr = lk fr x := by
 cases x with
 | tmp t => exact ZiV h t
 | const v => rfl
 | global g => rfl
 | func f => rfl
theorem ZcA (h : NJ fr) : ∀ l : List Operand, (Zm6 l).run fr = lks fr l
 | [] => rfl
 | x :: l => by
  show (Zfe x).run fr :: (Zm6 l).run fr = lk fr x :: lks fr l
  rw [Yy h, ZcA h l]
theorem Zjs (a b : Nat) : Nat.ble (Nat.succ a) b = Nat.blt a b := rfl
theorem ZmO (t : Nat) (v : CV) (fr : F) : (ZFK t).run v fr = Zml fr t v := by
 obtain ⟨n, o⟩ := fr
 unfold ZFK Zml
 simp only [ZBb, ZvW, Zjs]
 rfl
theorem Zm4 (d : Option Nat) (v : CV) (fr : F) : (ZyX d).run v fr = Zhc fr d v := by
 cases d with
 | none => rfl
 | some d => exact ZmO d v fr
theorem Zfn (h : H) (i : Nat) : ZmS h i = ZL h i := by
 unfold ZmS ZL
 simp only [Zol]
 rfl
theorem Zo7 (h : H) (i : Nat) (c : Ck) : ZzA h i c = YZ h i c := by
 unfold ZzA YZ
 simp only [ZBb]
 rfl
/-! ### Numbers -/
theorem ZCY (a b : Int) : addS a b = a + b := by
 cases a <;> cases b <;> rfl
theorem ZEW (a b : Int) : subS a b = a - b := by
 cases a with
 | ofNat m =>
  cases b with
  | ofNat n =>
   show (@Bool.rec (fun _ => Int) (.negSucc (n - m - 1)) (.ofNat (m - n)) (Nat.ble n m)) = _
   cases h : Nat.ble n m
   ·have : ¬ n <= m := fun e => by rw [Nat.ble_eq_true_of_le e] at h; cases h
    show Int.negSucc (n - m - 1) = (m : Int) - n
    rw [Int.negSucc_eq]; omega
   ·have := ZJA h
    show ((m - n : Nat) : Int) = (m : Int) - n
    omega
  | negSucc n => rfl
 | negSucc m => rfl
theorem ZFQ (a b : Int) : ltS a b = decide (a < b) := by
 cases a with
 | ofNat m =>
  cases b with
  | ofNat n =>
   show Nat.ble (Nat.succ m) n = decide ((m : Int) < n)
   cases h : Nat.ble (Nat.succ m) n
   ·have : ¬ m + 1 <= n := fun e => by have := Nat.ble_eq_true_of_le e; rw [h] at this; cases this
    symm; simp; omega
   ·have := ZJA h
    symm; simp; omega
  | negSucc n =>
   show false = decide ((m : Int) < Int.negSucc n)
   symm; simp; omega
 | negSucc m => rfl
theorem ZFV (a b : Int) : leS a b = decide (a <= b) := by
 cases a with
 | ofNat m =>
  cases b with
  | ofNat n =>
   show Nat.ble m n = decide ((m : Int) <= n)
   cases h : Nat.ble m n
   ·have : ¬ m <= n := fun e => by have := Nat.ble_eq_true_of_le e; rw [h] at this; cases this
    symm; simp; omega
   ·have := ZJA h
    symm; simp; omega
  | negSucc n =>
   show false = decide ((m : Int) <= Int.negSucc n)
   symm; simp; omega
 | negSucc m => rfl
theorem ZAL (a b : Int) : eqS a b = ibq a b := by cases a <;> cases b <;> rfl
theorem ZoK (kd : Nat) (n : Int) : (Zzy kd).run n = Zfi kd n := by
 cases n with
 | ofNat m =>
  show (@Bool.rec (fun _ => Int) ((kc kd).wrap (.ofNat m)) (.ofNat m) (Nat.ble m (hiN kd))) = Zfi kd (.ofNat m)
  rw [ZvW]; rfl
 | negSucc m => rfl
theorem ZGX {op : BinOp} (h : Zmx op = false) (kd : Nat) (a b : Int) (k : KS) (hp : H) (n : Nat) : (iop op).run kd a b k hp n = ZqN op kd a b (fun v => k v hp n) := by
 cases op <;> first | rfl | (cases h; done) | (simp only [iop, ZqN, ZoK, ZCY, ZEW, ZFQ, ZFV, ZAL, ZvW]; done) | skip
 show k (.bool (@Bool.rec (fun _ => Bool) true false (eqS a b))) hp n = k (.bool (!(ibq a b))) hp n
 rw [ZAL]; cases ibq a b <;> rfl
/-! ### Memory -/
def ZcN {α β : Type} (o : Option α) (k : α -> Option β) : Option β := match o with | some a => k a | none => none
theorem Zns (k : CV -> Res) : ∀ (l : List CV) (i : Nat), nthS l i k = ZcN (Zqt l i) k
 | [], i => by cases i <;> rfl
 | c :: l, 0 => rfl
 | c :: l, i + 1 => Zns k l i
theorem ZAU (hp : H) (b o : Nat) (k : CV -> Res) : rdS (ZL hp b) o k = ZcN (rd1 hp b o) k := by
 unfold rd1
 cases ZL hp b <;> first | rfl | exact Zns k _ o | skip
 rename_i l n
 show (@Bool.rec (fun _ => Res) none (k (.int 4 (.ofNat (Zhd n o)))) (Nat.ble (Nat.succ o) l)) = _
 rw [ZvW, Zjs]
 show (bif Nat.blt o l then k (.int 4 (.ofNat (Zhd n o))) else none) = ZcN (bif Nat.blt o l then some (.int 4 (.ofNat (Zhd n o))) else none) k
 cases Nat.blt o l <;> rfl
theorem Zwg (v : CV) : ∀ (l : List CV) (o : Nat) (k : List CV -> Res), putS v l o k = ZcN (Zja [v] o l) k
 | [], 0, k => rfl
 | [], o + 1, k => rfl
 | c :: l, 0, k => by
  show k (v :: l) = ZcN (Zfh [v] (c :: l)) k
  simp only [Zfh, ZcN]
 | c :: l, o + 1, k => by
  show putS v l o (fun r => k (c :: r)) = ZcN (Zja [v] (o + 1) (c :: l)) k
  rw [Zwg v l o]
  simp only [Zja]
  cases Zja [v] o l <;> rfl
theorem ZoE : ∀ (l : List CV) (o : Nat), ZGR l o = Zd7 o l
 | [], 0 => rfl
 | [], o + 1 => rfl
 | c :: l, 0 => rfl
 | c :: l, o + 1 => ZoE l o
theorem Zo4 : ∀ (l : List CV) (n : Nat) (k : List CV -> Res), ZCp l n k = ZcN (ZcP n l) k
 | [], 0, k => rfl
 | [], n + 1, k => rfl
 | c :: l, 0, k => rfl
 | c :: l, n + 1, k => by
  show ZCp l n (fun r => k (c :: r)) = ZcN (ZcP (n + 1) (c :: l)) k
  rw [Zo4 l n]
  simp only [ZcP]
  cases ZcP n l <;> rfl
theorem Zhx (c : Ck) (q : List CV -> Res) (e : Res) : ZnJ c q e = (match c with | .cells cs => q cs | _ => e) := by cases c <;> rfl
theorem ZwA (hp : H) (n : Nat) (c : Ck) (v : Nat -> CV) (k : KS) : newS hp n c (fun i hp n => k (v i) hp n) = Zar hp n c v k := by
 unfold newS Zar
 rw [ZvW, Zo7, Zjs]
 rfl
theorem ZgF (mg : Bool) (n : Nat) (r : Res) (k : KS) : Zok mg n r k = after mg n r k := by
 unfold after
 cases r with
 | none => rfl
 | some l =>
  cases l with
  | nil => rfl
  | cons o os =>
   cases os with
   | nil => rfl
   | cons p os => rfl
theorem Zjw (x : CV) (q : Nat -> Int -> Res) (e : Res) : ZuV x q e = (match x with | .int k n => q k n | _ => e) := by cases x <;> rfl
theorem Zkc (x : CV) (q : Bool -> Res) (e : Res) : ZnU x q e = (match x with | .bool b => q b | _ => e) := by cases x <;> rfl
theorem ZbC (x : CV) (q : Nat -> Nat -> Res) (e : Res) : Zjt x q e = (match x with | .ptr b o => q b o | _ => e) := by cases x <;> rfl
theorem Zhr (x : CV) (q : Nat -> Nat -> Nat -> Nat -> Nat -> Bool -> Res) (e : Res) : ZmQ x q e = (match x with | .slice b o s l k ex => q b o s l k ex | _ => e) := by cases x <;> rfl
theorem ZjC (x : CV) (q : List CV -> Res) (e : Res) : ZAy x q e = (match x with | .tup l => q l | _ => e) := by cases x <;> rfl
end Go.Cx
namespace Go.Cx
section
variable {P : Program} {ctrs : List (Nat × Option Cn)} {fr : F} {bd rd : Rn} {hp : H} {n : Nat} {k : KS}
theorem ZzT (h : NJ fr) (t : Nat) (a : Operand) : (ZCR P t a).run bd rd fr hp n k = ZmL P fr hp t a (fun v => k v hp n) := by
 unfold ZCR ZmL
 generalize hA : tyA P t = ty
 match ty with
 | none => simp only; cases lk fr a <;> rfl
 | some (false, m) =>
  simp only [ZbC, Yy h, Zfn, ZAU]
  cases lk fr a <;> try rfl
  rename_i b o
  show ZcN (rd1 hp b o) (fun c => k c hp n) = (match rd1 hp b o with | some c => k c hp n | none => none)
  cases rd1 hp b o <;> rfl
 | some (true, m) =>
  simp only [ZbC, Yy h, Zfn, Zhx, Zo4, ZoE]
  cases he : lk fr a <;> try rfl
  rename_i b o
  simp only
  cases hc : ZL hp b <;> simp only [rdN, hc, ZmL, hA, he]
  rename_i cs
  show ZcN (ZcP m (Zd7 o cs)) (fun r => k (.agg r) hp n) = (match ZcP m (Zd7 o cs) with | some r => k (.agg r) hp n | none => none)
  cases ZcP m (Zd7 o cs) <;> rfl
theorem ZtY {x : CV} (h : ZvO x = true) : ZtD x = true /\ cellsOf x = [x] /\ x ≠ .junk := by
 cases x <;> first | (cases h; done) | exact ⟨rfl, rfl, by simp⟩
theorem ZxR (h : NJ fr) (t : Nat) (a v : Operand) : (Zva P t a v).run bd rd fr hp n k = ZdR P fr hp n t a v k := by
 unfold Zva
 split
 ·rename_i hsz
  simp only [ZbC, Yy h, Zfn, Zhx, Zwg, Zo7, ZvW]
  cases he : lk fr a with
  | ptr b o =>
   simp only
   cases hp1 : ZvO (lk fr v)
   ·rfl
   ·simp only [cond_true]
    obtain ⟨h1, h2, h3⟩ := ZtY hp1
    cases hc : ZL hp b <;> try rfl
    rename_i cs
    simp only [ZdR, he, hsz]
    rw [h2]
    simp only [wrN, hc, Zb4, h1]
    show ZcN (Zja [lk fr v] o cs) _ = (match (match Zja [lk fr v] o cs with | some new => some (YZ hp b (.cells new)) | none => none) with | some hp' => k (.tup []) hp' n | none => none)
    cases Zja [lk fr v] o cs <;> rfl
  | _ => simp only [ZdR, he]
 ·rfl
theorem ZCE (h : NJ fr) (op : BinOp) (t : Nat) (x y : Operand) : (sBin P op t x y).run bd rd fr hp n k = ZAQ P fr hp op t x y (fun v => k v hp n) := by
 unfold sBin
 cases hs : Zmx op
 ·simp only [Zjw, Yy h, ZvW]
  cases hx : lk fr x with
  | int kd a =>
   cases hy : lk fr y with
   | int kd' b =>
    simp only [ZAQ, hx, hy]
    cases op <;> first | (cases hs; done) | skip
    all_goals
     simp only
     cases Nat.beq kd kd'
     ·rfl
     ·simp only [cond_true]; exact ZGX hs kd a b k hp n
   | _ => rfl
  | _ => rfl
 ·rfl
theorem ZqY (h : NJ fr) (s f : Nat) (x : Operand) : (Znw P s x f).run bd rd fr hp n k = Zg8 P fr s x f (fun v => k v hp n) := by
 unfold Znw Zg8
 cases hx : lk fr x with
 | ptr b o =>
  simp only
  split
  ·rename_i fs hd
   simp only [hd]
   split
   ·rename_i fd hfd
    simp only [hfd]
    split
    ·rename_i m hm
     simp only [ZbC, Yy h, hx, hm]
     rfl
    ·rename_i hm
     split
     ·rename_i m e; exact absurd e (hm _)
     ·rfl
   ·rename_i hfd
    simp only [hfd]
  ·rename_i hd
   split
   ·rename_i fs e; exact absurd e (hd _)
   ·rfl
 | _ =>
  simp only
  split
  ·split
   ·split
    ·simp only [ZbC, Yy h, hx]
    ·rfl
   ·rfl
  ·rfl
theorem Zrj (h : NJ fr) (t : Nat) (x ix : Operand) : (Zm2 P t x ix).run bd rd fr hp n k = Zdf P fr t x ix (fun v => k v hp n) := by
 unfold Zm2
 split
 ·rename_i e hd
  split
  ·rename_i m hm
   simp only [Zjw, Zhr, Yy h, ZvW, Zjs]
   unfold Zdf
   cases hi : lk fr ix <;> try rfl
   rename_i kd i
   cases i
   ·simp only
    cases hx : lk fr x <;> simp only [hd, hm] <;> try rfl
   ·rfl
  ·rename_i hm
   unfold Zdf
   cases hi : lk fr ix <;> try rfl
   rename_i kd i
   cases i
   ·simp only
    cases hx : lk fr x <;> simp only [hd] <;> try rfl
    rename_i b o s l kk ex
    cases Nat.blt _ l <;> try rfl
   ·rfl
 ·rfl
theorem ZnM (h : NJ fr) (t : Operand) (ix : Nat) : (ZiE t ix).run bd rd fr hp n k = Zd2 fr t ix (fun v => k v hp n) := by
 unfold ZiE Zd2
 simp only [ZjC, Yy h, Zns]
 cases lk fr t <;> try rfl
 rename_i vs
 show ZcN (Zqt vs ix) (fun v => k v hp n) = (match Zqt vs ix with | some v => k v hp n | none => none)
 cases Zqt vs ix <;> rfl
theorem ZzZ (h : NJ fr) (c a b : Operand) : (ZFp c a b).run bd rd fr hp n k = Zve fr c a b (fun v => k v hp n) := by
 unfold ZFp Zve
 simp only [Zkc, Yy h, ZvW]
 cases lk fr c <;> try rfl
 rename_i q; cases q <;> rfl
theorem Zyd (t : Nat) : (Zt8 P t).run bd rd fr hp n k = Zly P hp n t k := by
 unfold Zt8 Zly ZkU
 split
 ·rename_i cs hz
  simp only [hz]
  split
  ·rename_i ht; simp only [ht, cond_true]; exact ZwA hp n _ (fun i => .ptr i 0) k
  ·rename_i ht; simp only [ht, cond_false]; exact ZwA hp n _ (fun i => .ptr i 0) k
 ·rename_i hz
  simp only [hz]
theorem Zzz (h : NJ fr) (s d : Nat) (x : Operand) : (ZEv P s d x).run bd rd fr hp n k = ZkQ P fr hp n s d x k := by
 unfold ZEv
 split
 ·rename_i kd ds hd hs
  simp only [Zjw, Yy h, ZoK]
  unfold ZkQ
  simp only [hd]
  unfold ZqT
  simp only [hd, hs]
  cases lk fr x <;> rfl
 ·rfl
theorem ZAI (h : NJ fr) (c : Call) : (ZCA P ctrs c).run bd rd fr hp n k = ZmJ P ctrs bd rd c fr hp n k := by
 unfold ZCA ZmJ
 split
 ·rename_i f hc
  rw [hc]
  simp only
  show _ = ZkD ctrs bd f (([] ++ lks fr c.args.toList) ++ []) hp n k
  simp only [List.nil_append, List.append_nil]
  unfold ZkD
  split
  ·rename_i c' hc'
   split
   ·simp only [hc', ZcA h, ZgF]
   ·simp only [hc', ZcA h, ZgF]
  ·rename_i hc'
   simp only [hc', ZcA h, ZgF]
 ·rename_i f hne hc
  rw [hc]
  simp only [Yy h, ZcA h]
 ·rename_i b hc
  rw [hc]
  simp only
  split
  ·rename_i x t ts ha ht
   split
   ·rename_i e hd
    simp only [Zhr, Yy h]
    simp only [Zh3, Zlv, ha, ht]
    unfold ZIa
    simp only [hd]
    cases lk fr x <;> rfl
   ·rfl
  ·rfl
 ·rename_i r name hc
  rw [hc]
  simp only [Yy h, ZcA h]
  cases lk fr r <;> rfl
theorem ZlV (h : NJ fr) (o : Op) : (sOp P ctrs o).run bd rd fr hp n k = lev P ctrs bd rd o fr hp n k := by
 cases o <;> first
  | rfl
  | exact ZAI h _
  | exact Zyd _
  | exact ZxR h _ _ _
  | exact Zzz h _ _ _
  | exact ZzZ h _ _ _
  | exact ZzT h _ _
  | exact ZCE h _ _ _ _
  | exact ZqY h _ _ _
  | exact Zrj h _ _ _
  | exact ZnM h _ _
  | (show k ((Zfe _).run fr) hp n = k (lk fr _) hp n; rw [Yy h])
end
end Go.Cx
namespace Go.Cx
def NJ' (fr : F) : Prop := NJ fr /\ fr.n <= 511
theorem NJ'.put {fr : F} (h : NJ' fr) (d : Option Nat) (v : CV) : NJ' (Zhc fr d v) := by
 refine ⟨h.1.put h.2, ?_⟩
 cases d with
 | none => exact h.2
 | some d => show (Zml fr d v).n <= 511; rw [Zvw]; exact h.2
theorem NJ'.push {fr : F} (h : NJ' fr) (d : CV) : NJ' (Zhl fr d) := by
 obtain ⟨p1, p2, _⟩ := Zo9 fr d
 exact ⟨fun i h1 h2 => by rw [p2 i h2]; exact h.1 i (by rw [p1] at h1; exact h1) h2, by rw [p1]; exact h.2⟩
section
variable {P : Program} {ctrs : List (Nat × Option Cn)} {bd rd : Rn}
theorem Ztp {o : Oper} {fr : F} {hp : H} {n : Nat} {K : F -> H -> Nat -> Res} (hnd : ∀ c, o.op ≠ .defer c) : Zlo P ctrs bd rd o fr hp n K = lev P ctrs bd rd o.op fr hp n (fun v hp n => K (Zhc fr o.dst v) hp n) := by
 unfold Zlo
 split
 ·rename_i c e; exact absurd e (hnd c)
 ·rfl
theorem Znm {o : Oper} {c : Call} {fr : F} {hp : H} {n : Nat} {K : F -> H -> Nat -> Res} (h : o.op = .defer c) : Zlo P ctrs bd rd o fr hp n K = (match Zh5 c fr with | some d => K (Zhc (Zhl fr d) o.dst (.tup [])) hp n | none => none) := by
 unfold Zlo
 split
 ·rename_i c' e
  rw [h] at e; cases e
  cases Zh5 c fr <;> rfl
 ·rename_i hne; exact absurd h (hne c)
theorem ZzV {o : Oper} {next : CR} {fr : F} {hp : H} {n : Nat} {k K : F -> H -> Nat -> Res} (h : NJ' fr) (hK : ∀ fr' hp n, NJ' fr' -> next.run bd rd fr' hp n k = K fr' hp n) :
  (ZqZ P ctrs o next).run bd rd fr hp n k = Zlo P ctrs bd rd o fr hp n K := by
 unfold ZqZ
 split
 ·rename_i c hop
  rw [Znm hop]
  simp only
  cases Zh5 c fr with
  | none => rfl
  | some d => exact hK _ _ _ ((h.push d).put _ _)
 ·rename_i hnd
  rw [Ztp (fun c e => hnd c e)]
  cases hd : o.dst with
  | none =>
   simp only
   rw [ZlV h.1]
   congr 1
   funext v hp n
   exact hK _ _ _ h
  | some d =>
   simp only
   rw [ZlV h.1]
   congr 1
   funext v hp n
   rw [ZmO]
   exact hK _ _ _ (h.put (some d) v)
theorem Zu6 {ops : List Oper} {k : F -> H -> Nat -> Res} : ∀ (l : List Oper) {fr : F} {hp : H} {n : Nat}, NJ' fr -> (ZBy P ctrs ops l).run bd rd fr hp n k = ZBh P ctrs bd rd ops l fr hp n k
 | [], fr, hp, n, h => rfl
 | o :: l, fr, hp, n, h => by
  have hK : ∀ fr' hp n, NJ' fr' -> (ZBy P ctrs ops l).run bd rd fr' hp n k = ZBh P ctrs bd rd ops l fr' hp n k := fun fr' hp n h' => Zu6 l h'
  have hs := ZzV (P := P) (ctrs := ctrs) (o := o) (hp := hp) (n := n) h hK
  have e : ZBy P ctrs ops (o :: l) = (match o.guard with
   | none => ZqZ P ctrs o (ZBy P ctrs ops l)
   | some g => ⟨fun bd rd fr hp n k => match Zz ops fr (some g) with
    | .go => (ZqZ P ctrs o (ZBy P ctrs ops l)).run bd rd fr hp n k
    | .skip => (ZBy P ctrs ops l).run bd rd (Zhc fr o.dst (.tup [])) hp n k
    | .bad => none⟩) := rfl
  rw [e]
  unfold ZBh
  cases hg : o.guard with
  | none => exact hs
  | some g =>
   simp only
   cases Zz ops fr (some g)
   ·exact hs
   ·exact hK _ _ _ (h.put _ _)
   ·rfl
/-! ### Bits -/
def Msk (size m : Nat) (listed : Array Bool) : Prop := listed.size = size /\ ∀ i, m.testBit i = listed.getD i false
theorem Msk.zero (size : Nat) : Msk size 0 (Array.replicate size false) := by
 refine ⟨by simp, fun i => ?_⟩
 rw [Nat.zero_testBit]
 by_cases h : i < size
 ·simp [h]
 ·simp [h]
theorem Msk.set {size m : Nat} {listed : Array Bool} (h : Msk size m listed) {i : Nat} (hi : i < size) : Msk size (Nat.lor m (Nat.pow 2 i)) (listed.setIfInBounds i true) := by
 refine ⟨by simpa using h.1, fun j => ?_⟩
 show (m ||| 2 ^ i).testBit j = _
 rw [Nat.testBit_or, Nat.testBit_two_pow, h.2 j]
 by_cases e : i = j
 ·subst e
  have : i < listed.size := by rw [h.1]; exact hi
  simp [this]
 ·rw [getD_set_ne _ e]; simp [e]
theorem Msk.get {size m : Nat} {listed : Array Bool} (h : Msk size m listed) {i : Nat} (hi : i < size) : listed.getD i true = m.testBit i := by
 rw [h.2]
 have : i < listed.size := by rw [h.1]; exact hi
 simp [this]
theorem Ztr (m d : Nat) : Nat.beq (Nat.land m d) d = true ↔ ∀ i, d.testBit i = true -> m.testBit i = true := by
 rw [Nat.beq_eq]
 show m &&& d = d ↔ _
 constructor
 ·intro e i hi
  rw [<- e, Nat.testBit_and] at hi
  simp at hi; exact hi.1
 ·intro h
  apply Nat.eq_of_testBit_eq
  intro i
  rw [Nat.testBit_and]
  cases hd : d.testBit i
  ·simp
  ·simp [h i hd]
theorem ZBY (m i : Nat) : Nat.beq (Nat.land m (Nat.pow 2 i)) 0 = !m.testBit i := by
 have e : Nat.land m (Nat.pow 2 i) = m &&& 2 ^ i := rfl
 rw [e]
 cases hm : m.testBit i
 ·have : m &&& 2 ^ i = 0 := by
   apply Nat.eq_of_testBit_eq
   intro j
   rw [Nat.testBit_and, Nat.testBit_two_pow, Nat.zero_testBit]
   by_cases e : i = j
   ·subst e; simp [hm]
   ·simp [e]
  rw [this]; rfl
 ·have h1 : (m &&& 2 ^ i).testBit i = true := by rw [Nat.testBit_and, Nat.testBit_two_pow, hm]; simp
  cases hb : Nat.beq (m &&& 2 ^ i) 0
  ·rfl
  ·rw [nbq hb, Nat.zero_testBit] at h1; cases h1
theorem Zpr (l : List Edge) (i : Nat) : (ZyV l).testBit i = true ↔ ∃ e ∈ l, Region.binds .any e = true /\ e.on = i := by
 induction l with
 | nil => show (0 : Nat).testBit i = true ↔ _; simp
 | cons e l ih =>
  have h0 : ZyV (e :: l) = bif Region.binds .any e then Nat.lor (Nat.pow 2 e.on) (ZyV l) else ZyV l := rfl
  rw [h0]
  cases hb : Region.binds .any e
  ·simp only [cond_false, ih, List.mem_cons]
   constructor
   ·rintro ⟨x, h1, h2⟩; exact ⟨x, .inr h1, h2⟩
   ·rintro ⟨x, rfl | h1, h2, h3⟩
    ·rw [hb] at h2; cases h2
    ·exact ⟨x, h1, h2, h3⟩
  ·simp only [cond_true]
   show (2 ^ e.on ||| ZyV l).testBit i = true ↔ _
   rw [Nat.testBit_or, Nat.testBit_two_pow, Bool.or_eq_true, ih]
   simp only [decide_eq_true_eq, List.mem_cons]
   constructor
   ·rintro (h | ⟨x, h1, h2⟩)
    ·exact ⟨e, .inl rfl, hb, h⟩
    ·exact ⟨x, .inr h1, h2⟩
   ·rintro ⟨x, rfl | h1, h2, h3⟩
    ·exact .inl h3
    ·exact .inr ⟨x, h1, h2, h3⟩
theorem ZD2 {m : Nat} {listed : Array Bool} (h : ∀ i, m.testBit i = listed.getD i false) (o : Oper) :
  Nat.beq (Nat.land m (ZyV o.after.toList)) (ZyV o.after.toList) = o.after.all (fun e => !Region.binds .any e || listed.getD e.on false) := by
 rw [Bool.eq_iff_iff, Ztr, Array.all_eq_true_iff_forall_mem]
 constructor
 ·intro hh e he
  cases hb : Region.binds .any e
  ·rfl
  ·simp only [Bool.not_true, Bool.false_or]
   rw [<- h]
   exact hh _ ((Zpr _ _).2 ⟨e, by simpa using he, hb, rfl⟩)
 ·intro hh i hi
  obtain ⟨e, he, hb, rfl⟩ := (Zpr _ _).1 hi
  have := hh e (by simpa using he)
  rw [hb] at this
  rw [h]; simpa using this
theorem Zxt {ops : Array Oper} {m : Nat} {listed : Array Bool} (h : Msk ops.size m listed) : ZgX m (ZmX ops.toList) 0 = Region.ready .any ops listed := by
 unfold Region.ready
 have key : ∀ (l : List Oper) (i0 : Nat), ops.toList.drop i0 = l -> ZgX m (ZmX l) i0 = (List.range' i0 l.length).filter fun i =>
   !listed.getD i true && ((ops[i]?).map (·.after.all fun e => !Region.binds .any e || listed.getD e.on false)).getD false := by
  intro l
  induction l with
  | nil => intro i0 _; rfl
  | cons o l ih =>
   intro i0 hd
   have hi : ops[i0]? = some o := by
    rw [<- ZJc]
    have := congrArg (fun l => l[0]?) hd
    simpa using this
   have hlt : i0 < ops.size := (Array.getElem?_eq_some_iff.1 hi).1
   have hrest : ops.toList.drop (i0 + 1) = l := by
    have := congrArg List.tail hd
    simpa [List.tail_drop] using this
   have e : ZgX m (ZmX (o :: l)) i0 = bif (bif Nat.beq (Nat.land m (Nat.pow 2 i0)) 0 then Nat.beq (Nat.land m (ZyV o.after.toList)) (ZyV o.after.toList) else false) then i0 :: ZgX m (ZmX l) (i0 + 1) else ZgX m (ZmX l) (i0 + 1) := rfl
   rw [e, ih _ hrest, ZJH, List.range'_succ, List.filter_cons, hi, ZBY, ZD2 h.2, h.get hlt]
   simp only [Option.map_some, Option.getD_some]
   have fin : ∀ (a b : Bool) (x y : List Nat), (bif (bif !a then b else false) then x else y) = if (!a && b) = true then x else y := by
    intro a b x y; cases a <;> cases b <;> rfl
   exact fin _ _ _ _
 rw [key ops.toList 0 (by simp), List.range_eq_range']
 simp
theorem Zjy {ops : Array Oper} {i : Nat} {oi : Oper} : ∀ (l : List Oper) (j0 : Nat) (j : Nat), (apM ops i oi l j0).testBit j = true ↔ ∃ q oj, l[q]? = some oj /\ j = j0 + q /\ (j = i \/ oj.after.any (fun e => Region.binds .any e && e.on == i) = true \/ oi.apart ops oj = true)
 | [], j0, j => by
  show (0 : Nat).testBit j = true ↔ _
  simp
 | o :: l, j0, j => by
  have e : apM ops i oi (o :: l) j0 = bif (bif Nat.beq j0 i then true else bif o.after.any (fun e => Region.binds .any e && e.on == i) then true else oi.apart ops o) then Nat.lor (Nat.pow 2 j0) (apM ops i oi l (j0 + 1)) else apM ops i oi l (j0 + 1) := rfl
  have hc : (bif Nat.beq j0 i then true else bif o.after.any (fun e => Region.binds .any e && e.on == i) then true else oi.apart ops o) = true ↔ (j0 = i \/ o.after.any (fun e => Region.binds .any e && e.on == i) = true \/ oi.apart ops o = true) := by
   cases h1 : Nat.beq j0 i
   ·have : j0 ≠ i := fun e => by rw [e, Nat.beq_refl] at h1; cases h1
    simp only [cond_false, this, false_or]
    cases o.after.any (fun e => Region.binds .any e && e.on == i) <;> simp
   ·simp [nbq h1]
  rw [e]
  have ih := Zjy (ops := ops) (i := i) (oi := oi) l (j0 + 1) j
  cases hb : (bif Nat.beq j0 i then true else bif o.after.any (fun e => Region.binds .any e && e.on == i) then true else oi.apart ops o)
  ·simp only [cond_false, ih]
   constructor
   ·rintro ⟨q, oj, h1, h2, h3⟩; exact ⟨q + 1, oj, by simpa using h1, by omega, h3⟩
   ·rintro ⟨q, oj, h1, h2, h3⟩
    cases q with
    | zero =>
     simp at h1; subst h1
     rw [Nat.add_zero] at h2; subst h2
     rw [hc.2 h3] at hb; cases hb
    | succ q => exact ⟨q, oj, by simpa using h1, by omega, h3⟩
  ·simp only [cond_true]
   show (2 ^ j0 ||| apM ops i oi l (j0 + 1)).testBit j = true ↔ _
   rw [Nat.testBit_or, Nat.testBit_two_pow, Bool.or_eq_true, ih]
   simp only [decide_eq_true_eq]
   constructor
   ·rintro (h | ⟨q, oj, h1, h2, h3⟩)
    ·subst h; exact ⟨0, o, rfl, rfl, hc.1 hb⟩
    ·exact ⟨q + 1, oj, by simpa using h1, by omega, h3⟩
   ·rintro ⟨q, oj, h1, h2, h3⟩
    cases q with
    | zero => exact .inl (by omega)
    | succ q => exact .inr ⟨q, oj, by simpa using h1, by omega, h3⟩
theorem Zjb {ops : Array Oper} {m i : Nat} {oi : Oper} {listed : Array Bool} (h : Msk ops.size m listed) (hi : Zeb ops.toList i = some oi) : Zgt ops m i = Region.free .any ops listed i := by
 have hi' : ops[i]? = some oi := by rw [Za7, ZJc] at hi; exact hi
 unfold Zgt Region.free apMs
 simp only [hi, hi']
 rw [Bool.eq_iff_iff, Ztr, List.all_eq_true]
 have e : ∀ j, (Nat.pow 2 ops.size - 1).testBit j = true ↔ j < ops.size := fun j => by
  show (2 ^ ops.size - 1).testBit j = true ↔ _
  rw [Nat.testBit_two_pow_sub_one]; simp
 have e2 : ∀ j, (Nat.lor m (apM ops i oi ops.toList 0)).testBit j = (m.testBit j || (apM ops i oi ops.toList 0).testBit j) := fun j => Nat.testBit_or m _ j
 constructor
 ·intro hh j hj
  have hj := List.mem_range.1 hj
  have h1 := hh j ((e j).2 hj)
  rw [e2, Bool.or_eq_true] at h1
  rw [h.get hj]
  rcases h1 with h1 | h1
  ·simp [h1]
  ·obtain ⟨q, oj, q1, q2, q3⟩ := (Zjy _ _ _).1 h1
   have : j = q := by omega
   subst this
   rw [ZJc] at q1
   rw [q1]
   rcases q3 with q3 | q3 | q3
   ·simp [q3]
   ·simp only [q3]; simp
   ·simp only [q3]; simp
 ·intro hh j hj
  have hj := (e j).1 hj
  have h1 := hh j (List.mem_range.2 hj)
  rw [e2, Bool.or_eq_true]
  rw [h.get hj] at h1
  obtain ⟨oj, hoj⟩ : ∃ oj, ops[j]? = some oj := ⟨ops[j], Array.getElem?_eq_getElem hj⟩
  rw [hoj] at h1
  simp only [Bool.or_eq_true, beq_iff_eq] at h1
  have hl : ops.toList[j]? = some oj := by rw [ZJc]; exact hoj
  rcases h1 with (h1 | h1) | h1
  ·exact .inr ((Zjy _ _ _).2 ⟨j, oj, hl, by omega, .inl h1⟩)
  ·exact .inl h1
  ·exact .inr ((Zjy _ _ _).2 ⟨j, oj, hl, by omega, .inr h1⟩)
end
end Go.Cx
namespace Go.Cx
section
variable {P : Program} {ctrs : List (Nat × Option Cn)} {bd rd : Rn}
theorem Zr9 {o : Op} {fr : F} {hp : H} {n : Nat} {k : KS} (h : Yg P o = true) : lev P ctrs bd rd o fr hp n k = qev P fr hp o (fun v => k v hp n) := by
 cases o <;> first | rfl | (cases h; done) | skip
 case convert s d x =>
  show ZkQ P fr hp n s d x k = ZqT P fr hp s d x (fun v => k v hp n)
  unfold Yg at h
  unfold ZkQ
  split
  ·rename_i e l m hd _; simp only [hd] at h; cases h
  ·rename_i e b o s l kk ex hd _; simp only [hd] at h; cases h
  ·rfl
 case call c =>
  show ZmJ P ctrs bd rd c fr hp n k = ZAi P fr hp c (fun v => k v hp n)
  unfold Yg at h
  unfold ZmJ ZAi
  cases hc : c.callee with
  | builtin b =>
   simp only
   simp only [hc] at h
   cases b <;> first | (cases h; done) | rfl
  | _ => simp only [hc] at h; cases h
theorem ZeV (ops : List Oper) (fr : F) : Zz ops fr none = .go := rfl
theorem Zy5 {ops : List Oper} {j : Nat} {op : Op} {n0 : Nat} {rs : List (Nat × Nat)} {fr : F} {hp : H} {n : Nat} {k : KS} (h : NJ' fr) : ZzK P ctrs ops j op bd rd n0 rs fr hp n k = ZFB P ctrs bd rd ops n0 j rs op fr hp n k := by
 unfold ZzK ZFB
 cases Yc op
 ·simp only [cond_false]; cases ZS rs j <;> simp only [ZlV h.1]
 ·simp only [cond_true, ZlV h.1]
noncomputable def loudS (ops : Array Oper) (ih : Nat -> DR) (m : Nat) (i0 : Nat) (rest : List Nat) : DR :=
 ⟨fun bd rd n0 rs recs fr hp n k => (match (bif YT ops.toList 0 (i0 :: rest) then Zbz ops.toList (i0 :: rest) rs n else (rs, n)) with
    | (rs, m') => bif (bif Nat.ble (idN m') (Yx m') then Nat.beq (Yx m') (Yx n) else false) then ZmK (fun j => match Zeb ops.toList j with
     | some o => (match Zz ops.toList fr o.guard with
      | .go => ZzK P ctrs ops.toList j o.op bd rd n0 rs fr hp m' fun v hp n =>
        (match recs.filter fun r => !(ZdM o r.i) with
        | recs => bif recs.all (Zhh P hp) then (ih (Nat.lor m (Nat.pow 2 j))).run bd rd n0 rs recs ((ZyX o.dst).run v fr) hp n k else none)
      | _ => none)
     | none => none) (i0 :: rest) else none)⟩
noncomputable def nextS (ops : Array Oper) (ih : Nat -> DR) (m : Nat) (i : Nat) (next : DR) : DR :=
 match Zeb ops.toList i with
    | none => next
    | some o => (match o.guard with
     | none => (match Yg P o.op with
      | true => (match Zgt ops m i with
       | true => ⟨fun bd rd n0 rs recs fr hp n k => (sOp P ctrs o.op).run bd rd fr hp n (fun v hp n => (ih (Nat.lor m (Nat.pow 2 i))).run bd rd n0 rs (@Bool.rec (fun _ => List Rec) (⟨i, o, fr, v⟩ :: recs) recs (ZbY o.op)) ((ZyX o.dst).run v fr) hp n k)⟩
       | false => ⟨fun _ _ _ _ _ _ _ _ _ => none⟩)
      | false => next)
     | some g => ⟨fun bd rd n0 rs recs fr hp n k => match Zz ops.toList fr (some g) with
      | .skip => bif Zgt ops m i then (ih (Nat.lor m (Nat.pow 2 i))).run bd rd n0 rs recs ((ZyX o.dst).run (.tup []) fr) hp n k else none
      | .go => bif Yg P o.op then (bif Zgt ops m i then (sOp P ctrs o.op).run bd rd fr hp n (fun v hp n => (ih (Nat.lor m (Nat.pow 2 i))).run bd rd n0 rs (@Bool.rec (fun _ => List Rec) (⟨i, o, fr, v⟩ :: recs) recs (ZbY o.op)) ((ZyX o.dst).run v fr) hp n k) else none) else next.run bd rd n0 rs recs fr hp n k
      | .bad => bif Yg P o.op then none else next.run bd rd n0 rs recs fr hp n k⟩)
theorem Zrx (ops : Array Oper) (fuel m : Nat) : Zdo P ctrs ops (fuel + 1) m = (match ZgX m (ZmX ops.toList) 0 with
  | [] => ⟨fun _ _ _ _ _ fr hp n k => k fr hp n⟩
  | i0 :: rest => @List.rec Nat (fun _ => DR) (loudS (P := P) (ctrs := ctrs) ops (Zdo P ctrs ops fuel) m i0 rest) (fun i _ next => nextS (P := P) (ctrs := ctrs) ops (Zdo P ctrs ops fuel) m i next) (i0 :: rest)) := rfl
theorem ZAx {ops : Array Oper} {n0 : Nat} {k : F -> H -> Nat -> Res} : ∀ (fuel m : Nat) (listed : Array Bool) (rs : List (Nat × Nat)) (recs : List Rec) (fr : F) (hp : H) (n : Nat), Msk ops.size m listed -> NJ' fr →
  (Zdo P ctrs ops fuel m).run bd rd n0 rs recs fr hp n k = Y3 P ctrs bd rd ops n0 fuel listed rs recs fr hp n k := by
 intro fuel
 induction fuel with
 | zero => intros; rfl
 | succ fuel ih =>
  intro m listed rs recs fr hp n hM hN
  rw [Zrx, Zxt hM]
  unfold Y3
  have hsz : ∀ {i : Nat} {o : Oper}, Zeb ops.toList i = some o -> i < ops.size := fun {i o} h => by
   rw [Za7, ZJc] at h; exact (Array.getElem?_eq_some_iff.1 h).1
  cases hr : Region.ready .any ops listed with
  | nil => rfl
  | cons i0 rest =>
   simp only
   -- the loud ones
   have hloud : (loudS (P := P) (ctrs := ctrs) ops (Zdo P ctrs ops fuel) m i0 rest).run bd rd n0 rs recs fr hp n k =
     (match (bif YT ops.toList 0 (i0 :: rest) then Zbz ops.toList (i0 :: rest) rs n else (rs, n)) with
    | (rs, m) => bif (bif Nat.ble (idN m) (Yx m) then Nat.beq (Yx m) (Yx n) else false) then ZmK (fun j => match Zeb ops.toList j with
     | some o => (match Zz ops.toList fr o.guard with
      | .go => ZFB P ctrs bd rd ops.toList n0 j rs o.op fr hp m fun v hp n =>
        (match recs.filter fun r => !(ZdM o r.i) with
        | recs => bif recs.all (Zhh P hp) then Y3 P ctrs bd rd ops n0 fuel (listed.setIfInBounds j true) rs recs (Zhc fr o.dst v) hp n k else none)
      | _ => none)
     | none => none) (i0 :: rest) else none) := by
    unfold loudS
    simp only
    generalize (bif YT ops.toList 0 (i0 :: rest) then Zbz ops.toList (i0 :: rest) rs n else (rs, n)) = g
    obtain ⟨rs', m'⟩ := g
    simp only
    congr 2
    funext j
    cases hj : Zeb ops.toList j with
    | none => rfl
    | some o =>
     simp only
     cases Zz ops.toList fr o.guard <;> try rfl
     simp only [Zy5 hN]
     congr 1
     funext v hp n
     simp only [Zm4]
     rw [ih _ _ _ _ _ _ _ (hM.set (hsz hj)) (hN.put _ _)]
   have key : ∀ l : List Nat, (∀ i ∈ l, ∃ o, Zeb ops.toList i = some o) →
     (@List.rec Nat (fun _ => DR) (loudS (P := P) (ctrs := ctrs) ops (Zdo P ctrs ops fuel) m i0 rest) (fun i _ next => nextS (P := P) (ctrs := ctrs) ops (Zdo P ctrs ops fuel) m i next) l).run bd rd n0 rs recs fr hp n k =
     (match ZR P fr ops.toList l with
     | some (i, o) => bif Region.free .any ops listed i then
       (match Zz ops.toList fr o.guard with
       | .go => qev P fr hp o.op (fun v => Y3 P ctrs bd rd ops n0 fuel (listed.setIfInBounds i true) rs (bif ZbY o.op then recs else ⟨i, o, fr, v⟩ :: recs) (Zhc fr o.dst v) hp n k)
       | .skip => Y3 P ctrs bd rd ops n0 fuel (listed.setIfInBounds i true) rs recs (Zhc fr o.dst (.tup [])) hp n k
       | .bad => none)
      else none
     | none => (loudS (P := P) (ctrs := ctrs) ops (Zdo P ctrs ops fuel) m i0 rest).run bd rd n0 rs recs fr hp n k) := by
    intro l
    induction l with
    | nil => intro _; rfl
    | cons i l ihl =>
     intro hl
     obtain ⟨o, ho⟩ := hl i ZJv
     have ihl := ihl fun j hj => hl j (ZJt _ hj)
     have go : Yg P o.op = true -> (sOp P ctrs o.op).run bd rd fr hp n (fun v hp n => (Zdo P ctrs ops fuel (Nat.lor m (Nat.pow 2 i))).run bd rd n0 rs (@Bool.rec (fun _ => List Rec) (⟨i, o, fr, v⟩ :: recs) recs (ZbY o.op)) ((ZyX o.dst).run v fr) hp n k) =
       qev P fr hp o.op (fun v => Y3 P ctrs bd rd ops n0 fuel (listed.setIfInBounds i true) rs (bif ZbY o.op then recs else ⟨i, o, fr, v⟩ :: recs) (Zhc fr o.dst v) hp n k) := by
      intro hq
      rw [ZlV hN.1, Zr9 hq]
      congr 1
      funext v
      rw [Zm4, ZvW, ih _ _ _ _ _ _ _ (hM.set (hsz ho)) (hN.put _ _)]
     have e : (@List.rec Nat (fun _ => DR) (loudS (P := P) (ctrs := ctrs) ops (Zdo P ctrs ops fuel) m i0 rest) (fun i _ next => nextS (P := P) (ctrs := ctrs) ops (Zdo P ctrs ops fuel) m i next) (i :: l)) =
       nextS (P := P) (ctrs := ctrs) ops (Zdo P ctrs ops fuel) m i (@List.rec Nat (fun _ => DR) (loudS (P := P) (ctrs := ctrs) ops (Zdo P ctrs ops fuel) m i0 rest) (fun i _ next => nextS (P := P) (ctrs := ctrs) ops (Zdo P ctrs ops fuel) m i next) l) := rfl
     rw [e]
     unfold nextS ZR ZeB
     simp only [ho]
     cases hg : o.guard with
     | none =>
      simp only [ZeV]
      cases hq : Yg P o.op
      ·simp only [cond_false]; exact ihl
      ·simp only [cond_true, hg, ZeV, <- Zjb hM ho]
       cases Zgt ops m i
       ·rfl
       ·exact go hq
     | some g =>
      simp only
      cases hgd : Zz ops.toList fr (some g)
      ·simp only
       cases hq : Yg P o.op
       ·simp only [cond_false]; exact ihl
       ·simp only [cond_true, hg, hgd, <- Zjb hM ho]
        cases Zgt ops m i
        ·rfl
        ·exact go hq
      ·simp only [cond_true, hg, hgd, <- Zjb hM ho]
       cases Zgt ops m i
       ·rfl
       ·simp only [cond_true]
        rw [Zm4, ih _ _ _ _ _ _ _ (hM.set (hsz ho)) (hN.put _ _)]
      ·simp only
       cases hq : Yg P o.op
       ·simp only [cond_false]; exact ihl
       ·simp only [cond_true, hg, hgd]
        cases Region.free .any ops listed i <;> rfl
   rw [key (i0 :: rest) (fun i hi => by
    have : i ∈ Region.ready .any ops listed := by rw [hr]; exact hi
    obtain ⟨_, o, ho, _⟩ := mem_ready.1 this
    exact ⟨o, by rw [Za7, ZJc]; exact ho⟩), hloud]
   cases ZR P fr ops.toList (i0 :: rest) with
   | none => rfl
   | some p =>
    obtain ⟨i, o⟩ := p
    simp only
    cases Region.free .any ops listed i
    ·rfl
    ·simp only [cond_true]
     cases Zz ops.toList fr o.guard <;> rfl
/-! ### Frames entered and left -/
theorem Zw3 : ∀ (args : List CV) (i : Nat) (fr : F), argS args i fr = ZyW args i fr
 | [], i, fr => rfl
 | c :: l, i, fr => by
  show argS l (i + 1) ((ZFK i).run c fr) = ZyW l (i + 1) (Zml fr i c)
  rw [ZmO, Zw3 l]
theorem Znr : ∀ (args : List CV), ZIY args = args.length
 | [] => rfl
 | c :: l => by show Nat.succ (ZIY l) = _; rw [Znr l]; rfl
theorem ZwM (x : CV) (q : Res) : (@Bool.rec (fun _ => Res) none q (ZtJ x)) = (match x with | .junk => none | _ => q) := by cases x <;> rfl
theorem ZiY {fr : F} {hp : H} (h : NJ fr) : ∀ (l : List ResultVar) (k : List CV -> Res), (ZAq P l).run fr hp k = ZcN (Zkn P fr hp l) k
 | [], k => rfl
 | .tmp t :: l, k => by
  show (@Bool.rec (fun _ => Res) none ((ZAq P l).run fr hp (fun vs => k ((Zy0 t).run fr :: vs))) (ZtJ ((Zy0 t).run fr))) = _
  rw [ZiV h, ZwM, ZiY h l]
  simp only [Zkn]
  cases fg fr t <;> first | rfl | (cases Zkn P fr hp l <;> rfl)
 | .cell a t :: l, k => by
  have e : ZAq P (.cell a t :: l) = (match tyA P t with
   | some (false, _) => ⟨fun fr hp k => Zjt ((Zy0 a).run fr) (fun b o => rdS (ZmS hp b) o (fun c => (ZAq P l).run fr hp (fun vs => k (c :: vs)))) none⟩
   | some (true, m) => ⟨fun fr hp k => Zjt ((Zy0 a).run fr) (fun b o => match rdN hp b o m with | some cs => (ZAq P l).run fr hp (fun vs => k (.agg cs :: vs)) | none => none) none⟩
   | none => ⟨fun _ _ _ => none⟩ : CV1) := rfl
  rw [e]
  simp only [Zkn]
  cases hA : tyA P t with
  | none => simp only; cases fg fr a <;> rfl
  | some p =>
   obtain ⟨ag, m⟩ := p
   cases ag
   ·simp only [ZbC, ZiV h, Zfn, ZAU, ZiY h l]
    cases fg fr a <;> try rfl
    rename_i b o
    simp only
    cases rd1 hp b o <;> try rfl
    simp only [ZcN]
    cases Zkn P fr hp l <;> rfl
   ·simp only [ZbC, ZiV h, ZiY h l]
    cases fg fr a <;> try rfl
    rename_i b o
    simp only
    cases rdN hp b o m <;> try rfl
    simp only [ZcN]
    cases Zkn P fr hp l <;> rfl
theorem ZFw (vs : List CV) (hp : H) (n : Nat) : ZFM vs hp n = (match vs with | [v] => some [⟨v, hp, n⟩] | vs => some [⟨.tup vs, hp, n⟩]) := by
 match vs with
 | [] => rfl
 | [v] => rfl
 | v :: w :: r => rfl
theorem ZlI {fr : F} {hp : H} {n : Nat} (h : NJ fr) (l : List ResultVar) : (ZAq P l).run fr hp (fun vs => ZFM vs hp n) = (match Zkn P fr hp l with | some [v] => some [⟨v, hp, n⟩] | some vs => some [⟨.tup vs, hp, n⟩] | none => none : Res) := by
 rw [ZiY h]
 cases Zkn P fr hp l with
 | none => rfl
 | some vs =>
  show ZFM vs hp n = _
  rw [ZFw]
  match vs with
  | [] => rfl
  | [v] => rfl
  | v :: w :: r => rfl
theorem ZvM {dctrs : List (Nat × Cn)} {db : Rn} {fn : Func} {fr : F} {hp : H} {n : Nat} (h : NJ fr) : (ZII P dctrs fn).run db fr hp n = fin P dctrs db fn fr hp n := by
 unfold ZII fin
 simp only [ZjC, ZlI h]
 cases Zc9 fr ZW <;> first | rfl | (simp only [Zhj]; done)
theorem ZpE {db : Rn} {fn : Func} {fr : F} {hp : H} {n : Nat} (h : NJ fr) : (Zvo P fn).run db fr hp n = ZFE P fn fr hp n := by
 unfold Zvo ZFE
 simp only [ZjC, ZlI h]
 cases Zc9 fr ZW <;> rfl
end
end Go.Cx
