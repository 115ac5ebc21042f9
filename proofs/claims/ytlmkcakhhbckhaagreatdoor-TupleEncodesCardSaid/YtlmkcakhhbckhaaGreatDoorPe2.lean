/- Part of a proof. -/
import Derived.Test.YtlmkcakhhbckhaaGreatDoorPe1
import Derived.Laws.Tables
import Derived.Laws.IdiomStrings
set_option linter.unusedSimpArgs false
set_option linter.unusedVariables false
set_option maxRecDepth 20000
namespace Go.Eng
noncomputable section
open Go.RowKit (Below)
def Zif : List (Int × Int) -> Int -> Option Nat
 | [], _ => none
 | (k, _) :: l, x => if k = x then some 0 else (Zif l x).map (· + 1)
theorem ZzM (l : List (Int × Int)) (x : Int) : (Zif l x).isSome = Zbs l x := by
 induction l with
 | nil => rfl
 | cons p l ih => unfold Zif Zbs; split <;> simp [ih]
theorem ZnC {kk : MK} {d : TypeDesc} (hd : kk.fits d = true) {a b : Int} (ha : kk.ok a) (hb : kk.ok b) : Instr.sameNow d (kk.val a) (kk.val b) = some (decide (b = a)) := by
 cases kk with
 | int k =>
  cases d <;> first | (cases hd; done) | skip
  simp only [MK.val, Instr.sameNow, if_true, Option.some.injEq]
  by_cases e : b = a
  ·subst e; simp
  ·simp [e, Ne.symm e]
 | str =>
  cases d <;> first | (cases hd; done) | skip
  obtain ⟨l, rfl⟩ := ha
  obtain ⟨m, rfl⟩ := hb
  simp only [MK.val, ZJu, Yd, Instr.sameNow, Option.some.injEq]
  rw [show ((⟨l.toArray⟩ : ByteArray) == ⟨m.toArray⟩) = (l.toArray == m.toArray) from rfl]
  by_cases e : l = m
  ·subst e; simp
  ·have h1 : ¬ ((Zed m : Nat) : Int) = (Zed l : Nat) := fun h => e (by
    have h2 : Zed m = Zed l := by omega
    rw [<- Yd l, <- Yd m, h2])
   have h3 : ¬ l.toArray = m.toArray := fun h => e (by simpa using h)
   rw [decide_eq_false h1]
   exact beq_eq_false_iff_ne.2 h3
theorem ZhY {kk : MK} {d : TypeDesc} (hd : kk.fits d = true) {v : MV} {n : Int} (hn : kk.ok n) (dflt : Int) : ∀ (es : List MapEntry) (m : List (Int × Int)) (i : Nat), (∀ p ∈ m, kk.ok p.1) →
  es.map (fun e => (e.key, e.val)) = m.map (fun p => (kk.val p.1, v.val [p.2])) →
  Instr.findNow d (kk.val n) es i = some ((Zif m n).map fun j => (i + j, v.val [Zhb dflt m n]))
 | [], m, i, _, h => by
  cases m with
  | nil => rfl
  | cons p m => simp at h
 | e :: es, m, i, ho, h => by
  cases m with
  | nil => simp at h
  | cons p m =>
   simp only [ZJw, List.cons.injEq, Prod.mk.injEq] at h
   obtain ⟨⟨hk, hv⟩, ht⟩ := h
   have ih := ZhY hd hn dflt es m (i + 1) (fun q hq => ho q (ZJt _ hq)) ht
   have hsn := ZnC hd hn (ho p ZJv)
   unfold Instr.findNow
   rw [hk]
   by_cases he : p.1 = n
   ·rw [hsn, decide_eq_true he]
    obtain ⟨p1, p2⟩ := p
    simp only at he
    simp only [Zif, Zhb, he, if_true, hv, Option.map_some, Nat.add_zero]
   ·rw [hsn, decide_eq_false he]
    obtain ⟨p1, p2⟩ := p
    simp only at he
    simp only [Zif, Zhb, he, if_false, ih, Option.map_map]
    congr 2
    funext j
    simp only [Function.comp]
    congr 1; omega
section
variable {P : Program}
theorem Yk {b : Bool} {kt : TypeId} {kk : MK} {d : TypeDesc} (hd : kk.fits d = true) (hk : P.underlying kt = some d) (v : Value) (w : World) : (Instr.checkKey b 10000 kt v).run P w = .ok () w := by
 rw [show (10000 : Nat) = 9999 + 1 from rfl, Instr.checkKey]
 cases kk <;> cases d <;> first | (cases hd; done) | simp [run_underlying hk]
theorem Zdb {kt : TypeId} {kk : MK} {d : TypeDesc} (hd : kk.fits d = true) (hk : P.underlying kt = some d) {v : MV} {n : Int} (hn : kk.ok n) (dflt : Int) (es : List MapEntry) (m : List (Int × Int)) (ho : ∀ p ∈ m, kk.ok p.1)
  (h : es.map (fun e => (e.key, e.val)) = m.map (fun p => (kk.val p.1, v.val [p.2]))) (w : World) :
  (Instr.findKey kt (kk.val n) es).run P w = .ok ((Zif m n).map fun j => (j, v.val [Zhb dflt m n])) w := by
 have := ZhY hd (v := v) hn dflt es m 0 ho h
 simp [Instr.findKey, run_underlying hk, this]
theorem Zu {t : TypeId} {i : TypeInfo} {z : Value} (hi : P.info? t = some i) (hz : i.zero = some z) (w : World) : (zeroValue t).run P w = .ok z w := by
 simp [zeroValue, typeInfo, hi, hz]
theorem ZcC {t kt et : TypeId} {kk : MK} {d : TypeDesc} (hd : kk.fits d = true) (ht : P.underlying t = some (.map kt et)) (hk : P.underlying kt = some d) {i : TypeInfo} {z : Value} (hi : P.info? et = some i) (hz : i.zero = some z)
  {w : World} {r : Nat} {es : Array MapEntry} {clock : Nat} (hr : w.heap[r]? = some (.map es clock)) {v : MV} {n : Int} (hn : kk.ok n) (dflt : Int) {m : List (Int × Int)} (ho : ∀ p ∈ m, kk.ok p.1)
  (h : es.toList.map (fun e => (e.key, e.val)) = m.map (fun p => (kk.val p.1, v.val [p.2]))) (ok : Bool) :
  (Instr.lookup t (.map (some r)) (kk.val n) ok).run P w = .ok (if ok then .tuple #[if Zbs m n then v.val [Zhb dflt m n] else z, .bool (Zbs m n)] else (if Zbs m n then v.val [Zhb dflt m n] else z)) w := by
 have e1 := Zdb (P := P) hd hk (v := v) hn dflt es.toList m ho h w
 have hm := ZzM m n
 have hg : (getObj r).run P w = .ok (.map es clock) w := by simp [getObj, Sem.run, hr]
 unfold Instr.lookup
 simp only [go_sem, run_underlying ht, hg, Yk hd hk, e1, Zu hi hz]
 cases hx : Zif m n with
 | none => rw [hx] at hm; simp at hm; simp [run_underlying ht, hg, Yk hd hk, e1, Zu hi hz, hx, hm]
 | some j => rw [hx] at hm; simp at hm; simp [run_underlying ht, hg, Yk hd hk, e1, Zu hi hz, hx, hm]
theorem Zcr {m : List (Int × Int)} {n d : Int} (h : Zbs m n = false) : Zhb d m n = d := by
 induction m with
 | nil => rfl
 | cons p m ih =>
  unfold Zbs at h; unfold Zhb
  split at h
  ·cases h
  ·rw [if_neg (by assumption)]; exact ih h
end
section
variable {G : Type} (S : Sig G) (ρ : Env G) (w0 : World) {P : Program}
theorem MK.enc_den {kk : MK} {c : SC} {i : SX} (h : kk.enc c = some i) : c.den S ρ = kk.val (i.den S ρ).tI /\ kk.ok (i.den S ρ).tI := by
 unfold MK.enc at h
 split at h
 ·rename_i k k' e
  cases hk : Nat.beq (kn k) (kn k')
  ·rw [hk] at h; cases h
  ·rw [hk] at h; cases h
   have := Zb6 (ZJo hk); subst this
   exact ⟨rfl, trivial⟩
 ·cases h
  rw [SX.mk1_den]
  simp only [SX.den, ap1, U.tIi, MK.val, MK.ok, ZJu, Yd, SC.den]
  exact ⟨trivial, _, rfl⟩
 ·cases h
theorem Zqy (e : SX) : Zdx S ρ (true, sbSC e) = MV.val .sb [(e.den S ρ).tI] := by
 simp only [sbSC, Zdx, MV.val, ZJw, List.map_nil, SC.den]
 rw [SX.mk1_den, SX.mk1_den]
 simp only [SX.den, ap1]
 rw [SX.mk2_den, SX.mk2_den]
 simp only [SX.den, ap2]
 rw [SX.mk2_den]
 simp [SX.den, ap2, bne]
theorem ZER {cs : Array Value} (h : zSb cs = true) : MV.val .sb [0] = .agg cs := by
 unfold zSb at h
 split at h
 ·rename_i s hs
  have hz := ZJo h
  have : cs = #[.string s, .bool false] := by apply Array.ext'; simpa using hs
  subst this
  have h2 : s = ⟨#[]⟩ := by
   cases s with | mk d => simp only at hz; rw [Array.eq_empty_of_size_eq_zero hz]
  subst h2
  simp [MV.val, decB, ZGz]
 ·cases h
theorem Zrg : ∀ (c : Bool × List SC), SV.den S ρ (ZBt c) = Zdx S ρ c
 | (false, []) => rfl
 | (false, [c]) => rfl
 | (false, a :: b :: l) => rfl
 | (true, []) => rfl
 | (true, a :: l) => rfl
theorem ZbA {b : SX} {kk : MK} {v : MV} {m : SX} : ∀ {hp : List Ch}, Zdh b hp = some (kk, v, m) -> Ch.map kk v b m ∈ hp
 | [], h => by cases h
 | c :: l, h => by
  cases c with
  | map kk' v' b' m' =>
   simp only [Zdh, ZJr] at h
   split at h
   ·rename_i hb; cases h; rw [<- SX.bq_eq hb]; exact ZJv
   ·exact ZJt _ (ZbA h)
  | _ => exact ZJt _ (ZbA (by simpa [Zdh] using h))
theorem Zwj {F : Zd} {w : World} {hp : List Ch} {b m : SX} {kk : MK} {v : MV} (hm : Ch.map kk v b m ∈ hp) (hs : Sat w0 (Zg (Ze S ρ w0 hp) F) w) :
  0 <= (b.den S ρ).tI /\ ∃ es clock, Zhi kk v es clock (m.den S ρ).tM /\ w.heap[(b.den S ρ).tI.toNat]? = some (.map es clock) := by
 obtain ⟨H, hH⟩ := Zaf S ρ w0 hm
 rw [hH] at hs
 obtain ⟨h1, hs⟩ := Zt hs
 obtain ⟨es, hs⟩ := ZaB hs
 obtain ⟨clock, hs⟩ := ZaB hs
 obtain ⟨h2, hs⟩ := Zt hs
 exact ⟨h1, es, clock, h2, hs.obj.2.2.1⟩
theorem Zlf {v : Value} {c : SC} (h : Zrd v = some c) : c.den S ρ = v := by
 unfold Zrd at h
 split at h <;> (try cases h) <;> simp [SC.den, SX.den]
theorem Zbp : ∀ {vs : List Value} {cs : List SC}, Zl7 vs = some cs -> cs.map (SC.den S ρ) = vs
 | [], cs, h => by cases h; rfl
 | v :: l, cs, h => by
  unfold Zl7 at h
  split at h
  ·rename_i c cs' h1 h2
   cases h
   simp [Zlf S ρ h1, Zbp h2]
  ·cases h
theorem ZmW (v : Value) : (ZE9 v).R S ρ v := by
 have gen : ∀ v : Value, (ZBU (Zrd v)).R S ρ v := by
  intro v
  cases h : Zrd v with
  | some c => right; simp [ZBU, SV.den, Zlf S ρ h]
  | none => exact .inl rfl
 unfold ZE9
 split
 ·split
  ·rename_i cs l h; right; simp [SV.den, Zbp S ρ h]
  ·exact .inl rfl
 ·rename_i vs
  cases hs : Nat.beq vs.size 0
  ·exact .inl rfl
  ·right
   have : vs = #[] := by simpa using ZJo hs
   simp [SV.den, this]
 ·exact gen _
theorem ZaJ {sv : SV} {ps : List SC} {v : Value} (h : Zdr sv = some ps) (hr : sv.R S ρ v) : v.cells.toList = ps.map (SC.den S ρ) := by
 unfold Zdr at h
 split at h
 ·rename_i c
  cases h
  rw [R_one S ρ hr]
  have : ∀ x : SC, (x.den S ρ).cells = #[x.den S ρ] := by
   intro x
   induction x with
   | cap g x ih _ =>
    simp only [SC.den]
    split
    ·rfl
    ·exact ih
   | ptr b o => simp only [SC.den]; split <;> rfl
   | _ => rfl
  rw [this]; rfl
 ·cases h; rw [ZlQ S ρ hr]; simp [Value.cells]
 ·cases h
theorem Zcj : ∀ (cs : List SC) (n : Nat) (ps r : List SC), Zav cs n ps = some r →
  n + ps.length <= cs.length /\ r.length = cs.length /\ r.map (SC.den S ρ) = (cs.map (SC.den S ρ)).take n ++ ps.map (SC.den S ρ) ++ (cs.map (SC.den S ρ)).drop (n + ps.length) := by
 intro cs n ps
 fun_induction Zav cs n ps with
 | case1 cs => intro r h; cases h; simp
 | case2 p ps c cs r' h ih =>
  intro r hr; cases hr
  obtain ⟨h1, h2, h3⟩ := ih _ h
  refine ⟨by simp; omega, by simp [h2], ?_⟩
  simp [h3]
 | case3 => intro r h; cases h
 | case4 => intro r h; cases h
 | case5 c cs n ps r' h ih =>
  intro r hr; cases hr
  obtain ⟨h1, h2, h3⟩ := ih _ h
  refine ⟨by simp; omega, by simp [h2], ?_⟩
  rw [ZJw, h3]
  simp [Nat.succ_add]
 | case6 => intro r h; cases h
 | case7 => intro r h; cases h
theorem Zbl (off : Nat) : ∀ (vs : List Value) (k : Nat) (cs : Array Value), off + k + vs.length <= cs.size →
  ((vs.zipIdx k).foldl (fun cs (p : Value × Nat) => cs.setIfInBounds (off + p.2) p.1) cs).toList = cs.toList.take (off + k) ++ vs ++ cs.toList.drop (off + k + vs.length)
 | [], k, cs, h => by simp
 | v :: vs, k, cs, h => by
  simp only [List.zipIdx_cons, List.foldl_cons]
  rw [Zbl off vs (k + 1) _ (by simp at h ⊢; omega)]
  simp only [Array.toList_setIfInBounds, ZJH]
  simp only [ZJH] at h
  have hlt : off + k < cs.toList.length := by simp; omega
  apply List.ext_getElem?
  intro i
  simp only [List.getElem?_append, ZJp, ZJs, List.length_set, List.getElem?_take, ZJM, ZJH, Array.length_toList]
  have hsz : (off + (k + 1)) <= cs.size := by omega
  rw [Nat.min_eq_left hsz, Nat.min_eq_left (show off + k <= cs.size by omega)]
  by_cases h1 : i < off + k
  ·rw [if_pos (show i < off + (k + 1) + vs.length by omega), if_pos (show i < off + (k + 1) by omega), if_pos (show i < off + (k + 1) by omega), if_pos (show i < off + k + (vs.length + 1) by omega), if_pos h1, if_pos h1]
   rw [List.getElem?_set_ne (by omega)]
  ·by_cases h2 : i = off + k
   ·subst h2
    rw [if_pos (show off + k < off + (k + 1) + vs.length by omega), if_pos (show off + k < off + (k + 1) by omega), if_pos (show off + k < off + (k + 1) by omega), if_pos (show off + k < off + k + (vs.length + 1) by omega), if_neg h1]
    rw [List.getElem?_set_self (by simpa using hlt)]
    simp
   ·by_cases h3 : i < off + (k + 1) + vs.length
    ·rw [if_pos h3, if_neg (show ¬ i < off + (k + 1) by omega), if_pos (show i < off + k + (vs.length + 1) by omega), if_neg h1]
     rw [show i - (off + k) = (i - (off + (k + 1))) + 1 by omega, List.getElem?_cons_succ]
    ·rw [if_neg h3, if_neg (show ¬ i < off + k + (vs.length + 1) by omega)]
     rw [List.getElem?_set_ne (by omega)]
     congr 1; omega
theorem Zdn {place : Nat -> Option (Nat × Nat)} {L : Operand -> SV} {ev : Operand -> Value} (hL : ∀ x, (L x).R S ρ (ev x)) :
  ∀ (parts : List (Nat × Operand)) (cs r : List SC), Zsx place L cs parts = some r →
   Instr.fill place (cs.map (SC.den S ρ)).toArray (parts.map fun (i, x) => (i, ev x)) = some (r.map (SC.den S ρ)).toArray
 | [], cs, r, h => by cases h; rfl
 | (i, x) :: rest, cs, r, h => by
  unfold Zsx at h
  split at h
  ·rename_i off size ps h1 h2
   cases hb : Nat.beq ps.length size
   ·rw [hb] at h; cases h
   ·rw [hb] at h
    simp only [cond_true] at h
    split at h
    ·rename_i cs' h3
     have ih := Zdn hL rest cs' r h
     obtain ⟨hle, hlen, hmap⟩ := Zcj S ρ _ _ _ _ h3
     have hc := ZaJ S ρ h2 (hL x)
     have hsz : (ev x).cells.size = ps.length := by rw [<- Array.length_toList, hc]; simp
     simp only [ZJw, Instr.fill, h1]
     rw [if_neg]
     ·have e : ((ev x).cells.zipIdx.foldl (fun cs (p : Value × Nat) => cs.setIfInBounds (off + p.2) p.1) (cs.map (SC.den S ρ)).toArray) = (cs'.map (SC.den S ρ)).toArray := by
       apply Array.ext'
       rw [<- Array.foldl_toList, Array.toList_zipIdx, Zbl off _ 0 _ (by rw [hc]; simp; omega), hc, hmap]
       simp
      have e2 : (Array.foldl (fun cs x => match x with | (c, j) => cs.setIfInBounds (off + j) c) (cs.map (SC.den S ρ)).toArray (ev x).cells.zipIdx) = (cs'.map (SC.den S ρ)).toArray := e
      rw [e2]; exact ih
     ·rw [hsz, ZJo hb]
      have := ZJo hb
      simp; omega
    ·cases h
  ·cases h
end
end
end Go.Eng
namespace Go.Eng
noncomputable section
open Go.RowKit (Below)
section
variable {G : Type} (S : Sig G) (ρ : Env G) (w0 : World) {P : Program}
theorem Zcs : ∀ (fs : List Field), (∀ f ∈ fs, (Za9 P f.type).isSome = true) -> ∃ places, fs.mapM (fun f => (P.info? f.type).map fun i => (f.offset, i.size)) = some places ∧
  ∀ i : Nat, places[i]? = (fs[i]?).bind (fun f => (Za9 P f.type).map fun n => (f.offset, n))
 | [], _ => ⟨[], rfl, by simp⟩
 | f :: fs, h => by
  obtain ⟨pl, h1, h2⟩ := Zcs fs (fun g hg => h g (ZJt _ hg))
  have hf := h f ZJv
  obtain ⟨n, hn⟩ := Option.isSome_iff_exists.1 hf
  obtain ⟨i, hi, rfl⟩ := YW hn
  refine ⟨(f.offset, i.size) :: pl, ?_, ?_⟩
  ·simp [List.mapM_cons, hi, h1]
  ·intro j
   cases j with
   | zero => simp [hn]
   | succ j => simp [h2 j]
theorem ZjO {L : Operand -> SV} {ev : Operand -> Value} (hL : ∀ x, (L x).R S ρ (ev x)) {t : TypeId} {parts : Array (Nat × Operand)} {sv : SV}
  (h : ZvK P L t parts = some sv) (w : World) : (Instr.build t (parts.map fun (i, x) => (i, ev x))).run P w = .ok (sv.den S ρ) w := by
 unfold ZvK at h
 have hparts : (parts.map fun (i, x) => (i, ev x)).toList = parts.toList.map fun (i, x) => (i, ev x) := by simp
 split at h
 ·rename_i fs z hu hz
  cases hall : fs.all (fun f => (Za9 P f.type).isSome)
  ·rw [hall] at h; cases h
  rw [hall] at h
  simp only [cond_true] at h
  split at h
  ·rename_i cs hcs
   cases h
   have hf := Zdn S ρ hL parts.toList z cs hcs
   unfold ZbX at hz
   split at hz
   ·rename_i i hi
    split at hz
    ·rename_i zv hzv
     have hzc := Zbp S ρ hz
     obtain ⟨pl, hpl, hpi⟩ := Zcs (P := P) fs.toList (fun f hf => by
      rw [<- Array.all_toList] at hall
      exact List.all_eq_true.1 hall f hf)
     refine run_build w t _ _ ?_
     unfold Program.built
     rw [hi, hu]
     simp only [hzv, hpl, hparts]
     have e1 : (fun x : Nat => pl.toArray[x]?) = Zdt P fs := by
      funext x
      simp only [List.getElem?_toArray]
      rw [hpi x]
      unfold Zdt
      rw [ZJc]
      cases fs[x]? with
      | none => rfl
      | some f => simp only [Option.bind_some]; cases Za9 P f.type <;> rfl
     rw [e1]
     have e2 : zv.cells = (z.map (SC.den S ρ)).toArray := by rw [hzc]
     rw [e2]; exact hf
    ·cases hz
   ·cases hz
  ·cases h
 ·rename_i n e z hu hz
  split at h
  ·rename_i s hs
   split at h
   ·rename_i cs hcs
    cases h
    have hf := Zdn S ρ hL parts.toList z cs hcs
    unfold ZbX at hz
    split at hz
    ·rename_i i hi
     split at hz
     ·rename_i zv hzv
      have hzc := Zbp S ρ hz
      obtain ⟨ie, hie, rfl⟩ := YW hs
      refine run_build w t _ _ ?_
      unfold Program.built
      rw [hi, hu]
      simp only [hzv, hie, hparts]
      have e2 : zv.cells = (z.map (SC.den S ρ)).toArray := by rw [hzc]
      rw [e2]; exact hf
     ·cases hz
    ·cases hz
   ·cases h
  ·cases h
 ·cases h
theorem Zxj {L : Operand -> SV} {ev : Operand -> Value} (hL : ∀ x, (L x).R S ρ (ev x)) {f : Nat} : ∀ (l : List Operand) (g : SC) (cs : Array Value), g.den S ρ = .func (.func f) #[] cs -> ∀ {r : SC},
  l.foldl (fun (acc : Option SC) x => match acc, L x with | some g, .one c => some (SC.cap g c) | _, _ => none) (some g) = some r →
  r.den S ρ = .func (.func f) #[] (cs ++ (l.map ev).toArray)
 | [], g, cs, hg, r, h => by simp at h; subst h; simp [hg]
 | x :: l, g, cs, hg, r, h => by
  simp only [List.foldl_cons] at h
  have hnone : ∀ l : List Operand, l.foldl (fun (acc : Option SC) x => match acc, L x with | some g, .one c => some (SC.cap g c) | _, _ => none) none = none := by
   intro l; induction l with
   | nil => rfl
   | cons y l ih => simp only [List.foldl_cons]; exact ih
  split at h
  ·rename_i g' c hg' hc
   cases hg'
   have := Zxj hL (f := f) l (SC.cap g c) (cs.push (c.den S ρ)) (by simp only [SC.den, hg]) h
   rw [this]
   have hx := R_one S ρ (hc ▸ hL x)
   simp [hx]
  ·rw [hnone] at h; cases h
theorem Zkx {F : Zd} {w : World} {hp : List Ch} {asm : List SX} (ha : ∀ x ∈ asm, (x.den S ρ).tP) (hs : Sat w0 (Zg (Ze S ρ w0 hp) F) w)
  {src dst e : TypeId} (h1 : P.underlying src = some (.slice e)) (h2 : P.underlying e = some (.int .u8)) (h3 : P.underlying dst = some .string)
  {v : SV} {va : Value} (hr : v.R S ρ va) {ns : List SX} {sv : SV} (h : Zth hp asm v = some (ns, sv)) (hns : ∀ e ∈ ns, (e.den S ρ).tP) :
  (convert src dst va).run P w = .ok (sv.den S ρ) w := by
 unfold Zth at h
 split at h
 ·rename_i b o k z l c s
  cases hb : Zn b
  ·rw [hb] at h
   simp only [cond_false] at h
   split at h
   ·rename_i x hfa
    cases hs1 : Nat.beq s 1
    ·rw [hs1] at h; cases h
    rw [hs1] at h
    cases h
    have := ZJo hs1
    subst this
    obtain ⟨hk0, hns⟩ := Za S ρ ha hns
    obtain ⟨hl0, hns⟩ := Za S ρ ha hns
    obtain ⟨hkl, hns⟩ := Za S ρ ha hns
    obtain ⟨hlc, hns⟩ := Za S ρ ha hns
    rw [eLe_den] at hk0 hl0 hkl hlc
    rw [Zaa, SX.mk1_den] at hkl
    simp only [SX.den, U.tIi, ap1] at hk0 hl0 hkl
    obtain ⟨_, hpos, hcells⟩ := Zcx S ρ w0 hfa hs
    rw [R_one S ρ hr]
    -- the text
    generalize hT : ((x.den S ρ).tB.drop (k.den S ρ).tI.toNat).take (l.den S ρ).tI.toNat = T
    have hTl : T.length = (l.den S ρ).tI.toNat := by rw [<- hT]; simp; omega
    have hres : SV.den S ρ (.one (.str (bif SX.bq k (.int 0) then (bif SX.bq l (SX.mk1 31 x) then x else .f2 114 x l) else .f2 114 (.f2 117 x k) l))) = .string ⟨T.toArray⟩ := by
     simp only [SV.den, SC.den]
     congr 3
     cases hk : SX.bq k (.int 0)
     ·simp only [cond_false, SX.den, ap2, U.tBi]; exact hT
     ·have := SX.bq_eq hk; subst this
      simp only [cond_true]
      cases hl : SX.bq l (SX.mk1 31 x)
      ·simp only [cond_false, SX.den, ap2, U.tBi]; rw [<- hT]; rfl
      ·have := SX.bq_eq hl; subst this
       simp only [cond_true]
       rw [<- hT, SX.mk1_den]
       simp [SX.den, ap1]
    rw [hres]
    simp only [SC.den]
    by_cases hlz : (l.den S ρ).tI = 0
    ·have hT0 : T = [] := by apply ZJC; omega
     subst hT0
     rw [hlz]
     split
     ·rw [run_convert_bytes_string w src dst e none _ _ h1 h2 h3]; rfl
     ·have := run_convert_bytes_back (P := P) w src dst e ⟨(b.den S ρ).tI.toNat, (o.den S ρ).tI.toNat + (if (c.den S ρ).tI = 0 then (z.den S ρ).tI else (k.den S ρ).tI).toNat * 1, none⟩ (c.den S ρ).tI.toNat [] h1 h2 h3 (fun j hj => by cases hj)
      exact this
    ·have hb0 : 0 <= (b.den S ρ).tI := hpos (by
      intro he
      have : ((En.bytes).vals (x.den S ρ)).length = 0 := by rw [he]; rfl
      simp [En.vals] at this
      rw [this] at hkl; simp at hkl; omega)
     rw [if_neg (by omega), if_neg (show ¬ (c.den S ρ).tI = 0 by omega), Nat.mul_one]
     rw [<- hTl]
     refine run_convert_bytes_back (P := P) w src dst e _ _ T h1 h2 h3 (fun j hj => ?_)
     rw [Addr.add_eq, Nat.add_assoc]
     refine hcells _ _ ?_
     simp only [En.vals, ZJj, Option.map_eq_some_iff]
     refine ⟨T[j], ?_, rfl⟩
     have : T[j]? = some T[j] := ZJq hj
     rw [<- this]
     have hjl : j < (l.den S ρ).tI.toNat := by omega
     rw [<- hT, List.getElem?_take, if_pos hjl, ZJM]
   ·cases h
  ·rw [hb] at h; cases h
   rw [R_one S ρ hr]
   simp only [SC.den, if_pos (ZJ S ρ hb), SV.den, SX.den, U.tBi]
   rw [run_convert_bytes_string w src dst e none _ _ h1 h2 h3]; rfl
 ·cases h
end
end
end Go.Eng
namespace Go.Eng
noncomputable section
open Go.RowKit (Below)
section
variable {G : Type} (S : Sig G) (ρ : Env G) (w0 : World) {P : Program}
theorem ZiZ (e : SX) : ((SX.mk1 31 e).den S ρ) = .int (e.den S ρ).tB.length := by rw [SX.mk1_den]; rfl
theorem Zi5 (l : List UInt8) (a b : Nat) : (⟨l.toArray⟩ : ByteArray).extract a b = ⟨((l.drop a).take (b - a)).toArray⟩ := by
 apply ByteArray.ext
 rw [ByteArray.data_extract]
 simp [List.extract_eq_take_drop]
theorem Zh4 {e : SX} (h : Zim e = true) : 0 <= (e.den S ρ).tI /\ (e.den S ρ).tI <= 255 := by
 unfold Zim at h
 split at h
 ·rename_i a b
  simp only [SX.den, ap2, U.tIi]
  have := UInt8.toNat_lt ((SX.den S ρ a).tB.getD (SX.den S ρ b).tI.toNat 0)
  omega
 ·rename_i n
  have := ZJA h
  show 0 <= (Int.ofNat n) /\ (Int.ofNat n) <= 255
  simp; omega
 ·cases h
set_option maxHeartbeats 1000000 in
theorem getD_drop' (l : List Int) (p q : Nat) : l.getD (p + q) 0 = (l.drop p).getD q 0 := by rw [ZJn, ZJn, ZJM]
theorem ZaO {F : Zd} {w : World} {hp : List Ch} {asm : List SX} (ha : ∀ x ∈ asm, (x.den S ρ).tP) (hs : Sat w0 (Zg (Ze S ρ w0 hp) F) w)
  {L : Operand -> SV} {ev : Operand -> Value} (hL : ∀ x, (L x).R S ρ (ev x)) {o : Oper} {ns : List SX} {sv : SV}
  (h : qev P hp asm L o.op = some (ns, sv)) (hns : ∀ e ∈ ns, (e.den S ρ).tP) :
  ∃ v, (execOp ev o).run P w = .ok (.value v) w /\ sv.R S ρ v := by
 unfold execOp
 generalize ho : o.op = op at h
 unfold qev at h
 split at h
 ·-- move
  rename_i x; cases h
  exact ⟨_, rfl, hL x⟩
 ·rename_i x; cases h
  exact ⟨_, rfl, hL x⟩
 ·-- pick
  rename_i c a b
  split at h
  ·rename_i hc; cases h
   have := R_one S ρ (hc ▸ hL c)
   refine ⟨ev a, ?_, hL a⟩
   simp [this, SC.den, SX.den, asBool]
  ·rename_i hc; cases h
   have := R_one S ρ (hc ▸ hL c)
   refine ⟨ev b, ?_, hL b⟩
   simp [this, SC.den, SX.den, asBool]
  ·rename_i e _ _ hc
   split at h
   ·rename_i x y hx hy; cases h
    have h1 := R_one S ρ (hc ▸ hL c)
    have h2 := R_one S ρ (hx ▸ hL a)
    have h3 := R_one S ρ (hy ▸ hL b)
    refine ⟨_, ?_, ZbS S ρ _⟩
    simp only [h1, h2, h3, SC.den, asBool, SV.den, SX.mk3_den, SX.den, ap3, U.tQi]
    cases (e.den S ρ).toBool <;> simp
   ·cases h
  ·cases h
 ·-- nilCheck
  rename_i x
  split at h
  ·rename_i b o' hx; cases h
   have h1 := R_one S ρ (hx ▸ hL x)
   obtain ⟨h0, _⟩ := Z2 S ρ w0 ha hs hns
   refine ⟨_, ?_, ZbS S ρ _⟩
   simp only [h1, SC.den, SV.den]
   rw [if_neg (by omega)]; rfl
  ·rename_i b o' i s j hx; cases h
   have h1 := R_one S ρ (hx ▸ hL x)
   refine ⟨_, ?_, ZbS S ρ _⟩
   simp only [h1, SC.den, SV.den]; rfl
  ·rename_i f hx; cases h
   have h1 := R_one S ρ (hx ▸ hL x)
   refine ⟨_, ?_, ZbS S ρ _⟩
   simp only [h1, SC.den, SV.den]; rfl
  ·rename_i b o' k z l c s hx; cases h
   have h1 := R_one S ρ (hx ▸ hL x)
   refine ⟨_, ?_, ZbS S ρ _⟩
   simp only [h1, SC.den, SV.den]; rfl
  ·rename_i b hx; cases h
   have h1 := R_one S ρ (hx ▸ hL x)
   refine ⟨_, ?_, ZbS S ρ _⟩
   simp only [h1, SC.den, SV.den]; rfl
  ·cases h
 ·-- binOp
  rename_i op' t x y yt
  refine ⟨_, ZH (Zll S ρ w0 ha (hL x) (hL y) h hns x y w hs), ZbS S ρ _⟩
 ·-- unOp
  rename_i op' t x
  split at h
  ·rename_i e hx; cases h
   have h1 := R_one S ρ (hx ▸ hL x)
   refine ⟨_, ZH (v := SV.den S ρ (.one (.bool (Zef e)))) ?_, ZbS S ρ _⟩
   rw [h1]; simp only [SC.den, Op.unary, SV.den, ZbG]; rfl
  ·rename_i k e hx
   have h1 := R_one S ρ (hx ▸ hL x)
   rw [<- Prod.eta (YO asm k _)] at h; cases h
   refine ⟨_, ZH (v := _) ?_, ZbS S ρ _⟩
   rw [h1, Yr S ρ ha (Zae S ρ (.int 0) e) hns]
   simp only [SC.den, Op.unary, Op.intArith, SX.den, U.tIi]; rfl
  ·rename_i k e hx
   cases h
   have h1 := R_one S ρ (hx ▸ hL x)
   refine ⟨_, ZH (v := _) ?_, ZbS S ρ _⟩
   rw [h1]
   simp only [SV.den, SC.den]
   rw [SX.mk2_den, ZdV S ρ 76 .xor k _ e (by intro x y; cases k <;> rfl)]
   rfl
  ·cases h
 ·-- convert
  rename_i src dst x
  split at h
  ·rename_i d k k' e hsrc hdst hx
   have h1 := R_one S ρ (hx ▸ hL x)
   have hrun : ∀ n, (convert src dst (.int k' n)).run P w = .ok (.int k (k.wrap n)) w := fun n => by
    simp [convert, run_underlying hsrc, run_underlying hdst, Conv.intToInt]
   cases hb : Zim e
   ·rw [hb] at h
    simp only [cond_false, Option.some.injEq] at h
    rw [<- Prod.eta (YO asm k e)] at h; cases h
    refine ⟨_, ZH (v := _) ?_, ZbS S ρ _⟩
    rw [h1, Yr S ρ ha rfl hns]
    exact hrun _
   ·rw [hb] at h; cases h
    refine ⟨_, ZH (v := _) ?_, ZbS S ρ _⟩
    rw [h1]
    simp only [SC.den, hrun, SV.den]
    have hrange := Zh4 S ρ hb
    have hw : ∀ k : IntKind, kn k ≠ 0 -> k.wrap (e.den S ρ).tI = (e.den S ρ).tI := fun k hk => by
     refine Zcg ?_
     cases k <;> simp only [IntKind.min, IntKind.max, IntKind.bits, IntKind.signed] <;> first | (exact absurd rfl hk) | (simp; omega)
    cases hk0 : Nat.beq (kn k) 0
    ·rw [hw k (fun h => by rw [h] at hk0; cases hk0)]; rfl
    ·have : k = .i8 := Zb6 (ZJo hk0)
     subst this
     simp only [cond_true]
     rw [SX.mk1_den]; rfl
  ·rename_i d e hsrc hdst hx; cases h
   have h1 := R_one S ρ (hx ▸ hL x)
   refine ⟨_, ZH (v := _) ?_, ZbS S ρ _⟩
   rw [h1]; simp [convert, run_underlying hsrc, run_underlying hdst, SC.den, SV.den]
  ·rename_i t v hsrc hdst _
   split at h
   ·rename_i hu
    exact ⟨_, ZH (Zkx S ρ w0 ha hs hsrc hu hdst (hL x) h hns), ZbS S ρ _⟩
   ·cases h
  ·cases h
 ·-- fieldAddr
  rename_i t x f
  split at h
  ·rename_i fs c hu hx
   split at h
   ·rename_i fd hfd
    split at h
    ·rename_i n hn
     have h1 := R_one S ρ (hx ▸ hL x)
     split at h
     ·rename_i b o'; cases h
      obtain ⟨h0, _⟩ := Z2 S ρ w0 ha hs hns
      refine ⟨_, ZH (v := _) ?_, ZbS S ρ _⟩
      rw [h1]
      simp only [SC.den, SV.den]
      rw [if_neg (by omega), if_neg (by omega)]
      exact ZbK hu hfd hn _ _ w
     ·rename_i b o' i s j; cases h
      refine ⟨_, ZH (v := _) ?_, ZbS S ρ _⟩
      rw [h1]
      simp only [SC.den, SV.den]
      rw [ZbK hu hfd hn _ _ w, Nat.add_assoc]
     ·cases h
    ·cases h
   ·cases h
  ·cases h
 ·-- field
  rename_i t x f
  split at h
  ·rename_i fs cs hu hx
   split at h
   ·rename_i fd hfd
    split at h
    ·rename_i n d hn hd
     cases hle : Nat.ble (fd.offset + n) cs.length
     ·rw [hle] at h; cases h
     rw [hle] at h
     simp only [cond_true] at h
     obtain ⟨hden, h1⟩ := Zwu S ρ h
     have hx1 := ZlQ S ρ (hx ▸ hL x)
     refine ⟨_, ZH (v := sv.den S ρ) ?_, ZbS S ρ _⟩
     rw [hx1, hden]
     have := Zpy hd hn (cs.map (SC.den S ρ)) fd.offset (by simpa using ZJA hle) (by simpa using h1) w
     simp [Instr.field, run_underlying hu, hfd, asAgg, this]
    ·cases h
   ·cases h
  ·cases h
 ·-- indexAddr
  rename_i t x ix
  split at h
  ·rename_i e b o' k z l c s i hu hx hi
   split at h
   ·rename_i n en xs hn hfa
    cases hn1 : Nat.ble 1 n
    ·rw [hn1] at h; cases h
    cases hns1 : Nat.beq n s
    ·rw [hn1, hns1] at h; cases h
    rw [hn1, hns1] at h; cases h
    have hs0 := ZJA hn1
    have := ZJo hns1
    subst this
    obtain ⟨hi0, hns⟩ := Za S ρ ha hns
    obtain ⟨hil, hns⟩ := Za S ρ ha hns
    obtain ⟨hk0, hns⟩ := Za S ρ ha hns
    obtain ⟨hkl, hns⟩ := Za S ρ ha hns
    rw [eLe_den] at hi0 hk0
    rw [Yo] at hil hkl
    rw [En.lenX_den, Zaa] at hkl
    simp only [SX.den, U.tIi] at hi0 hk0 hkl
    obtain ⟨hst, hpos, _⟩ := Zcx S ρ w0 hfa hs
    obtain ⟨kk, hix⟩ := Z6 S ρ hi (hL ix)
    have hx1 := R_one S ρ (hx ▸ hL x)
    have hkz : (if (c.den S ρ).tI = 0 then (z.den S ρ).tI else (k.den S ρ).tI) = (k.den S ρ).tI := by
     cases hzk : SX.bq z k
     ·rw [hzk] at hns
      obtain ⟨hc0, _⟩ := Za S ρ ha hns
      rw [Yo] at hc0
      simp only [SX.den, U.tIi] at hc0
      rw [if_neg (by omega)]
     ·rw [SX.bq_eq hzk]; simp
    refine ⟨_, ZH (v := _) ?_, ZbS S ρ _⟩
    rw [hx1, hix]
    simp only [SC.den, SV.den]
    rw [hkz]
    have hb0 : 0 <= (b.den S ρ).tI := hpos (by
     intro he
     have h2 := En.vals_length en (xs.den S ρ)
     rw [he, hst] at h2
     simp only [List.length_nil] at h2
     have : 0 < en.len (xs.den S ρ) := by omega
     have := Nat.mul_pos this hs0
     omega)
    rw [if_neg (by omega)]
    have hlt : (i.den S ρ).tI < max (l.den S ρ).tI 0 := by omega
    simp [Instr.indexAt, asIntOf, run_underlying hu, hi0, Zm hn, Addr.add_eq, hlt]
    rw [Zaa]
    rw [show ((k.den S ρ).tI + (i.den S ρ).tI).toNat = (k.den S ρ).tI.toNat + (i.den S ρ).tI.toNat by omega, Nat.add_mul]
    omega
   ·cases h
  ·rename_i n e b o' i hu hx hi
   split at h
   ·rename_i s hn
    cases hlt : Nat.blt i n
    ·rw [hlt] at h; cases h
    rw [hlt] at h; cases h
    obtain ⟨h0, _⟩ := Z2 S ρ w0 ha hs hns
    obtain ⟨kk, hix⟩ := Z6 S ρ hi (hL ix)
    have hx1 := R_one S ρ (hx ▸ hL x)
    refine ⟨_, ZH (v := _) ?_, ZbS S ρ _⟩
    rw [hx1, hix]
    simp only [SC.den, SV.den]
    rw [if_neg (by omega), if_neg (by omega)]
    have h1 : (SX.den S ρ (.int (.ofNat i))).tI = (i : Int) := rfl
    have h2 : i < n := by simpa [Nat.blt_eq] using hlt
    rw [h1]
    simp [Instr.indexAt, asIntOf, run_underlying hu, Zm hn, Addr.add_eq, Instr.sureAddr, h2]
   ·cases h
  ·rename_i n e b o' i _ hu hx hi
   split at h
   ·rename_i s hn
    cases h
    obtain ⟨h0, hns⟩ := Z2 S ρ w0 ha hs hns
    obtain ⟨hi0, hns⟩ := Za S ρ ha hns
    obtain ⟨hil, _⟩ := Za S ρ ha hns
    rw [eLe_den] at hi0
    rw [Yo] at hil
    simp only [SX.den, U.tIi] at hi0 hil
    obtain ⟨kk, hix⟩ := Z6 S ρ hi (hL ix)
    have hx1 := R_one S ρ (hx ▸ hL x)
    refine ⟨_, ZH (v := _) ?_, ZbS S ρ _⟩
    rw [hx1, hix]
    simp only [SC.den, SV.den]
    rw [if_neg (by omega)]
    have hlt : (i.den S ρ).tI < (n : Int) := hil
    have hlt2 : (i.den S ρ).tI.toNat < n := by omega
    have ho : ((SX.int (.ofNat o')).den S ρ).tI.toNat = o' := rfl
    rw [ho]
    simp [Instr.indexAt, asIntOf, run_underlying hu, Zm hn, Addr.add_eq, Instr.sureAddr, hlt, hlt2, hi0]
   ·cases h
  ·rename_i e y j p i hu hx hi
   split at h
   ·rename_i s hn
    cases hn1 : Nat.ble 1 s
    ·rw [hn1] at h; cases h
    rw [hn1] at h; cases h
    obtain ⟨hi0, hns⟩ := Za S ρ ha hns
    obtain ⟨hil, hns⟩ := Za S ρ ha hns
    obtain ⟨hb0, hns⟩ := Za S ρ ha hns
    obtain ⟨hsp, _⟩ := Za S ρ ha hns
    rw [eLe_den] at hi0 hb0
    rw [Yo] at hil hsp
    simp only [SX.den, U.tIi] at hi0 hil hb0 hsp
    have g : ∀ q, ((Zdg y j (.int (.ofNat (p + q)))).den S ρ).tI = (((y.den S ρ).tR.getD (j.den S ρ).tI.toNat []).drop p).getD q 0 := fun q => by
     rw [ZbP]; exact getD_drop' _ p q
    have g0 := g 0
    rw [Nat.add_zero] at g0
    obtain ⟨kk, hix⟩ := Z6 S ρ hi (hL ix)
    have hx1 := R_one S ρ (hx ▸ hL x)
    refine ⟨_, ZH (v := _) ?_, ZbS S ρ _⟩
    rw [hx1, hix]
    simp only [SC.den, SV.den, opqV]
    rw [<- g0, <- g 1, <- g 2, <- g 3, if_neg (by omega), if_pos hsp]
    generalize ((Zdg y j (.int (.ofNat (p + 3)))).den S ρ).tI = z3 at hil ⊢
    generalize ((Zdg y j (.int (.ofNat (p + 1)))).den S ρ).tI = z1
    generalize ((Zdg y j (.int (.ofNat p))).den S ρ).tI = z4
    have hlt : (i.den S ρ).tI < max z3 0 := by omega
    simp [Instr.indexAt, asIntOf, run_underlying hu, hi0, Zm hn, Addr.add_eq, hlt]
   ·cases h
  ·cases h
 ·-- index
  rename_i t x ix
  split at h
  ·rename_i e i hu hx hi
   cases h
   obtain ⟨hi0, hns⟩ := Za S ρ ha hns
   obtain ⟨hil, _⟩ := Za S ρ ha hns
   rw [eLe_den] at hi0
   rw [Yo, ZiZ] at hil
   simp only [SX.den, U.tIi] at hi0 hil
   obtain ⟨kk, hix⟩ := Z6 S ρ hi (hL ix)
   have hx1 := R_one S ρ (hx ▸ hL x)
   have hlt : (i.den S ρ).tI.toNat < (e.den S ρ).tB.length := by omega
   refine ⟨_, ZH (v := _) ?_, ZbS S ρ _⟩
   rw [hx1, hix]
   simp only [SC.den, SV.den, ZwU, ZiK, SX.den, ap2, U.tIi]
   have hg : (⟨(e.den S ρ).tB.toArray⟩ : ByteArray)[(i.den S ρ).tI.toNat]? = some ((e.den S ρ).tB.getD (i.den S ρ).tI.toNat 0) := by
    have hlt' : (i.den S ρ).tI.toNat < (⟨(e.den S ρ).tB.toArray⟩ : ByteArray).size := by simpa [ByteArray.size] using hlt
    rw [getElem?_pos (⟨(e.den S ρ).tB.toArray⟩ : ByteArray) (i.den S ρ).tI.toNat hlt', ZJn, ZJq hlt]
    rfl
   simp [Instr.index, asIntOf, run_underlying hu, hi0, hg]
  ·rename_i n e cs i hu hx hi
   split at h
   ·rename_i s d hn hd
    cases hlt : Nat.blt i n
    ·rw [hlt] at h; cases h
    cases hle : Nat.ble (i * s + s) cs.length
    ·rw [hlt, hle] at h; cases h
    rw [hlt, hle] at h
    simp only [cond_true] at h
    obtain ⟨hden, h1⟩ := Zwu S ρ h
    have hx1 := ZlQ S ρ (hx ▸ hL x)
    obtain ⟨kk, hix⟩ := Z6 S ρ hi (hL ix)
    have h2 : (SX.den S ρ (.int (.ofNat i))).tI = (i : Int) := rfl
    rw [h2] at hix
    have h3 : i < n := by simpa [Nat.blt_eq] using hlt
    refine ⟨_, ZH (v := sv.den S ρ) ?_, ZbS S ρ _⟩
    rw [hx1, hix, hden]
    have := Zpy hd hn (cs.map (SC.den S ρ)) (i * s) (by simpa using ZJA hle) (by simpa using h1) w
    simp [Instr.index, asIntOf, run_underlying hu, h3, Zm hn, this]
   ·cases h
  ·cases h
 ·-- slice
  rename_i t x lo hi mx
  split at h
  ·rename_i e b o' k z l c s lo' hi' mx' hu hx hlo hhi hmx
   split at h
   ·rename_i n hn hok
    cases hns1 : Nat.beq n s
    ·rw [hns1] at h; cases h
    rw [hns1] at h
    simp only [cond_true, Option.some.injEq] at h
    have := ZJo hns1
    subst this
    rw [<- Prod.eta (ZjX asm b o' k z l c n lo' hi' mx')] at h
    cases h
    have hx1 := R_one S ρ (hx ▸ hL x)
    refine ⟨_, ZH (v := _) ?_, ZbS S ρ _⟩
    rw [hx1]
    refine Zlb S ρ ha hL hu hn hlo hhi hmx ?_ hns w
    intro hm
    cases mx' with
    | none => cases hm
    | some m => cases hi' with
     | none => cases hok
     | some h => rfl
   ·cases h
  ·rename_i e lo' hi' hu hx hlo hhi hmx
   have hx1 := R_one S ρ (hx ▸ hL x)
   have hmxn : mx.map ev = none := by
    rcases Zay S ρ hL hmx with ⟨_, _, h3⟩ | ⟨_, _, _, _, h2, _⟩
    ·exact h3
    ·cases h2
   cases h
   obtain ⟨hblo, hns⟩ := Zcb S ρ ha hns
   obtain ⟨hbhi, _⟩ := Zcb S ρ ha hns
   rw [ZiZ] at hbhi
   simp only [U.tIi] at hbhi
   have hH : ∃ k2 x2, ((hi.map ev = none /\ (none : Option Value) = none /\ ((orE hi' (SX.mk1 31 e)).den S ρ).tI.toNat = (e.den S ρ).tB.length) \/ (hi.map ev = some (.int k2 x2) /\ 0 <= x2 /\ x2 <= ((e.den S ρ).tB.length : Nat) /\ ((orE hi' (SX.mk1 31 e)).den S ρ).tI.toNat = x2.toNat)) /\ 0 <= ((orE hi' (SX.mk1 31 e)).den S ρ).tI := by
    rcases Zay S ρ hL hhi with ⟨_, rfl, h3⟩ | ⟨q, x2, k2, _, rfl, h3⟩
    ·refine ⟨.i64, 0, .inl ⟨h3, rfl, ?_⟩, ?_⟩ <;> simp only [orE, ZiZ, U.tIi] <;> omega
    ·rcases hbhi with hc | ⟨q', hq, h4, h5⟩
     ·cases hc
     ·cases hq
      exact ⟨k2, _, .inr ⟨h3, h4, h5, rfl⟩, h4⟩
   obtain ⟨k2, x2, hh, hH0⟩ := hH
   have hLo : ∃ k1 x1, ((lo.map ev = none /\ ((orE lo' (.int 0)).den S ρ).tI.toNat = 0) \/ (lo.map ev = some (.int k1 x1) /\ 0 <= x1 /\ x1 <= (((orE hi' (SX.mk1 31 e)).den S ρ).tI.toNat : Nat) /\ ((orE lo' (.int 0)).den S ρ).tI.toNat = x1.toNat)) /\ 0 <= ((orE lo' (.int 0)).den S ρ).tI := by
    rcases Zay S ρ hL hlo with ⟨_, rfl, h3⟩ | ⟨q, x1, k1, _, rfl, h3⟩
    ·exact ⟨.i64, 0, .inl ⟨h3, rfl⟩, ZJy _⟩
    ·rcases hblo with hc | ⟨q', hq, h4, h5⟩
     ·cases hc
     ·cases hq
      exact ⟨k1, _, .inr ⟨h3, h4, by omega, rfl⟩, h4⟩
   obtain ⟨k1, x1, hl, hl0⟩ := hLo
   have hb := YR (P := P) (b := false) (len := (e.den S ρ).tB.length) (cap := (e.den S ρ).tB.length) (mx := none) (lo := lo.map ev) (hi := hi.map ev) (k3 := .i64) (x3 := 0) (.inl ⟨rfl, rfl⟩) hh hl w
   have hsz : (⟨(e.den S ρ).tB.toArray⟩ : ByteArray).size = (e.den S ρ).tB.length := by simp [ByteArray.size]
   have e1 : (Instr.sliceAt t (.string ⟨(e.den S ρ).tB.toArray⟩) (lo.map ev) (hi.map ev) (mx.map ev)).run P w = (Instr.slice t (.string ⟨(e.den S ρ).tB.toArray⟩) (lo.map ev) (hi.map ev) (mx.map ev)).run P w := by
    unfold Instr.sliceAt; simp [run_underlying hu]
   refine ⟨_, ZH (v := _) ?_, ZbS S ρ _⟩
   rw [hx1]
   simp only [SC.den, SV.den, SX.mkS2_den, SX.den, ap2, U.tBi]
   rw [e1, hmxn, Zae]
   have hdrop : ((ZB8 lo' e).den S ρ).tB = (e.den S ρ).tB.drop ((orE lo' (.int 0)).den S ρ).tI.toNat := by
    cases lo' <;> simp [ZB8, orE, SX.mkS2_den, SX.den, ap2]
   rw [hdrop, show (((orE hi' (SX.mk1 31 e)).den S ρ).tI - ((orE lo' (.int 0)).den S ρ).tI).toNat = ((orE hi' (SX.mk1 31 e)).den S ρ).tI.toNat - ((orE lo' (.int 0)).den S ρ).tI.toNat by omega, <- Zi5]
   simp [Instr.slice, run_underlying hu, hsz, hb]
  ·cases h
 ·-- lookup
  rename_i t x ix ok
  split at h
  ·rename_i kt et b ic hu hx hi
   split at h
   ·rename_i kk v m kd z hfm hk hz
    split at h
    ·rename_i i hfit henc
     have hx1 := R_one S ρ (hx ▸ hL x)
     have hix1 := R_one S ρ (hi ▸ hL ix)
     obtain ⟨hb0, es, clock, hmo, hobj⟩ := Zwj S ρ w0 (ZbA hfm) hs
     obtain ⟨hkv, hko⟩ := MK.enc_den S ρ henc
     obtain ⟨iz, hiz, hzz⟩ : ∃ iz, P.info? et = some iz /\ iz.zero = some z := by
      split at hz
      ·rename_i iz hiz; exact ⟨iz, hiz, hz⟩
      ·cases hz
     have hrun := fun d => ZcC (P := P) hfit hu hk hiz hzz hobj hko d hmo.2.2.1 hmo.1 ok
     split at h
     ·rename_i c hc
      have hval : ∃ d, Zdx S ρ c = (if Zbs (m.den S ρ).tM (i.den S ρ).tI then v.val [Zhb d (m.den S ρ).tM (i.den S ρ).tI] else z) := by
       unfold mapZ at hc
       split at hc
       ·rename_i k k' n
        cases hkq : Nat.beq (kn k) (kn k')
        ·rw [hkq] at hc; cases hc
        ·rw [hkq] at hc; cases hc
         have := Zb6 (ZJo hkq)
         subst this
         refine ⟨n, ?_⟩
         simp only [Zdx, SC.den, ZaD, SX.den, ap3, U.tIi, MV.val, Fd.val]
         cases hh : Zbs (m.den S ρ).tM (i.den S ρ).tI
         ·rw [Zcr hh]; simp
         ·simp
       ·cases hc
        refine ⟨0, ?_⟩
        simp only [Zdx, SC.den]
        rw [SX.mk1_den]
        simp only [SX.den, ap1]
        rw [SX.mk2_den]
        simp only [ZaD, SX.den, ap2, ap3, U.tIi, U.tQi, MV.val, Fd.val]
        cases hh : Zbs (m.den S ρ).tM (i.den S ρ).tI
        ·rw [Zcr hh]; simp
        ·simp [bne]
       ·cases hc
        refine ⟨-1, ?_⟩
        simp only [Zdx, SC.den, ZaD, SX.den, ap3, U.tIi, MV.val, Fd.val]
        cases hh : Zbs (m.den S ρ).tM (i.den S ρ).tI
        ·rw [Zcr hh]; simp
        ·simp
       ·cases hc
        refine ⟨-1, ?_⟩
        simp only [Zdx, SC.den, ZaD, SX.den, ap3, U.tIi, MV.val, Fd.val]
        cases hh : Zbs (m.den S ρ).tM (i.den S ρ).tI
        ·rw [Zcr hh]; simp
        ·simp
       ·rename_i zs
        cases hzq : zSb zs
        ·rw [hzq] at hc; cases hc
        ·rw [hzq] at hc; cases hc
         refine ⟨0, ?_⟩
         rw [Zqy]
         simp only [ZaD, SX.den, ap3, U.tIi]
         cases hh : Zbs (m.den S ρ).tM (i.den S ρ).tI
         ·rw [Zcr hh, ZER hzq]; simp
         ·simp
       ·cases hc
      obtain ⟨d, hval⟩ := hval
      cases h
      refine ⟨_, ZH (v := _) ?_, ZbS S ρ _⟩
      rw [hx1, hix1]
      simp only [SC.den]
      rw [if_neg (by omega), hkv, hrun d]
      cases ok
      ·simp only [Bool.false_eq_true, if_false, cond_false]
       rw [Zrg, hval]
      ·rw [<- hval]
       simp only [cond_true, if_true, SV.den, ZJw, List.map_nil]
       rw [show Zdx S ρ (false, [SC.bool (ZgY i m)]) = .bool ((ZgY i m).den S ρ).toBool from rfl, ZdW]
       simp [SX.den, ap2]
     ·cases h
    ·cases h
   ·cases h
  ·cases h
 ·-- load
  rename_i t a
  split at h
  ·rename_i d n c hd hn hx
   have hx1 := R_one S ρ (hx ▸ hL a)
   refine ⟨_, ZH (v := sv.den S ρ) ?_, ZbS S ρ _⟩
   rw [hx1]
   exact ZeW S ρ w0 ha hs hd hn h hns
  ·cases h
 ·-- extract
  rename_i t ix
  split at h
  ·rename_i vs hx
   have hx1 : ev t = (SV.tup vs).den S ρ := by
    rcases hx ▸ hL t with hj | he
    ·cases hj
    ·exact he
   split at h
   ·rename_i c hv; cases h
    refine ⟨_, ZH (v := c.den S ρ) ?_, ZbS S ρ (.one c)⟩
    rw [hx1]; simp [SV.den, Zdx, Instr.extract, hv]
   ·rename_i cs hv; cases h
    refine ⟨_, ZH (v := (SV.agg cs).den S ρ) ?_, ZbS S ρ (.agg cs)⟩
    rw [hx1]; simp [SV.den, Zdx, Instr.extract, hv]
   ·cases h
  ·cases h
 ·-- makeInterface
  rename_i t x
  split at h
  ·cases h
  ·rename_i d c hni hu hx; cases h
   have hx1 := R_one S ρ (hx ▸ hL x)
   refine ⟨_, ZH (v := _) ?_, ZbS S ρ _⟩
   rw [hx1]
   cases d <;> first | (exact absurd rfl (hni _)) | simp [Instr.makeInterface, run_underlying hu, SV.den, SC.den]
  ·cases h
 ·-- makeFunc
  rename_i f first captured
  cases hf : Nat.beq first.size 0
  ·rw [hf] at h; cases h
  rw [hf] at h
  simp only [cond_true] at h
  split at h
  ·rename_i g hg; cases h
   have := Zxj S ρ hL (f := f) captured.toList (.fn f) #[] rfl hg
   have h0 : first = #[] := by simpa using ZJo hf
   refine ⟨_, ZH (v := _) ?_, ZbS S ρ (.one g)⟩
   simp only [SV.den]
   rw [this, h0]
   simp only [Instr.makeFunc, Array.map_empty, Array.empty_append]
   rw [show captured.map ev = (captured.toList.map ev).toArray from by apply Array.ext'; simp]; simp
  ·cases h
 ·-- build
  rename_i t parts
  split at h
  ·rename_i v hv; cases h
   exact ⟨_, ZH (ZjO S ρ hL hv w), ZbS S ρ _⟩
  ·cases h
 ·-- call
  rename_i c
  have hres : ∀ b, c.callee = .builtin b -> (do let d <- resolve ev c o.type; invoke d.target d.args : Sem Next) = builtin b c.argTypes o.type (c.args.map fun | .const _ => true | _ => false) (c.args.map ev) := fun b hb => by
   unfold resolve; rw [hb]; rfl
  split at h
  ·rename_i x t ts hcal hargs hts
   have hr := hres _ hcal
   have ha1 : c.args = #[x] := by apply Array.ext'; simpa using hargs
   have ht0 : c.argTypes[0]? = some t := by rw [<- ZJc, hts]; rfl
   split at h
   ·rename_i e b o' k z l c' s hu hx; cases h
    have hx1 := R_one S ρ (hx ▸ hL x)
    obtain ⟨hl0, _⟩ := Za S ρ ha hns
    rw [eLe_den] at hl0
    simp only [SX.den, U.tIi] at hl0
    refine ⟨_, ?_, ZbS S ρ _⟩
    simp only [hr, ha1]
    simp [builtin, Builtin.len_, ht0, run_underlying hu, hx1, SC.den, SV.den, goInt]; omega
   ·rename_i e hu hx; cases h
    have hx1 := R_one S ρ (hx ▸ hL x)
    refine ⟨_, ?_, ZbS S ρ _⟩
    simp only [hr, ha1]
    have hsz : (⟨(e.den S ρ).tB.toArray⟩ : ByteArray).size = (e.den S ρ).tB.length := by simp [ByteArray.size]
    simp [builtin, Builtin.len_, ht0, run_underlying hu, hx1, SC.den, SV.den, goInt, ZiZ, hsz]
   ·rename_i k1 k2 b hu hx
    split at h
    ·rename_i kk v m hfm; cases h
     have hx1 := R_one S ρ (hx ▸ hL x)
     obtain ⟨hb0, es, clock, hmo, hobj⟩ := Zwj S ρ w0 (ZbA hfm) hs
     have hlen : es.size = (m.den S ρ).tM.length := by
      have := congrArg List.length hmo.1
      simpa using this
     have hg : (getObj (b.den S ρ).tI.toNat).run P w = .ok (.map es clock) w := by simp [getObj, Sem.run, hobj]
     refine ⟨_, ?_, ZbS S ρ _⟩
     simp only [hr, ha1]
     rw [show (#[x] : Array Operand).map ev = #[.map (some (b.den S ρ).tI.toNat)] from by simp [hx1, SC.den, show ¬ (b.den S ρ).tI < 0 by omega]]
     simp [builtin, Builtin.len_, ht0, run_underlying hu, hg, SV.den, SC.den, ZlC, SX.den, ap1, goInt, hlen]
    ·cases h
   ·rename_i e y j p hu hx; cases h
    have hx1 := R_one S ρ (hx ▸ hL x)
    obtain ⟨hl0, _⟩ := Za S ρ ha hns
    rw [eLe_den] at hl0
    simp only [SX.den, U.tIi] at hl0
    have g : ((Zdg y j (.int (.ofNat (p + 3)))).den S ρ).tI = (((y.den S ρ).tR.getD (j.den S ρ).tI.toNat []).drop p).getD 3 0 := by
     rw [ZbP]; exact getD_drop' _ p 3
    refine ⟨_, ?_, ZbS S ρ _⟩
    simp only [hr, ha1]
    rw [show (#[x] : Array Operand).map ev = #[opqV ((((y.den S ρ).tR.getD (j.den S ρ).tI.toNat []).drop p))] from by simp [hx1, SC.den]]
    unfold opqV
    rw [<- g]
    simp only [SC.den, SV.den]
    generalize ((Zdg y j (.int (.ofNat (p + 3)))).den S ρ).tI = z3 at hl0 ⊢
    simp [builtin, Builtin.len_, ht0, run_underlying hu, SC.den, SV.den, goInt]; omega
   ·cases h
  ·rename_i x t ts hcal hargs hts
   have hr := hres _ hcal
   have ha1 : c.args = #[x] := by apply Array.ext'; simpa using hargs
   have ht0 : c.argTypes[0]? = some t := by rw [<- ZJc, hts]; rfl
   split at h
   ·rename_i e b o' k z l c' s hu hx; cases h
    have hx1 := R_one S ρ (hx ▸ hL x)
    obtain ⟨hl0, _⟩ := Za S ρ ha hns
    rw [eLe_den] at hl0
    simp only [SX.den, U.tIi] at hl0
    refine ⟨_, ?_, ZbS S ρ _⟩
    simp only [hr, ha1]
    simp [builtin, Builtin.cap_, ht0, run_underlying hu, hx1, SC.den, SV.den, goInt]; omega
   ·cases h
  ·rename_i x y hcal hargs
   have hr := hres _ hcal
   have ha1 : c.args = #[x, y] := by apply Array.ext'; simpa using hargs
   split at h
   ·rename_i k a k' b hx hy
    cases hk : Nat.beq (kn k) (kn k')
    ·rw [hk] at h; cases h
    rw [hk] at h; cases h
    have hx1 := R_one S ρ (hx ▸ hL x)
    have hy1 := R_one S ρ (hy ▸ hL y)
    refine ⟨_, ?_, ZbS S ρ _⟩
    simp only [hr, ha1]
    simp [builtin, Builtin.max_, Builtin.max2, hx1, hy1, SC.den, SV.den, SX.den, ap2]
   ·cases h
  ·rename_i x y hcal hargs
   have hr := hres _ hcal
   have ha1 : c.args = #[x, y] := by apply Array.ext'; simpa using hargs
   split at h
   ·rename_i k a k' b hx hy
    cases hk : Nat.beq (kn k) (kn k')
    ·rw [hk] at h; cases h
    rw [hk] at h; cases h
    have hx1 := R_one S ρ (hx ▸ hL x)
    have hy1 := R_one S ρ (hy ▸ hL y)
    refine ⟨_, ?_, ZbS S ρ _⟩
    simp only [hr, ha1]
    simp [builtin, Builtin.min_, Builtin.min2, hx1, hy1, SC.den, SV.den, SX.den, ap2]
   ·cases h
  ·cases h
 ·cases h
end
end
end Go.Eng
namespace Go.Eng
noncomputable section
/-! ### Sorts and substitution -/
def SX.srt : SX -> Srt
 | .int _ => .int | .bool _ => .bool | .byt _ => .bytes | .at s _ => s | .us s _ _ _ _ _ => s
 | .f1 f _ => (match f with
   | 2 | 20 | 21 | 22 | 23 | 24 | 25 | 26 | 27 => Srt.bool
   | 152 => Srt.ints
   | 153 | 36 => Srt.bytes
   | 154 => Srt.rows
   | 155 => Srt.amap
   | _ => Srt.int)
 | .f2 f _ _ => (match f with
   | 45 | 46 | 47 | 48 | 49 | 50 | 150 | 151 | 153 | 155 | 141 => Srt.bool
   | 113 | 116 | 119 | 122 | 125 => Srt.ints
   | 114 | 117 | 120 | 123 | 126 => Srt.bytes
   | 115 | 118 | 121 | 124 | 127 => Srt.rows
   | 143 => Srt.amap
   | _ => Srt.int)
 | .f3 f _ _ _ => (match f with
   | 130 => Srt.ints
   | 131 => Srt.bytes
   | 132 => Srt.rows
   | 134 => Srt.bool
   | 142 => Srt.amap
   | _ => Srt.int)
def sq (a b : Srt) : Bool := Nat.beq a.n b.n
def Zah : List SX -> Nat -> SX
 | [], _ => .int 0
 | e :: _, 0 => e
 | _ :: l, n + 1 => Zah l n
def SX.sub (d : Nat) (th : List SX) : SX -> SX
 | .at s i => bif Nat.blt i d then .at s i else Zah th (i - d)
 | .f1 f a => SX.mk1 f (a.sub d th)
 | .f2 f a b => SX.mkS2 f (a.sub d th) (b.sub d th)
 | .f3 f a b c => SX.mkS3 f (a.sub d th) (b.sub d th) (c.sub d th)
 | .us s f a b c e => .us s f (a.sub d th) (b.sub d th) (c.sub d th) (e.sub d th)
 | e => e
def SC.sub (d : Nat) (th : List SX) : SC -> SC
 | .int k e => .int k (e.sub d th) | .bool e => .bool (e.sub d th)
 | .ptr b o => .ptr (b.sub d th) o
 | .ep b o i s j => .ep (b.sub d th) (o.sub d th) (i.sub d th) s j
 | .slice b o k z l c s => .slice (b.sub d th) (o.sub d th) (k.sub d th) (z.sub d th) (l.sub d th) (c.sub d th) s
 | .str e => .str (e.sub d th) | .map b => .map (b.sub d th)
 | .fn f => .fn f | .cap g x => .cap (g.sub d th) (x.sub d th)
 | .nilfn => .nilfn | .nilif => .nilif | .ifc t v => .ifc t (v.sub d th)
 | .opq x i p => .opq (x.sub d th) (i.sub d th) p
def SV.sub (d : Nat) (th : List SX) : SV -> SV
 | .junk => .junk | .one c => .one (c.sub d th) | .agg cs => .agg (cs.map (SC.sub d th))
 | .tup vs => .tup (vs.map fun p => (p.1, p.2.map (SC.sub d th)))
def Ch.sub (d : Nat) (th : List SX) : Ch -> Ch
 | .cel b o cs => .cel (b.sub d th) o (cs.map (SC.sub d th))
 | .arr e b x c => .arr e (b.sub d th) (x.sub d th) (c.sub d th)
 | .ro e b o x => .ro e (b.sub d th) (o.sub d th) (x.sub d th)
 | .rd i e b o x c => .rd i e (b.sub d th) (o.sub d th) (x.sub d th) (c.sub d th)
 | .map kk v b m => .map kk v (b.sub d th) (m.sub d th)
 | .prd p k x => .prd p (k.sub d th) (x.sub d th)
 | .itr kk v b m r l c => .itr kk v (b.sub d th) (m.sub d th) (r.sub d th) (l.sub d th) (c.sub d th)
def SX.wf (d : Nat) (ss : List Srt) : SX -> Bool
 | .at s i => bif Nat.blt i d then true else (match ss[i - d]? with | some t => sq s t | none => false)
 | .f1 _ a => a.wf d ss
 | .f2 _ a b => bif a.wf d ss then b.wf d ss else false
 | .f3 _ a b c => bif a.wf d ss then (bif b.wf d ss then c.wf d ss else false) else false
 | .us _ _ a b c e => bif a.wf d ss then (bif b.wf d ss then (bif c.wf d ss then e.wf d ss else false) else false) else false
 | _ => true
def SC.wf (d : Nat) (ss : List Srt) : SC -> Bool
 | .int _ e | .bool e | .str e | .map e => e.wf d ss
 | .ptr b _ => b.wf d ss
 | .ep b o i _ _ => bif b.wf d ss then (bif o.wf d ss then i.wf d ss else false) else false
 | .slice b o k z l c _ => bif b.wf d ss then (bif o.wf d ss then (bif k.wf d ss then (bif z.wf d ss then (bif l.wf d ss then c.wf d ss else false) else false) else false) else false) else false
 | .fn _ | .nilfn | .nilif => true
 | .opq x i _ => bif x.wf d ss then i.wf d ss else false
 | .cap g x => bif g.wf d ss then x.wf d ss else false
 | .ifc _ v => v.wf d ss
def SV.wf (d : Nat) (ss : List Srt) : SV -> Bool
 | .junk => true | .one c => c.wf d ss | .agg cs => cs.all (SC.wf d ss)
 | .tup vs => vs.all fun p => p.2.all (SC.wf d ss)
def Ch.wf (d : Nat) (ss : List Srt) : Ch -> Bool
 | .cel b _ cs => bif b.wf d ss then cs.all (SC.wf d ss) else false
 | .arr _ b x c => bif b.wf d ss then (bif x.wf d ss then c.wf d ss else false) else false
 | .ro _ b o x => bif b.wf d ss then (bif o.wf d ss then x.wf d ss else false) else false
 | .rd _ _ b o x c => bif b.wf d ss then (bif o.wf d ss then (bif x.wf d ss then c.wf d ss else false) else false) else false
 | .map _ _ b m => bif b.wf d ss then m.wf d ss else false
 | .prd _ k x => bif k.wf d ss then x.wf d ss else false
 | .itr _ _ b m r l c => bif b.wf d ss then (bif m.wf d ss then (bif r.wf d ss then (bif l.wf d ss then c.wf d ss else false) else false) else false) else false
def Zvu : List SX -> List Srt -> Bool
 | [], [] => true
 | e :: l, s :: m => bif sq e.srt s then Zvu l m else false
 | _, _ => false
/-! ### Contracts -/
structure Ctr where
 ss : List Srt
 args : List SV
 pre : List Ch
 reqs : List SX
 ps : List Srt
 res : SV
 post : List Ch
 facts : List SX
 deriving Inhabited
def Ctr.wf (sp : Ctr) : Bool :=
 bif sp.args.all (SV.wf 0 sp.ss) then (bif sp.pre.all (Ch.wf 0 sp.ss) then (bif sp.reqs.all (SX.wf 0 sp.ss) then
  (bif sp.res.wf 0 (sp.ss ++ sp.ps) then (bif sp.post.all (Ch.wf 0 (sp.ss ++ sp.ps)) then sp.facts.all (SX.wf 0 (sp.ss ++ sp.ps)) else false) else false) else false) else false) else false
/-! ### Binding (no word of this part is leant on: what it finds is checked) -/
structure MS where
 d : Nat
 ss : List Srt
 th : List (Option SX)
 deriving Inhabited
def getO : List (Option SX) -> Nat -> Option (Option SX)
 | [], _ => none
 | e :: _, 0 => some e
 | _ :: l, n + 1 => getO l n
def setO : List (Option SX) -> Nat -> SX -> List (Option SX)
 | [], _, _ => []
 | _ :: l, 0, v => some v :: l
 | s :: l, n + 1, v => s :: setO l n v
def bdX (m : MS) (p e : SX) : MS :=
 match p with
 | .at s i => bif Nat.blt i m.d then m else (match getO m.th (i - m.d) with
  | some none => bif sq s e.srt then { m with th := setO m.th (i - m.d) e } else m
  | _ => m)
 | .f2 40 a (.int n) => bdX m a (SX.mk2 40 e (.int (-n)))
 | .f2 124 a l => (match e with | .f2 124 a' l' => bdX (bdX m a a') l l' | _ => m)
 | .f2 122 a l => (match e with | .f2 122 a' l' => bdX (bdX m a a') l l' | _ => m)
 | .f2 121 a l => (match e with | .f2 121 a' l' => bdX (bdX m a a') l l' | _ => m)
 | _ => m
def bdC (m : MS) : SC -> SC -> MS
 | .int _ a, .int _ b => bdX m a b
 | .bool a, .bool b => bdX m a b
 | .ptr a _, .ptr b _ => bdX m a b
 | .ep b o i _ _, .ep b' o' i' _ _ => bdX (bdX (bdX m b b') o o') i i'
 | .slice b o k z l c _, .slice b' o' k' z' l' c' _ => bdX (bdX (bdX (bdX (bdX (bdX m b b') o o') k k') z z') l l') c c'
 | .str a, .str b => bdX m a b
 | .map a, .map b => bdX m a b
 | .cap g x, .cap g' x' => bdC (bdC m g g') x x'
 | .ifc _ v, .ifc _ v' => bdC m v v'
 | .opq x i _, .opq x' i' _ => bdX (bdX m x x') i i'
 | _, _ => m
def bdCs (m : MS) : List SC -> List SC -> MS
 | a :: l, b :: k => bdCs (bdC m a b) l k
 | _, _ => m
def bdTs (m : MS) : List (Bool × List SC) -> List (Bool × List SC) -> MS
 | a :: l, b :: k => bdTs (bdCs m a.2 b.2) l k
 | _, _ => m
def bdV (m : MS) : SV -> SV -> MS
 | .one a, .one b => bdC m a b
 | .agg a, .agg b => bdCs m a b
 | .tup a, .tup b => bdTs m a b
 | _, _ => m
def bdVs (m : MS) : List SV -> List SV -> MS
 | a :: l, b :: k => bdVs (bdV m a b) l k
 | _, _ => m
def thNow (m : MS) : List SX := m.th.map fun o => match o with | some e => e | none => .at .g 999999
def unb (m : MS) : SX -> Bool
 | .at _ i => bif Nat.blt i m.d then false else (match getO m.th (i - m.d) with | some none => true | _ => false)
 | .f1 _ a => unb m a
 | .f2 _ a b => bif unb m a then true else unb m b
 | .f3 _ a b c => bif unb m a then true else bif unb m b then true else unb m c
 | .us _ _ a b c e => bif unb m a then true else bif unb m b then true else bif unb m c then true else unb m e
 | _ => false
def keyOk (m : MS) (p c : Ch) : Bool :=
 let s (e : SX) : SX := e.sub m.d (thNow m)
 match p, c with
 | .cel b o cs, .cel b' o' cs' => bif Nat.beq o o' then (bif Nat.beq cs.length cs'.length then SX.bq (s b) b' else false) else false
 | .arr e b _ _, .arr e' b' _ _ => bif decide (e = e') then SX.bq (s b) b' else false
 | .ro e b _ _, .ro e' b' _ _ => bif decide (e = e') then SX.bq (s b) b' else false
 | .rd _ e b _ _ _, .ro e' b' _ _ => bif decide (e = e') then SX.bq (s b) b' else false
 | .rd _ e b _ _ _, .arr e' b' _ _ => bif decide (e = e') then SX.bq (s b) b' else false
 | .rd _ e b _ _ _, .rd _ e' b' _ _ _ => bif decide (e = e') then SX.bq (s b) b' else false
 | .map _ _ b _, .map _ _ b' _ => SX.bq (s b) b'
 | .itr _ _ b _ r _ _, .itr _ _ b' _ r' _ _ => bif SX.bq (s b) b' then SX.bq (s r) r' else false
 | .prd p k _, .prd p' k' _ => bif Nat.beq p p' then (bif unb m k then true else SX.bq (s k) k') else false
 | _, _ => false
def Zq1 (e : En) : SX := .f1 (152 + e.t) (.int 0)
def bdCh (m : MS) (hp : List Ch) (p : Ch) : MS :=
 match hp.find? (keyOk m p), p with
 | some (.cel b' _ cs'), .cel b _ cs => bdCs (bdX m b b') cs cs'
 | some (.arr _ b' x' c'), .arr _ b x c => bdX (bdX (bdX m b b') x x') c c'
 | some (.ro _ b' o' x'), .ro _ b o x => bdX (bdX (bdX m b b') o o') x x'
 | some (.ro _ b' o' x'), .rd _ _ b o x c => bdX (bdX (bdX (bdX m b b') o o') x x') c (.int 0)
 | some (.arr _ b' x' c'), .rd _ _ b o x c => bdX (bdX (bdX (bdX m b b') o (.int 0)) x x') c c'
 | some (.rd _ _ b' o' x' c'), .rd _ _ b o x c => bdX (bdX (bdX (bdX m b b') o o') x x') c c'
 | some (.map _ _ b' k'), .map _ _ b k => bdX (bdX m b b') k k'
 | some (.prd _ k' x'), .prd _ k x => bdX (bdX m k k') x x'
 | some (.itr _ _ b' k' r' l' c'), .itr _ _ b k r l c => bdX (bdX (bdX (bdX (bdX m b b') k k') r r') l l') c c'
 | none, .arr e b x c => bdX (bdX m x (Zq1 e)) c (.int 0)
 | none, .ro e b o x => bdX m x (Zq1 e)
 | none, .rd _ e b o x c => bdX (bdX (bdX m x (Zq1 e)) c (.int 0)) o (.int 0)
 | _, _ => m
def Zzv (m : MS) (hp : List Ch) : List Ch -> MS
 | [] => m
 | p :: l => Zzv (bdCh m hp p) hp l
def Zi6 : List (Option SX) -> Option (List SX)
 | [] => some []
 | some e :: l => (match Zi6 l with | some r => some (e :: r) | none => none)
 | none :: _ => none
/-! ### Checking what was found -/
def ob {α β : Type} (o : Option α) (f : α -> Option β) : Option β := match o with | some a => f a | none => none
def eqX (asm : List SX) (a b : SX) (ns : List SX) : Option (List SX) :=
 bif SX.bq a b then some ns else (bif (bif sq a.srt .int then sq b.srt .int else false) then some (need asm (SX.mk2 45 a b) ns) else bif sq a.srt b.srt then some (need asm (.f2 155 a b) ns) else none)
def eqC (asm : List SX) (ns : List SX) : SC -> SC -> Option (List SX)
 | .int k a, .int k' b => bif Nat.beq (kn k) (kn k') then eqX asm a b ns else none
 | .bool a, .bool b => eqX asm a b ns
 | .ptr b o, .ptr b' o' => bif Nat.beq o o' then eqX asm b b' ns else none
 | .ep b o i s j, .ep b' o' i' s' j' => bif (bif Nat.beq s s' then Nat.beq j j' else false) then
   ob (eqX asm b b' ns) fun ns => ob (eqX asm o o' ns) fun ns => eqX asm i i' ns else none
 | .slice b o k z l c s, .slice b' o' k' z' l' c' s' =>
   bif (bif Nat.beq s s' then true else (bif SX.bq k (.int 0) then (bif SX.bq z (.int 0) then (bif SX.bq k' (.int 0) then SX.bq z' (.int 0) else false) else false) else false)) then
   ob (eqX asm b b' ns) fun ns => ob (eqX asm o o' ns) fun ns => ob (eqX asm k k' ns) fun ns => ob (eqX asm z z' ns) fun ns => ob (eqX asm l l' ns) fun ns => eqX asm c c' ns else none
 | .str a, .str b => eqX asm a b ns
 | .map a, .map b => eqX asm a b ns
 | .fn f, .fn g => bif Nat.beq f g then some ns else none
 | .cap g x, .cap g' x' => ob (eqC asm ns g g') fun ns => eqC asm ns x x'
 | .nilfn, .nilfn => some ns
 | .nilif, .nilif => some ns
 | .opq x i p, .opq x' i' p' => bif Nat.beq p p' then ob (eqX asm x x' ns) fun ns => eqX asm i i' ns else none
 | .ifc t v, .ifc t' v' => bif Nat.beq t t' then eqC asm ns v v' else none
 | _, _ => none
def ZIw (asm : List SX) : List SX -> List SC -> List SC -> Option (List SX)
 | ns, [], [] => some ns
 | ns, a :: l, b :: m => ob (eqC asm ns a b) fun ns => ZIw asm ns l m
 | _, _, _ => none
def ZGY (asm : List SX) : List SX -> List (Bool × List SC) -> List (Bool × List SC) -> Option (List SX)
 | ns, [], [] => some ns
 | ns, a :: l, b :: m => bif bbq a.1 b.1 then ob (ZIw asm ns a.2 b.2) fun ns => ZGY asm ns l m else none
 | _, _, _ => none
def eqV (asm : List SX) (ns : List SX) : SV -> SV -> Option (List SX)
 | .junk, _ => some ns
 | .one a, .one b => eqC asm ns a b
 | .agg a, .agg b => ZIw asm ns a b
 | .tup a, .tup b => ZGY asm ns a b
 | _, _ => none
def eqVs (asm : List SX) : List SX -> List SV -> List SV -> Option (List SX)
 | ns, [], [] => some ns
 | ns, a :: l, b :: m => ob (eqV asm ns a b) fun ns => eqVs asm ns l m
 | _, _, _ => none
inductive RK where
 | ro
 | arr
 | rd (j : Nat)
 deriving Inhabited
def eqCh (asm ns : List SX) : Ch -> Ch -> Option (List SX × Bool × Option (Nat × RK))
 | .cel b o cs, .cel b' o' cs' => bif Nat.beq o o' then ob (eqX asm b b' ns) fun ns => ob (ZIw asm ns cs cs') fun ns => some (ns, true, none) else none
 | .arr e b x c, .arr e' b' x' c' => bif decide (e = e') then ob (eqX asm b b' ns) fun ns => ob (eqX asm x x' ns) fun ns => ob (eqX asm c c' ns) fun ns => some (ns, true, none) else none
 | .ro e b o x, .ro e' b' o' x' => bif decide (e = e') then ob (eqX asm b b' ns) fun ns => ob (eqX asm o o' ns) fun ns => ob (eqX asm x x' ns) fun ns => some (ns, false, none) else none
 | .rd i e b o x c, .ro e' b' o' x' => bif decide (e = e') then ob (eqX asm b b' ns) fun ns => ob (eqX asm o o' ns) fun ns => ob (eqX asm x x' ns) fun ns => some (ns, false, some (i, .ro)) else none
 | .rd i e b o x c, .arr e' b' x' c' => bif (bif decide (e = e') then SX.bq o (.int 0) else false) then
   ob (eqX asm b b' ns) fun ns => ob (eqX asm x x' ns) fun ns => ob (eqX asm c c' ns) fun ns => some (ns, true, some (i, .arr)) else none
 | .rd i e b o x c, .rd j e' b' o' x' c' => bif decide (e = e') then
   ob (eqX asm b b' ns) fun ns => ob (eqX asm o o' ns) fun ns => ob (eqX asm x x' ns) fun ns => ob (eqX asm c c' ns) fun ns => some (ns, true, some (i, .rd j)) else none
 | .map kk v b m, .map kk' v' b' m' => bif (bif MK.bq kk kk' then decide (v = v') else false) then ob (eqX asm b b' ns) fun ns => ob (eqX asm m m' ns) fun ns => some (ns, true, none) else none
 | .prd p k x, .prd p' k' x' => bif Nat.beq p p' then ob (eqX asm k k' ns) fun ns => ob (eqX asm x x' ns) fun ns => some (ns, true, none) else none
 | .itr kk v b m r l c, .itr kk' v' b' m' r' l' c' => bif (bif MK.bq kk kk' then decide (v = v') else false) then ob (eqX asm b b' ns) fun ns => ob (eqX asm m m' ns) fun ns =>
   ob (eqX asm r r' ns) fun ns => ob (eqX asm l l' ns) fun ns => ob (eqX asm c c' ns) fun ns => some (ns, true, none) else none
 | _, _ => none
def Znc : Ch -> Ch -> Bool
 | .cel b o cs, .cel b' o' cs' => bif Nat.beq o o' then (bif Nat.beq cs.length cs'.length then SX.bq b b' else false) else false
 | .arr e b _ _, .arr e' b' _ _ => bif decide (e = e') then SX.bq b b' else false
 | .ro e b o _, .ro e' b' o' _ => bif decide (e = e') then (bif SX.bq b b' then SX.bq o o' else false) else false
 | .rd _ e b o _ _, .ro e' b' o' _ => bif decide (e = e') then (bif SX.bq b b' then SX.bq o o' else false) else false
 | .rd _ e b _ _ _, .arr e' b' _ _ => bif decide (e = e') then SX.bq b b' else false
 | .rd _ e b o _ _, .rd _ e' b' o' _ _ => bif decide (e = e') then (bif SX.bq b b' then SX.bq o o' else false) else false
 | .map _ _ b _, .map _ _ b' _ => SX.bq b b'
 | .itr _ _ b _ r _ _, .itr _ _ b' _ r' _ _ => bif SX.bq b b' then SX.bq r r' else false
 | .prd p k _, .prd p' k' _ => bif Nat.beq p p' then SX.bq k k' else false
 | _, _ => false
def Zww : Ch -> Option (Option (Nat × RK))
 | .arr e b x c => bif SX.bq x (Zq1 e) then (bif SX.bq c (.int 0) then some none else none) else none
 | .ro e b o x => bif SX.bq x (Zq1 e) then some none else none
 | .rd i e b o x c => bif SX.bq x (Zq1 e) then (bif SX.bq c (.int 0) then (bif SX.bq o (.int 0) then some (some (i, .arr)) else none) else none) else none
 | .cel _ _ [] => none
 | _ => none
def ZeN (asm ns : List SX) (p : Ch) : List Ch -> Option (List SX × List Ch × Option (Nat × RK))
 | [] => (match Zww p with | some k => some (ns, [], k) | none => none)
 | c :: l => bif Znc p c then (match eqCh asm ns p c with
    | some (ns, used, k) => some (ns, bif used then l else c :: l, k)
    | none => none)
   else (match ZeN asm ns p l with | some (ns, l', k) => some (ns, c :: l', k) | none => none)
def ZDB {α : Type} : Option α -> List α -> List α | some a, l => a :: l | none, l => l
def Zba (asm : List SX) : List SX -> List Ch -> List Ch -> Option (List SX × List Ch × List (Nat × RK))
 | ns, [], hp => some (ns, hp, [])
 | ns, p :: l, hp => (match ZeN asm ns p hp with
  | some (ns, hp, k) => (match Zba asm ns l hp with | some (ns, hp, ks) => some (ns, hp, ZDB k ks) | none => none)
  | none => none)
def ZIU : List (Nat × RK) -> Bool
 | [] => true
 | (i, _) :: l => bif l.any (fun p => Nat.beq p.1 i) then false else ZIU l
def ZAw : List (Nat × RK) -> Nat -> Option RK
 | [], _ => none
 | (i, k) :: l, j => bif Nat.beq i j then some k else ZAw l j
def Zc1 (ks : List (Nat × RK)) : List Ch -> Option (List Ch)
 | [] => some []
 | .rd i e b o x c :: l => (match ZAw ks i, Zc1 ks l with
  | some .ro, some r => some r
  | some .arr, some r => some (.arr e b x c :: r)
  | some (.rd j), some r => some (.rd j e b o x c :: r)
  | _, _ => none)
 | c :: l => (match Zc1 ks l with | some r => some (c :: r) | none => none)
/-! ### Verification conditions -/
def VC.needs : List SX -> VC -> VC
 | [], k => k
 | e :: l, k => .need e (VC.needs l k)
def VC.imps : List SX -> VC -> VC
 | [], k => k
 | e :: l, k => .imp e (VC.imps l k)
def VC.alls : Nat -> List Srt -> VC -> VC
 | _, [], k => k
 | n, s :: l, k => .all n s (VC.alls (n + 1) l k)
def ats : Nat -> List Srt -> List SX
 | _, [] => []
 | n, s :: l => .at s n :: ats (n + 1) l
def fresh (st : St) (ss : List Srt) (facts : List SX) (k : VC) : VC :=
 bif st.ok then VC.alls st.n ss (VC.imps facts k) else .ff 1
def St.add (st : St) (ns : List SX) : St := { st with asm := ns ++ st.asm }
def Zfq (st : St) (sp : Ctr) (args : List SV) (K : SV -> St -> VC) : Option VC :=
 let m := Zzv (bdVs ⟨0, sp.ss, sp.ss.map fun _ => none⟩ sp.args args) st.hp sp.pre
 match Zi6 m.th with
 | none => none
 | some th => bif Zvu th sp.ss then
   (match eqVs st.asm [] (sp.args.map (SV.sub 0 th)) args with
   | none => none
   | some ns => (match Zba st.asm ns (sp.pre.map (Ch.sub 0 th)) st.hp with
    | none => none
    | some (ns, rest, ks) =>
     let ns := (sp.reqs.map (SX.sub 0 th)).foldr (need st.asm) ns
     let th' := th ++ ats st.n sp.ps
     let facts := sp.facts.map (SX.sub 0 th')
     match Zc1 ks (sp.post.map (Ch.sub 0 th')) with
     | none => none
     | some back => bif (bif th.all (SX.lt st.n) then ZIU ks else false) then
      some (VC.needs ns (fresh (st.add ns) sp.ps facts (K (sp.res.sub 0 th') { st with hp := back ++ rest, n := st.n + sp.ps.length, asm := facts ++ (ns ++ st.asm) })))
      else none))
  else none
def ZGn (asm : List SX) : VC -> Bool
 | .need e k => bif ZaP (Zef e) asm then true else ZGn asm k
 | _ => false
def Zwb (asm : List SX) (l : List Ctr) (v : VC) : Bool := match l with | [] => false | _ => ZGn asm v
def Y9 (st : St) (args : List SV) (K : SV -> St -> VC) : List Ctr -> VC
 | [] => .ff 2
 | sp :: l => (match Zfq st sp args K with | some v => (bif Zwb st.asm l v then Y9 st args K l else v) | none => Y9 st args K l)
end
end Go.Eng
namespace Go.Eng
noncomputable section
/-! ### What arrays hold, by their elements' type -/
section
variable (P : Program)
def fdOf (t : TypeId) : Option Fd :=
 match P.underlying t with
 | some (.int k) => some (.int k)
 | some .bool => some .bool
 | some (.pointer _) => some .ptr
 | some (.slice e) => (match Za9 P e with | some s => some (.slice s) | none => none)
 | some (.map _ _) => some .map
 | some .string => some .str
 | _ => none
def ZDM : Nat -> TypeId -> Option (List Fd)
 | 0, _ => none
 | f + 1, t =>
  match P.underlying t with
  | some (.struct fs) => (fs.toList.foldr (fun fd acc => match ZDM f fd.type, acc with | some a, some b => some (a ++ b) | _, _ => none) (some []))
  | some (.array n e) => (match ZDM f e with | some a => some ((List.replicate n a).flatten) | none => none)
  | _ => (match fdOf P t with | some d => some [d] | none => none)
def ZFG (t : TypeId) : Option En :=
 match P.underlying t with
 | some (.int .u8) => some .bytes
 | some (.int k) => some (.ints k)
 | _ => (match ZDM P 10 t with | some fs => some (.rows fs) | none => none)
def Fd.enc : Fd -> SC -> Option (List SX)
 | .int k, .int k' e => bif Nat.beq (kn k) (kn k') then some [e] else none
 | .bool, .bool e => some [SX.mk1 3 e]
 | .ptr, .ptr b o => bif Nat.beq o 0 then some [b] else none
 | .slice _, .slice b o k z l c _ => bif SX.bq o (.int 0) then (bif SX.bq k (.int 0) then (bif SX.bq z (.int 0) then some [b, l, c] else none) else none) else none
 | .map, .map b => some [b]
 | .str, .str e => some [SX.mk1 35 e]
 | .slo _, .opq x i p => some [.f3 112 x i (.int (.ofNat p)), .f3 112 x i (.int (.ofNat (p + 1))), .f3 112 x i (.int (.ofNat (p + 2))), .f3 112 x i (.int (.ofNat (p + 3))), .f3 112 x i (.int (.ofNat (p + 4)))]
 | _, _ => none
def enP (en : En) (L : Operand -> SV) (parts : List (Nat × Operand)) : En :=
 match en, parts with
 | .rows [.slice s], p :: _ => (match L p.2 with | .one (.opq _ _ _) => .rows [.slo s] | _ => .rows [.slice s])
 | en, _ => en
def ZrW : List Fd -> List SC -> Option (List SX)
 | [], [] => some []
 | f :: fs, c :: cs => ob (f.enc c) fun a => ob (ZrW fs cs) fun b => some (a ++ b)
 | _, _ => none
def En.el (asm : List SX) (e : En) (cs : List SC) : Option (List SX × SX) :=
 match e, cs with
 | .ints k, [.int k' x] => bif Nat.beq (kn k) (kn k') then some ([], x) else none
 | .bytes, [.int .u8 x] => some (bif Zim x then [] else (match x with | .f1 14 _ => [] | x => need asm (eLe (.int 0) x) (need asm (eLe x (.int 255)) [])), x)
 | .rows fs, cs => ob (ZrW fs cs) fun l => some ([], Zun l)
 | _, _ => none
def En.consX (e : En) (el l : SX) : SX := SX.consT e.t el l
def En.appX (e : En) (a b : SX) : SX := SX.appT e.t a b
def En.takeX (e : En) (x n : SX) : SX := bif SX.bq n (e.lenX x) then x else (match n with | .int (.ofNat k) => SX.takeT e.t x k | n => .f2 (113 + e.t) x n)
def En.dropX (e : En) (x n : SX) : SX := bif SX.bq n (.int 0) then x else (match n with | .int (.ofNat k) => SX.dropT e.t x k | n => .f2 (116 + e.t) x n)
def En.repX (e : En) (n el : SX) : SX := SX.repT e.t n el
def En.setX (e : En) (x i el : SX) : SX := match i with | .int (.ofNat k) => SX.setT e.t el x k | i => .f3 (130 + e.t) x i el
def ZlX (e : En) (t : TypeId) : Option SX :=
 match ZbX P t with
 | some cs => (match En.el [] e cs with | some ([], x) => some x | _ => none)
 | none => none
def Zes (t : TypeId) : Option Nat := match P.info? t with | some i => some i.bytes | none => none
end
/-! ### Changing the chunks -/
def ZcR (b : SX) (lo : Nat) (cs : List SC) : List Ch -> Option (List Ch)
 | [] => none
 | .cel b' o old :: l => bif SX.bq b' b then (bif Nat.ble o lo then (bif Nat.ble (lo + cs.length) (o + old.length) then
    (match Zav old (lo - o) cs with | some new => some (.cel b' o new :: l) | none => none)
   else ob (ZcR b lo cs l) fun r => some (.cel b' o old :: r)) else ob (ZcR b lo cs l) fun r => some (.cel b' o old :: r)) else ob (ZcR b lo cs l) fun r => some (.cel b' o old :: r)
 | c :: l => ob (ZcR b lo cs l) fun r => some (c :: r)
def ZaR (b : SX) : List Ch -> Option (En × SX × SX × List Ch)
 | [] => none
 | .arr e b' x c :: l => bif SX.bq b' b then some (e, x, c, l) else ob (ZaR b l) fun (e', x', c', r) => some (e', x', c', .arr e b' x c :: r)
 | c :: l => ob (ZaR b l) fun (e', x', c', r) => some (e', x', c', c :: r)
def ZaC (b : SX) : List Ch -> Option (MK × MV × SX × List Ch)
 | [] => none
 | .map kk v b' m :: l => bif SX.bq b' b then some (kk, v, m, l) else ob (ZaC b l) fun (a, a', a'', r) => some (a, a', a'', .map kk v b' m :: r)
 | c :: l => ob (ZaC b l) fun (a, a', a'', r) => some (a, a', a'', c :: r)
def ZbE (r : SX) : List Ch -> Option (MK × MV × SX × SX × SX × SX × List Ch)
 | [] => none
 | .itr kk v b m r' l c :: t => bif SX.bq r' r then some (kk, v, b, m, l, c, t) else ob (ZbE r t) fun (a1, a2, a3, a4, a5, a6, q) => some (a1, a2, a3, a4, a5, a6, .itr kk v b m r' l c :: q)
 | d :: t => ob (ZbE r t) fun (a1, a2, a3, a4, a5, a6, q) => some (a1, a2, a3, a4, a5, a6, d :: q)
def ZAg (v : MV) (e : SX) : Option (Bool × List SC) :=
 match v with
 | .one (.int k) => some (false, [.int k e])
 | .one .bool => some (false, [.bool (SX.mk1 2 (SX.mk2 45 e (.int 0)))])
 | .one .ptr => some (false, [.ptr e 0])
 | .one .map => some (false, [.map e])
 | .sb => some (true, sbSC e)
 | _ => none
def mkOf (d : TypeDesc) : Option MK := match d with | .int k => some (.int k) | .string => some .str | _ => none
def mvOf (P : Program) (t : TypeId) : Option MV :=
 match P.underlying t with
 | some (.struct fs) => (match fs.toList with
  | [f, g] => (match P.underlying f.type, P.underlying g.type with
   | some .string, some .bool => bif Nat.beq f.offset 0 then (bif Nat.beq g.offset 1 then some .sb else none) else none
   | _, _ => none)
  | _ => none)
 | _ => (match fdOf P t with | some f => some (.one f) | none => none)
def MV.enc : MV -> SV -> Option SX
 | .one f, .one c => (match f.enc c with | some [e] => some e | _ => none)
 | .sb, .agg [.str s, .bool b] => some (SX.mk2 40 (SX.mk2 42 (SX.mk1 35 s) (.int 2)) (SX.mk1 3 b))
 | _, _ => none
def MK.atS : MK -> Srt | .int _ => .int | .str => .bytes
def MK.atX (n : Nat) : MK -> SX | .int _ => .at .int n | .str => .f1 35 (.at .bytes n)
def MK.atC (n : Nat) : MK -> SC | .int k => .int k (.at .int n) | .str => .str (.at .bytes n)
def MK.keyC : MK -> SX -> SC
 | .int k, e => .int k e
 | .str, e => .str (match e with | .f1 35 (.at .bytes n) => .at .bytes n | e => SX.mk1 36 e)
def Zls : SX := .int 140737488355328
def ZzL (hp : List Ch) (asm : List SX) : SV -> Option (En × SX × SX × List SX)
 | .one (.slice b o k z l c s) => bif Zn b then none else ob (ZU b o s hp) fun (e, x) =>
   some (e, l, e.takeX (e.dropX x k) l, need asm (eLe (.int 0) k) (need asm (eLe (.int 0) l) (need asm (eLe l c) (need asm (eLe (SX.mk2 40 k l) (e.lenX x)) []))))
 | .one (.str t) => some (.bytes, SX.mk1 31 t, t, [])
 | _ => none
def Zur : SV -> SV -> Option SX
 | .one (.slice b _ _ _ l _ _), .one (.slice b' _ _ _ _ _ _) => bif SX.bq b b' then some l else none
 | _, _ => none
def ZCe (hp : List Ch) (asm : List SX) (lim : SX) : SV -> Option (En × SX × SX × List SX)
 | .one (.slice b o k z l c s) => bif Zn b then none else ob (ZU b o s hp) fun (e, x) =>
   some (e, l, e.takeX (e.dropX x k) (SX.mk2 51 l lim), need asm (eLe (.int 0) k) (need asm (eLe (.int 0) l) (need asm (eLe l c) (need asm (eLe (SX.mk2 40 k (SX.mk2 51 l lim)) (e.lenX x)) []))))
 | _ => none
def srcC (hp : List Ch) (asm : List SX) (d : SV) (s : SV) : Option (En × SX × SX × List SX) :=
 match Zur d s with | some lim => ZCe hp asm lim s | none => ZzL hp asm s
section
variable (P : Program)
def ZEV (en : En) (hp : List Ch) (asm : List SX) (src : SV) : Option (En × SX × SX × List SX) :=
 match src with
 | .one (.slice (.int (.negSucc _)) _ _ _ (.int (.ofNat 0)) _ _) => some (en, SX.int 0, Zq1 en, [])
 | .one (.opq x i p) => some (en, SX.int 0, Zq1 en, need asm (eEq (Zdg x i (.int (.ofNat (p + 3)))) (.int 0)) [])
 | v => ZzL hp asm v
def Zms (b n : SX) : SX := match n with | .int (.ofNat (_ + 1)) => eLe (.int 0) b | n => .f2 50 (eLe (.int 0) b) (eEq n (.int 0))
def ZeZ (t : TypeId) (n : Nat) : Bool := match P.info? t with | some i => (match i.zero with | some z => bif Nat.beq z.cells.size n then Nat.ble 1 n else false | none => false) | none => false
def Zmy (hp : List Ch) (asm : List SX) (t : TypeId) (dst src : SV) : Option (List SX × List Ch × En × SX × SX × SX × Nat) :=
 match dst, P.underlying t with
 | .one (.slice b o k z l c s), some (.slice et) =>
  ob (Zes P et) fun bytes => ob (ZFG P et) fun en => ob (Za9 P et) fun sz =>
  bif (bif ZeZ P et sz then (bif Nat.ble 1 bytes then (bif Nat.beq sz en.stride then (bif SX.bq k (.int 0) then SX.bq z (.int 0) else false) else false) else false) else false) then
  ob (ZEV en hp asm src) fun (e2, n, y, ns) =>
  bif decide (e2 = en) then
   ob (bif Zn b then (bif SX.bq c (.int 0) then some (en, Zq1 en, SX.int 0, hp) else none) else ZaR b hp) fun (e1, x, cap, rest) =>
   bif (bif decide (e1 = en) then (bif Zn b then true else (bif SX.bq o (.int 0) then SX.bq c cap else false)) else false) then
    some (need asm (eLe (.int 0) l) (need asm (eLe l (en.lenX x)) (need asm (eLe (SX.mk2 42 (SX.mk2 40 l n) (.int bytes)) Zls) ns)),
     rest, en, en.appX (en.takeX x l) y, SX.mk2 40 l n, cap, sz)
   else none
  else none else none
 | _, _ => none
def sure (asm : List SX) (e : SX) : Bool := match e with | .bool b => b | e => ZaP e asm
def ZjK (hp : List Ch) (asm : List SX) (t : TypeId) (dst src : SV) : Option (List SX × List Ch × SV) :=
 match dst, P.underlying t with
 | .one (.slice b o k z l c s), some (.slice et) =>
  ob (ZFG P et) fun en => ob (Za9 P et) fun sz =>
  bif (bif Nat.beq sz en.stride then (bif Nat.beq s sz then SX.bq o (.int 0) else false) else false) then
  ob (ZEV en hp asm src) fun (e2, n, y, ns) =>
  ob (ZaR b hp) fun (e1, x, cap, rest) =>
  bif (bif decide (e2 = en) then decide (e1 = en) else false) then
   bif (bif sure asm (eLe (SX.mk2 40 l n) c) then true else bif SX.bq c (SX.mk2 41 cap k) then sure asm (eLe (SX.mk2 40 (SX.mk2 40 k l) n) (en.lenX x)) else false) then
    some (need asm (eLe (.int 0) k) (need asm (eLe (.int 0) l) (need asm (eLe (SX.mk2 40 l n) c) (need asm (eLe (SX.mk2 40 k l) (en.lenX x)) (need asm (eLe (SX.mk2 40 (SX.mk2 40 k l) n) cap) ns)))),
     .arr en b (en.appX (en.takeX x (SX.mk2 40 k l)) (en.appX y (en.dropX x (SX.mk2 40 (SX.mk2 40 k l) n)))) cap :: rest, .one (.slice b o k z (SX.mk2 40 l n) c s))
   else none
  else none else none
 | _, _ => none
def ZAp (asm : List SX) (c : SX) : Bool :=
 match c with
 | .int _ => false
 | c => asm.any fun e => match e with | .f2 46 a _ => SX.bq a c | _ => false
def ZmZ (hp : List Ch) (asm : List SX) (t : TypeId) (dst src : SV) : Option (List SX × En × SX × SX × Nat) :=
 match dst, P.underlying t with
 | .one (.slice b o k z l c s), some (.slice et) =>
  bif ZAp asm c then
  ob (Zes P et) fun bytes => ob (ZFG P et) fun en => ob (Za9 P et) fun sz =>
  bif (bif ZeZ P et sz then (bif Nat.ble 1 bytes then Nat.beq sz en.stride else false) else false) then
  ob (ZEV en hp asm dst) fun (e1, n1, y1, ns1) => ob (ZEV en hp asm src) fun (e2, n2, y2, ns2) =>
  bif (bif decide (e1 = en) then decide (e2 = en) else false) then
   some (need asm (eLt c (SX.mk2 40 l n2)) (need asm (eLe l c) (need asm (eLe (.int 0) l) (need asm (eLe (SX.mk2 42 (SX.mk2 40 l n2) (.int bytes)) Zls) (ns1 ++ ns2)))), en, en.appX y1 y2, SX.mk2 40 l n2, sz)
  else none else none else none
 | _, _ => none
def ZmM (hp : List Ch) (asm : List SX) (t t2 : TypeId) (dst src : SV) : Option (List SX × En × SX × SX × Nat) :=
 match dst, P.underlying t, src, P.underlying t2 with
 | .one (.slice b o k z l c s), some (.slice et), .one (.int _ e), some (.int _) =>
  bif ZAp asm c then
  ob (Zes P et) fun bytes => ob (ZFG P et) fun en => ob (Za9 P et) fun sz => ob (ZlX P en et) fun ze =>
  bif (bif ZeZ P et sz then (bif Nat.ble 1 bytes then Nat.beq sz en.stride else false) else false) then
  ob (ZEV en hp asm dst) fun (e1, n1, y1, ns1) =>
  bif decide (e1 = en) then
   some (need asm (eLt c (SX.mk2 40 l e)) (need asm (eLe l c) (need asm (eLe (.int 0) l) (need asm (eLe (SX.mk2 42 (SX.mk2 40 l e) (.int bytes)) Zls) (need asm (eLe (.int 0) e) ns1)))), en, en.appX y1 (en.repX e ze), SX.mk2 40 l e, sz)
  else none else none else none
 | _, _, _, _ => none
def lop (st : St) (o : Op) (K : SV -> St -> VC) : VC :=
 let L := lk st.fr
 match o with
 | .alloc t => (match ZbX P t with
  | some cs => bif SCs.lt st.n cs then fresh st [.int] [eLe (.int 0) (.at .int st.n)] (K (.one (.ptr (.at .int st.n) 0)) { st with hp := .cel (.at .int st.n) 0 cs :: st.hp, n := st.n + 1, asm := eLe (.int 0) (.at .int st.n) :: st.asm }) else .ff 10
  | none => .ff 10)
 | .box t v => (match Zdr (L v) with
  | some cs => bif SCs.lt st.n cs then fresh st [.int] [eLe (.int 0) (.at .int st.n)] (K (.one (.ptr (.at .int st.n) 0)) { st with hp := .cel (.at .int st.n) 0 cs :: st.hp, n := st.n + 1, asm := eLe (.int 0) (.at .int st.n) :: st.asm }) else .ff 11
  | none => .ff 11)
 | .makeSlice t len cap => (match P.underlying t, Zdi (L len), Zdi (L cap) with
  | some (.slice et), some l, some c => (match ZFG P et, Zes P et, Za9 P et with
   | some en, some bytes, some sz => (match ZlX P en et with
    | some z => bif (bif Nat.beq sz en.stride then (bif Nat.ble 1 bytes then (bif l.lt st.n then (bif c.lt st.n then z.lt st.n else false) else false) else false) else false) then
     (let ns := need st.asm (eLe (.int 0) l) (need st.asm (eLe l c) (need st.asm (eLe (SX.mk2 42 c (.int bytes)) Zls) []))
     VC.needs ns (fresh (st.add ns) [.int] [eLe (.int 0) (.at .int st.n)] (K (.one (.slice (.at .int st.n) (.int 0) (.int 0) (.int 0) l c sz))
      { st with hp := .arr en (.at .int st.n) (en.repX l z) c :: st.hp, n := st.n + 1, asm := eLe (.int 0) (.at .int st.n) :: (ns ++ st.asm) }))) else .ff 12
    | none => .ff 12)
   | _, _, _ => .ff 12)
  | _, _, _ => .ff 12)
 | .makeMap t none => (match P.underlying t with
  | some (.map kt et) => (match P.underlying kt, mvOf P et with
   | some kd, some v => (match mkOf kd with
    | none => .ff 13
    | some kk => fresh st [.int] [eLe (.int 0) (.at .int st.n)] (K (.one (.map (.at .int st.n)))
     { st with hp := .map kk v (.at .int st.n) (.f1 155 (.int 0)) :: st.hp, n := st.n + 1, asm := eLe (.int 0) (.at .int st.n) :: st.asm }))
   | _, _ => .ff 13)
  | _ => .ff 13)
 | .buildSlice t len parts => (match P.underlying t with
  | some (.slice et) => (match ZFG P et, Za9 P et with
   | some en', some sz => (fun en => bif (bif Nat.beq sz en.stride then (bif Nat.beq parts.size len then (bif Nat.ble (len * sz) 16777216 then (bif Nat.ble 1 sz then (ZbX P et).isSome else false) else false) else false) else false) then
    (match (parts.toList.zipIdx.foldr (fun (p : (Nat × Operand) × Nat) acc => match acc, Zdr (L p.1.2) with
     | some (ns, x), some cs => bif Nat.beq p.1.1 p.2 then (match En.el st.asm en cs with | some (ns', el) => some (ns' ++ ns, en.consX el x) | none => none) else none
     | _, _ => none) (some (([] : List SX), Zq1 en))) with
    | some (ns, x) => bif x.lt st.n then VC.needs ns (fresh (st.add ns) [.int] [eLe (.int 0) (.at .int st.n)] (K (.one (.slice (.at .int st.n) (.int 0) (.int 0) (.int 0) (.int len) (.int len) sz))
      { st with hp := .arr en (.at .int st.n) x (.int len) :: st.hp, n := st.n + 1, asm := eLe (.int 0) (.at .int st.n) :: (ns ++ st.asm) })) else .ff 14
    | none => .ff 14) else .ff 14) (enP en' L parts.toList)
   | _, _ => .ff 14)
  | _ => .ff 14)
 | .store t a v => (match L a, Zdr (L v), Za9 P t with
  | .one (.ptr b o), some cs, some n => bif Nat.beq cs.length n then (match ZcR b o cs st.hp with
   | some hp => bif Nat.ble 1 n then K (.tup []) { st with hp := hp } else .ff 15
   | none => .ff 15) else .ff 15
  | .one (.ep b o i s j), some cs, some n => bif (bif Nat.beq cs.length n then (bif Nat.ble (j + n) s then SX.bq o (.int 0) else false) else false) then (match ZaR b st.hp with
   | some (en, x, c, rest) => bif Nat.beq s en.stride then (match Zav (en.get x i) j cs with
    | some row => (match En.el st.asm en row with
     | some (ns, el) => (let ns := need st.asm (eLe (.int 0) i) (need st.asm (eLt i (en.lenX x)) ns)
      VC.needs ns (K (.tup []) { st with hp := .arr en b (en.setX x i el) c :: rest, asm := ns ++ st.asm }))
     | none => .ff 16)
    | none => .ff 16) else .ff 16
   | none => .ff 16) else .ff 16
  | _, _, _ => .ff 16)
 | .mapUpdate t m k v => (match P.underlying t, L m, L k with
  | some (.map kt et), .one (.map b), .one kc => (match ZaC b st.hp, P.underlying kt with
   | some (kk, vd, mm, rest), some kd => (match kk.fits kd, kk.enc kc, vd.enc (L v) with
    | true, some ke, some e => K (.tup []) { st with hp := .map kk vd b (Zzb ke e mm) :: rest }
    | _, _, _ => .ff 17)
   | _, _ => .ff 17)
  | _, _, _ => .ff 17)
 | .call c => (match c.callee, c.args.toList, c.argTypes.toList with
  | .builtin .append, [d, s], [t, t2] => (match ZjK P st.hp st.asm t (L d) (L s), (match P.underlying t2 with | some (.int _) => false | some _ => true | none => false) with
   | some (ns, hp, sv), true => VC.needs ns (K sv { st with hp := hp, asm := ns ++ st.asm })
   | _, _ => match ZmZ P st.hp st.asm t (L d) (L s), (match P.underlying t2 with | some (.int _) => false | some _ => true | none => false) with
   | some (ns, en, x, n, sz), true =>
    let b' : SX := .at .int st.n
    let c' : SX := .at .int (st.n + 1)
    let facts := [eLe n c', eLe (.int 0) b']
    bif (bif x.lt st.n then n.lt st.n else false) then VC.needs ns (fresh (st.add ns) [.int, .int] facts (K (.one (.slice b' (.int 0) (.int 0) (.int 0) n c' sz))
     { st with hp := .arr en b' x c' :: st.hp, n := st.n + 2, asm := facts ++ (ns ++ st.asm) })) else .ff 18
   | _, _ => match Zmy P st.hp st.asm t (L d) (L s), (match P.underlying t2 with | some (.int _) => false | some _ => true | none => false) with
   | some (ns, rest, en, x, n, c, sz), true =>
    let b' : SX := .at .int st.n
    let c' : SX := .at .int (st.n + 1)
    let facts := [eLe n c', Zms b' n]
    bif (bif x.lt st.n then (bif n.lt st.n then c.lt st.n else false) else false) then VC.needs ns (fresh (st.add ns) [.int, .int] facts (K (.one (.slice b' (.int 0) (.int 0) (.int 0) n c' sz))
     { st with hp := .arr en b' x c' :: rest, n := st.n + 2, asm := facts ++ (ns ++ st.asm) })) else .ff 18
   | _, _ => match ZmM P st.hp st.asm t t2 (L d) (L s) with
   | some (ns, en, x, n, sz) =>
    let b' : SX := .at .int st.n
    let c' : SX := .at .int (st.n + 1)
    let facts := [eLe n c', eLe (.int 0) b']
    bif (bif x.lt st.n then n.lt st.n else false) then VC.needs ns (fresh (st.add ns) [.int, .int] facts (K (.one (.slice b' (.int 0) (.int 0) (.int 0) n c' sz))
     { st with hp := .arr en b' x c' :: st.hp, n := st.n + 2, asm := facts ++ (ns ++ st.asm) })) else .ff 18
   | none => .ff 18)
  | .builtin .copy, [d, s], t :: _ => (match L d, P.underlying t, srcC st.hp st.asm (L d) (L s) with
   | .one (.slice b o k z l c sz), some (.slice et), some (e2, n, y, ns) => (match ZaR b st.hp, Za9 P et with
    | some (en, x, cap, rest), some sz' => bif (bif decide (e2 = en) then (bif SX.bq o (.int 0) then (bif Nat.beq sz sz' then Nat.beq sz en.stride else false) else false) else false) then
     (let m : SX := SX.mk2 51 n l
     let ns := need st.asm (eLe (.int 0) k) (need st.asm (eLe (.int 0) l) (need st.asm (eLe l c) (need st.asm (eLe k (en.lenX x)) (need st.asm (eLe (SX.mk2 40 k l) cap) ns))))
     VC.needs ns (K (.one (.int .i64 m)) { st with hp := .arr en b (en.appX (en.takeX x k) (en.appX (en.takeX y m) (en.dropX x (SX.mk2 40 k m)))) cap :: rest, asm := ns ++ st.asm })) else .ff 19
    | _, _ => .ff 19)
   | _, _, _ => .ff 19)
  | .builtin .clear, [x], t :: _ => (match L x, P.underlying t with
   | .one (.map b), some (.map _ _) => (match ZaC b st.hp with
    | some (kk, vd, mm, rest) => K (.tup []) { st with hp := .map kk vd b (.f1 155 (.int 0)) :: rest }
    | none => .ff 20)
   | .one (.slice b o k z l c sz), some (.slice et) => (match ZaR b st.hp, Za9 P et with
    | some (en, x, cap, rest), some sz' => (match ZlX P en et with
     | some ze => bif (bif SX.bq o (.int 0) then (bif Nat.beq sz sz' then Nat.beq sz en.stride else false) else false) then
      (let ns := need st.asm (eLe (.int 0) k) (need st.asm (eLe (.int 0) l) (need st.asm (eLe l c) (need st.asm (eLe (SX.mk2 40 k l) (en.lenX x)) [])))
      VC.needs ns (K (.tup []) { st with hp := .arr en b (en.appX (en.takeX x k) (en.appX (en.repX l ze) (en.dropX x (SX.mk2 40 k l)))) cap :: rest, asm := ns ++ st.asm })) else .ff 24
     | none => .ff 24)
    | _, _ => .ff 24)
   | _, _ => .ff 20)
  | .builtin .delete, [m, k], t :: _ => (match P.underlying t, L m, L k with
   | some (.map kt et), .one (.map b), .one kc => (match ZaC b st.hp, P.underlying kt with
    | some (kk, vd, mm, rest), some kd => (match kk.fits kd, kk.enc kc with
     | true, some ke => K (.tup []) { st with hp := .map kk vd b (ZnH ke mm) :: rest }
     | _, _ => .ff 21)
    | _, _ => .ff 21)
   | _, _, _ => .ff 21)
  | _, _, _ => .ff 22)
 | .convert src dst x => (match P.underlying src, P.underlying dst, L x with
  | some _, some (.slice e), .one (.str s) => (match P.underlying e with
   | some (.int .u8) =>
    let n : SX := SX.mk1 31 s
    let b' : SX := .at .int st.n
    let c' : SX := .at .int (st.n + 1)
    let facts := [eLe n c', eLe (.int 0) b']
    bif (bif s.lt st.n then n.lt st.n else false) then VC.needs [] (fresh (st.add []) [.int, .int] facts (K (.one (.slice b' (.int 0) (.int 0) (.int 0) n c' 1))
     { st with hp := .arr .bytes b' s c' :: st.hp, n := st.n + 2, asm := facts ++ ([] ++ st.asm) })) else .ff 25
   | _ => .ff 25)
  | _, _, _ => .ff 25)
 | .range t x => (match P.underlying t, L x with
  | some (.map _ _), .one (.map b) => (match ZaC b st.hp with
   | some (kk, v, m, rest) => fresh st [.int] [eLe (.int 0) (.at .int st.n)] (K (.one (.ptr (.at .int st.n) 0))
     { st with hp := .itr kk v b m (.at .int st.n) m (.f1 152 (.int 0)) :: rest, n := st.n + 1, asm := eLe (.int 0) (.at .int st.n) :: st.asm })
   | none => .ff 71)
  | _, _ => .ff 71)
 | .next x str => (match L x with
  | .one (.ptr r o) => bif (bif str then false else Nat.beq o 0) then (match ZbE r st.hp with
   | some (kk, v, b, m, l, _, rest) =>
    let z := eEq (ZdX l) (.int 0)
    .and (bif SX.bq z (.bool false) then .tt else .imp z (K (.tup [(false, [.bool (.bool false)])]) { st with hp := .map kk v b m :: rest, asm := z :: st.asm }))
     (bif SX.bq z (.bool true) then .tt else (match ZAg v (Zm9 0 (kk.atX st.n) l) with
      | some c => fresh st [kk.atS] [ZgY (kk.atX st.n) l] (K (.tup [(false, [.bool (.bool true)]), (false, [kk.atC st.n]), c])
        { st with hp := .itr kk v b m r (ZnH (kk.atX st.n) l) (.f2 122 (kk.atX st.n) (.f1 152 (.int 0))) :: rest, n := st.n + 1, asm := ZgY (kk.atX st.n) l :: st.asm })
      | none => .ff 72))
   | none => .ff 72) else .ff 72
  | _ => .ff 72)
 | .entry x => (match L x with
  | .one (.ptr r o) => bif Nat.beq o 0 then (match ZbE r st.hp with
   | some (kk, v, b, m, l, cur, rest) => (match cur with
    | .f2 122 k z => bif SX.bq z (.f1 152 (.int 0)) then (match ZAg v (Zm9 0 k m) with
     | some c => K (.tup [(false, [kk.keyC k]), c]) st
     | none => .ff 73) else .ff 73
    | _ => .ff 73)
   | none => .ff 73) else .ff 73
  | _ => .ff 73)
 | _ => .ff 23
def Yg (o : Op) : Bool :=
 match o with
 | .convert _ dst _ => (match P.underlying dst with | some (.slice _) => false | _ => true)
 | o => ZCU o
end
/-! ### Code -/
structure Inv where
 ss : List Srt
 slots : List (Nat × SV)
 hp : List Ch
 facts : List SX
 meas : SX
 deriving Inhabited
inductive Ann where
 | inv (i : Inv)
 | ghost (sp : Ctr) (args : List Operand)
 | split (e : SX)
 | iff (e : SX)
 | cut (N : Nat) (fr : List SV) (base : List Ch) (i : Inv)
 deriving Inhabited
structure Cx where
 specs : List (Nat × List Ctr)
 anns : List (Nat × List (Nat × Ann))
 exts : List (Nat × List Ctr) := []
 deriving Inhabited
structure Kt where
 nrm : St -> VC
 ext : Nat -> St -> VC
 ret : St -> VC
def ZS {α : Type} : List (Nat × α) -> Nat -> Option α
 | [], _ => none
 | (i, a) :: l, n => bif Nat.beq i n then some a else ZS l n
def Code.key : Code -> Option Nat
 | .region id _ _ => some id
 | .seq a b => (match Code.key a with | some k => some k | none => Code.key b)
 | .cond _ a b => (match Code.key a with | some k => some k | none => Code.key b)
 | .block _ b => Code.key b
 | .loop b => Code.key b
 | .scope b => Code.key b
 | _ => none
def Code.writes : Code -> List Nat
 | .region _ ops _ => ops.toList.filterMap (·.dst)
 | .seq a b => Code.writes a ++ Code.writes b
 | .cond _ a b => Code.writes a ++ Code.writes b
 | .block _ b => Code.writes b
 | .loop b => Code.writes b
 | .scope b => Code.writes b
 | _ => []
def ZDp : List SV -> List Nat -> List SV
 | fr, [] => fr
 | fr, n :: l => ZDp (ZrI fr n .junk) l
def Za0 (slots : List (Nat × SV)) : Nat -> List SV -> List SV
 | _, [] => []
 | i, h :: hs => (match ZS slots i with | some p => p | none => h) :: Za0 slots (i + 1) hs
def ZGd (asm : List SX) (d : Nat) (th : List SX) (slots : List (Nat × SV)) : List SX -> Nat -> List SV -> List SV -> Option (List SX)
 | ns, _, [], [] => some ns
 | ns, i, h :: hs, v :: vs => (match ZS slots i with
   | some p => ob (eqV asm ns (p.sub d th) v) fun ns => ZGd asm d th slots ns (i + 1) hs vs
   | none => ob (eqV asm ns h v) fun ns => ZGd asm d th slots ns (i + 1) hs vs)
 | _, _, _, _ => none
def ZvD (m : MS) (fr : List SV) : List (Nat × SV) -> MS
 | [] => m
 | (n, p) :: l => ZvD (bdV m p (Zdj fr n)) fr l
def invD : Nat := 1000000
def Inv.at (iv : Inv) (n : Nat) : Inv :=
 let th := ats n iv.ss
 { iv with slots := iv.slots.map fun p => (p.1, p.2.sub invD th), hp := iv.hp.map (Ch.sub invD th), facts := iv.facts.map (SX.sub invD th), meas := iv.meas.sub invD th }
def meet (d : Nat) (st : St) (iv : Inv) (head : List SV) : Option (List SX × List SX × List Ch) :=
 let m := Zzv (ZvD ⟨d, iv.ss, iv.ss.map fun _ => none⟩ st.fr iv.slots) st.hp iv.hp
 ob (Zi6 m.th) fun th =>
 bif Zvu th iv.ss then
  ob (ZGd st.asm d th iv.slots [] 0 head st.fr) fun ns =>
  ob (Zba st.asm ns (iv.hp.map (Ch.sub d th)) st.hp) fun (ns, rest, ks) =>
  (match ks with
  | [] => some (th, (iv.facts.map (SX.sub d th)).foldr (need st.asm) ns, rest)
  | _ => none)
 else none
def Inv.wf (iv : Inv) (n : Nat) : Bool :=
 bif iv.meas.wf n iv.ss then (bif iv.facts.all (SX.wf n iv.ss) then (bif iv.hp.all (Ch.wf n iv.ss) then (bif iv.slots.all (fun p => p.2.wf n iv.ss) then iv.meas.lt (n + iv.ss.length) else false) else false) else false) else false
def Ch.bq : Ch -> Ch -> Bool
 | .cel b o cs, .cel b' o' cs' => bif Nat.beq o o' then (bif SX.bq b b' then SCs.bq cs cs' else false) else false
 | .arr e b x c, .arr e' b' x' c' => bif decide (e = e') then (bif SX.bq b b' then (bif SX.bq x x' then SX.bq c c' else false) else false) else false
 | .ro e b o x, .ro e' b' o' x' => bif decide (e = e') then (bif SX.bq b b' then (bif SX.bq o o' then SX.bq x x' else false) else false) else false
 | .rd i e b o x c, .rd j e' b' o' x' c' => bif (bif Nat.beq i j then decide (e = e') else false) then (bif SX.bq b b' then (bif SX.bq o o' then (bif SX.bq x x' then SX.bq c c' else false) else false) else false) else false
 | .map kk v b m, .map kk' v' b' m' => bif (bif MK.bq kk kk' then decide (v = v') else false) then (bif SX.bq b b' then SX.bq m m' else false) else false
 | .prd p k x, .prd p' k' x' => bif Nat.beq p p' then (bif SX.bq k k' then SX.bq x x' else false) else false
 | .itr kk v b m r l c, .itr kk' v' b' m' r' l' c' => bif (bif MK.bq kk kk' then decide (v = v') else false) then (bif SX.bq b b' then (bif SX.bq m m' then (bif SX.bq r r' then (bif SX.bq l l' then SX.bq c c' else false) else false) else false) else false) else false
 | _, _ => false
def ZpN (c : Ch) : List Ch -> Option (List Ch)
 | [] => none
 | d :: l => bif Ch.bq c d then some l else ob (ZpN c l) fun r => some (d :: r)
def ZjE : List Ch -> List Ch -> Option (List Ch)
 | [], hp => some hp
 | c :: l, hp => ob (ZpN c hp) fun hp => ZjE l hp
section
variable (P : Program) (C : Cx)
def ZbZ (f : Nat) (id : Nat) : List Ann :=
 match ZS C.anns f with
 | some l => l.filterMap fun (i, a) => bif Nat.beq i id then some a else none
 | none => []
def ZHx : List Ann -> Option Inv
 | [] => none
 | .inv i :: _ => some i
 | _ :: l => ZHx l
def Y0 (st : St) (K : St -> VC) : List Ann -> VC
 | [] => K st
 | .ghost sp args :: l => (match Zfq st sp (args.map (lk st.fr)) (fun _ st => Y0 st K l) with | some v => v | none => .ff 30)
 | [.iff _] => K st
 | .iff e :: x :: l => bif ZaP e st.asm then Y0 st K (x :: l) else Y0 st K l
 | .cut N head base iv0 :: l =>
  let iv := iv0.at N
  (match meet N st iv head with
  | none => .ff 63
  | some (_, ns, rest) => (match ZjE base rest with
   | none => .ff 66
   | some _ =>
    bif Nat.ble st.n N then
     (bif (bif iv.wf N then (bif head.all (SV.lt N) then base.all (Ch.lt N) else false) else false) then
      VC.needs ns (VC.alls N iv.ss (VC.imps iv.facts (Y0 { fr := Za0 iv.slots 0 head, hp := iv.hp ++ base, n := N + iv.ss.length, asm := iv.facts ++ [] } K l)))
     else .ff 64)
    else .ff 65))
 | .split e :: l => bif sq e.srt .bool then .and (.imp e (Y0 { st with asm := e :: st.asm } K l)) (.imp (Zef e) (Y0 { st with asm := Zef e :: st.asm } K l)) else .ff 57
 | _ :: l => Y0 st K l
inductive Gd where
 | go
 | skip
 | ask (slot : Nat) (e : SX) (want : Bool)
 | bad
def Zz (ops : Array Oper) (fr : List SV) (o : Oper) : Gd :=
 match o.guard with
 | none => .go
 | some (j, want) => (match (ops[j]?).bind (·.dst) with
  | some d => (match Zdj fr d with
   | .one (.bool (.bool b)) => bif bbq b want then .go else .skip
   | .one (.bool e) => .ask d e want
   | .tup [] => .skip
   | _ => .bad)
  | none => .bad)
def Zac (fr : List SV) (d : Option Nat) (v : SV) : List SV := match d with | some d => ZrI fr d v | none => fr
def ZH6 (e : SX) (asm : List SX) : Bool :=
 match e with
 | .f2 45 x (.int c) => asm.any fun q => match q with | .f2 45 y (.int d) => bif SX.bq x y then !(ibq c d) else false | _ => false
 | _ => false
def ZFJ (e : SX) (asm : List SX) : Bool := bif ZaP (Zef e) asm then true else ZH6 e asm
def Ze5 (st : St) (d : Nat) (e : SX) (b : Bool) (k : St -> VC) : VC :=
 let e' := bif b then e else Zef e
 bif sq e.srt .bool then (bif (bif b then ZFJ e st.asm else ZaP e st.asm) then .tt else
 .imp e' (k { st with fr := ZrI st.fr d (.one (.bool (.bool b))), asm := e' :: st.asm })) else .ff 39
def Zw2 (body : Nat -> List SV -> St -> (SV -> St -> VC) -> VC) (st : St) (f : Nat) (args : List SV) (K : SV -> St -> VC) : VC :=
 match P.funcs[f]? with
 | none => .ff 51
 | some fn => bif fn.name == "runtime.NumGoroutine" then .ff 53 else bif fn.body.isSome then
  (match ZS C.specs f with
  | some sps => Y9 st args K sps
  | none => bif st.ok then body f args st K else .ff 1) else
  (match ZS C.exts f with
  | some sps => Y9 st args K sps
  | none => .ff 53)
def Zyl : SC -> Option (Nat × List SC)
 | .fn f => some (f, [])
 | .cap g x => ob (Zyl g) fun (f, l) => some (f, l ++ [x])
 | _ => none
def ZHa (body : Nat -> List SV -> St -> (SV -> St -> VC) -> VC) (st : St) (o : Oper) (K : SV -> St -> VC) : VC :=
 bif Yg P o.op then
  (match qev P st.hp st.asm (lk st.fr) o.op with
  | some (ns, v) => VC.needs ns (K v (st.add ns))
  | none => .ff 31)
 else (match o.op with
  | .call c => (match c.callee with
   | .value f => (match lk st.fr f with
    | .one g => (match Zyl g with
     | some (f, caps) => Zw2 P C body st f (c.args.toList.map (lk st.fr) ++ caps.map SV.one) K
     | none => .ff 32)
    | _ => .ff 32)
   | _ => lop P st o.op K)
  | _ => lop P st o.op K)
def ZD3 (body : Nat -> List SV -> St -> (SV -> St -> VC) -> VC) (ops : Array Oper) : List Oper -> St -> (St -> VC) -> VC
 | [], st, K => K st
 | o :: rest, st, K =>
  let go (st : St) : VC := ZHa P C body st o fun v st => ZD3 body ops rest { st with fr := Zac st.fr o.dst v } K
  let skip (st : St) : VC := ZD3 body ops rest { st with fr := Zac st.fr o.dst (.tup []) } K
  match Zz ops st.fr o with
  | .go => go st
  | .skip => skip st
  | .ask d e want => .and (Ze5 st d e want go) (Ze5 st d e (!want) skip)
  | .bad => .ff 33
structure Rec where
 i : Nat
 o : Oper
 L : List (Nat × SV)
 v : SV
def lkA (l : List (Nat × SV)) : Operand -> SV
 | .tmp t => (match ZS l t with | some v => v | none => .junk)
 | x => lk [] x
def ZFH (fr : List SV) (o : Op) : List (Nat × SV) := o.operands.toList.filterMap fun | .tmp t => some (t, Zdj fr t) | _ => none
def SV.same (a b : SV) : Bool := match a with | .tup x => (match b with | .tup y => (match ZGY [] [] x y with | some [] => true | _ => false) | _ => false) | a => SV.bq a b
def ZdM (o : Oper) (i : Nat) : Bool := o.after.any fun e => Region.binds .any e && e.on == i
def Zhh (hp : List Ch) (asm : List SX) (n : Nat) (r : Rec) : Bool :=
 bif (bif r.v.lt n then r.L.all (fun p => p.2.lt n) else false) then (match qev P hp asm (lkA r.L) r.o.op with
  | some ([], v) => SV.same r.v v
  | _ => false) else false
def ZeB (fr : List SV) (ops : Array Oper) (o : Oper) : Bool :=
 match Zz ops fr o with | .skip => true | _ => Yg P o.op
def ZR (fr : List SV) (ops : Array Oper) : List Nat -> Option (Nat × Oper)
 | [] => none
 | i :: l => (match ops[i]? with
  | some o => bif ZeB P fr ops o then some (i, o) else ZR fr ops l
  | none => none)
def VC.conj : List VC -> VC
 | [] => .tt
 | [a] => a
 | a :: l => .and a (VC.conj l)
def ZfD (fr : List SV) (ops : Array Oper) : List Nat -> Option (Nat × SX × Bool)
 | [] => none
 | i :: l => (match ops[i]? with
  | some o => (match Zz ops fr o with | .ask d e want => some (d, e, want) | _ => ZfD fr ops l)
  | none => none)
def Y3 (body : Nat -> List SV -> St -> (SV -> St -> VC) -> VC) (ops : Array Oper) : Nat -> Array Bool -> List Rec -> St -> (St -> VC) -> VC
 | 0, listed, recs, st, K => (match Region.ready .any ops listed with | [] => K st | _ => .ff 34)
 | fuel + 1, listed, recs, st, K =>
  match Region.ready .any ops listed with
  | [] => K st
  | i :: rest =>
   match ZR P st.fr ops (i :: rest) with
   | some (i, o) =>
    bif Region.free .any ops listed i then
     (let go (st : St) : VC := (match qev P st.hp st.asm (lkA (ZFH st.fr o.op)) o.op with
      | some (ns, v) => VC.needs ns (Y3 body ops fuel (listed.setIfInBounds i true) (⟨i, o, ZFH st.fr o.op, v⟩ :: recs) { (st.add ns) with fr := Zac st.fr o.dst v } K)
      | none => .ff 35)
     let skip (st : St) : VC := Y3 body ops fuel (listed.setIfInBounds i true) recs { st with fr := Zac st.fr o.dst (.tup []) } K
     match Zz ops st.fr o with
     | .go => go st
     | .skip => skip st
     | .ask d e want => .and (Ze5 st d e want go) (Ze5 st d e (!want) fun st => Y3 body ops fuel listed recs st K)
     | .bad => .ff 33)
    else .ff 36
   | none => (match ZfD st.fr ops (i :: rest) with
    | some (d, e, want) => .and (Ze5 st d e want fun st => Y3 body ops fuel listed recs st K) (Ze5 st d e (!want) fun st => Y3 body ops fuel listed recs st K)
    | none => VC.conj ((i :: rest).map fun j => match ops[j]? with
     | some o => (match Zz ops st.fr o with
      | .go => ZHa P C body st o fun v st1 =>
        let recs := recs.filter fun r => !(ZdM o r.i)
        bif recs.all (Zhh P st1.hp st1.asm st.n) then Y3 body ops fuel (listed.setIfInBounds j true) recs { st1 with fr := Zac st1.fr o.dst v } K else .ff 37
      | _ => .ff 33)
     | none => .ff 38))
def sx (body : Nat -> List SV -> St -> (SV -> St -> VC) -> VC) (f : Nat) : Nat -> Code -> St -> Kt -> VC
 | 0, _, _, _ => .ff 40
 | fuel + 1, c, st, K =>
  match c with
  | .skip => K.nrm st
  | .label _ => K.nrm st
  | .region id ops draw => Y0 st (fun st => bif draw then
    (bif (P.follows .mixedOrders && Region.noSelect ops) then Y3 P C body ops (ops.size + (ops.size + 1)) (Array.replicate ops.size false) [] st (fun st => Y0 st K.nrm (ZbZ C f (500000 + id))) else .ff 41)
    else ZD3 P C body ops ops.toList st (fun st => Y0 st K.nrm (ZbZ C f (500000 + id)))) (ZbZ C f id)
  | .seq a b => sx body f fuel a st { K with nrm := fun st => sx body f fuel b st K }
  | .cond x a b => (match lk st.fr x with
   | .one (.bool (.bool true)) => sx body f fuel a st K
   | .one (.bool (.bool false)) => sx body f fuel b st K
   | .one (.bool e) => bif sq e.srt .bool then
    .and (bif ZFJ e st.asm then .tt else .imp e (sx body f fuel a { st with asm := e :: st.asm } K))
       (bif ZaP e st.asm then .tt else .imp (Zef e) (sx body f fuel b { st with asm := Zef e :: st.asm } K)) else .ff 42
   | _ => .ff 42)
  | .block id b => sx body f fuel b st { K with ext := fun i st => bif Nat.beq i id then K.nrm st else K.ext i st }
  | .exit id => K.ext id st
  | .ret => K.ret st
  | .loop b => (match Code.key b with
   | none => .ff 43
   | some key => (match ZHx (ZbZ C f key) with
    | none => -- no invariant: the rounds are run one by one
     sx body f fuel b st { K with nrm := fun st => sx body f fuel (.loop b) st K }
    | some iv =>
     let head0 := ZDp st.fr (Code.writes b)
     let iv := iv.at st.n
     (match meet st.n st iv head0 with
     | none => .ff 44
     | some (_, ns, rest) =>
      bif (bif iv.wf st.n then (bif head0.all (SV.lt st.n) then rest.all (Ch.lt st.n) else false) else false) then
      VC.needs ns (fresh (st.add ns) iv.ss iv.facts (sx body f fuel b
       { fr := Za0 iv.slots 0 head0, hp := iv.hp ++ rest, n := st.n + iv.ss.length, asm := iv.facts ++ (ns ++ st.asm) }
       { K with nrm := fun st' => (match meet st.n st' iv head0 with
        | none => .ff 45
        | some (th1, ns, rest') => (match ZjE rest rest' with
         | none => .ff 46
         | some _ =>
          let m1 := iv.meas.sub st.n th1
          VC.needs (need st'.asm (eLe (.int 0) m1) (need st'.asm (eLt m1 iv.meas) ns)) .tt)) }))
      else .ff 47)))
  | _ => .ff 48
def Zbr (st : St) : ResultVar -> Option (Bool × List SC)
 | .tmp t => (match Zdj st.fr t with | .one c => some (false, [c]) | .agg cs => some (true, cs) | _ => none)
 | .cell a t => (match Zdj st.fr a, P.underlying t, Za9 P t with
   | .one (.ptr b o), some d, some n => (match loadAt st.hp st.asm (YV d) (bif YV d then n else 1) (.ptr b o) with
    | some ([], .one c) => bif Zmm b st.hp then some (false, [c]) else none
    | some ([], .agg cs) => bif Zmm b st.hp then some (true, cs) else none
    | _ => none)
   | _, _, _ => none)
def Zz3 (fn : Func) (st : St) : Option SV :=
 match fn.results.toList with
 | [] => some (.tup [])
 | [r] => (match Zbr P st r with | some (false, [c]) => some (.one c) | some (true, cs) => some (.agg cs) | _ => none)
 | [r1, r2] => ob (Zbr P st r1) fun a => ob (Zbr P st r2) fun b => some (.tup [a, b])
 | [r1, r2, r3] => ob (Zbr P st r1) fun a => ob (Zbr P st r2) fun b => ob (Zbr P st r3) fun c => some (.tup [a, b, c])
 | [r1, r2, r3, r4] => ob (Zbr P st r1) fun a => ob (Zbr P st r2) fun b => ob (Zbr P st r3) fun c => ob (Zbr P st r4) fun d => some (.tup [a, b, c, d])
 | _ => none
def Zge : Nat -> Nat -> List SV -> St -> (SV -> St -> VC) -> VC
 | 0, _, _, _, _ => .ff 50
 | fuel + 1, f, args, st, K =>
  match P.funcs[f]? with
  | none => .ff 51
  | some fn => (match fn.body with
   | none => .ff 52
   | some c =>
    let fin (st' : St) : VC := (match Zz3 P fn st' with
     | some v => (match ZbZ C f 999999 with
      | [] => K v { st' with fr := st.fr }
      | x :: l => bif SV.lt st'.n v then Y0 st' (fun st'' => K v { st'' with fr := st.fr }) (x :: l) else .ff 56)
     | none => .ff 54)
    sx P C (Zge fuel) f 100000 c { st with fr := args ++ List.replicate (fn.ntmps - args.length) .junk }
     { nrm := fin, ret := fin, ext := fun _ _ => .ff 55 })
def Zxo (p : Nat × RK) : Bool := match p.2 with | .rd j => Nat.beq p.1 j | _ => false
def ZIH : List SX -> List SX -> Bool
 | [], _ => true
 | a :: l, b :: m => bif SX.bq a b then ZIH l m else false
 | _ :: _, [] => false
def ZeK (fuel f : Nat) (sp : Ctr) : VC :=
 bif (bif sp.wf then St.ok { fr := [], hp := sp.pre, n := sp.ss.length, asm := sp.reqs } else false) then VC.imps sp.reqs <| Zge P C fuel f sp.args { fr := [], hp := sp.pre, n := sp.ss.length, asm := sp.reqs } fun v st =>
  let idth := ats 0 sp.ss
  let m := Zzv (bdV ⟨0, sp.ss ++ sp.ps, idth.map some ++ sp.ps.map fun _ => none⟩ sp.res v) st.hp sp.post
  (match Zi6 m.th with
  | none => .ff 60
  | some th => bif (bif Zvu th (sp.ss ++ sp.ps) then ZIH idth th else false) then
    (match eqV st.asm [] (sp.res.sub 0 th) v with
    | none => .ff 61
    | some ns => (match Zba st.asm ns (sp.post.map (Ch.sub 0 th)) st.hp with
     | none => .ff 62
     | some (ns, _, ks) => bif ks.all Zxo then
       VC.needs ((sp.facts.map (SX.sub 0 th)).foldr (need st.asm) ns) .tt else .ff 63))
   else .ff 64)
 else .ff 65
end
end
end Go.Eng
namespace Go.Eng
noncomputable section
open Go.RowKit (Below)
section
variable {G : Type} (S : Sig G) (ρ : Env G)
theorem SX.srt_co (e : SX) : U.co S e.srt (e.den S ρ) = e.den S ρ := by
 cases e with
 | int n => rfl
 | bool n => rfl
 | byt n => rfl
 | «at» s i => exact U.co_co S s _
 | us s f a b c d => exact U.co_co S s _
 | f1 f a =>
  simp only [SX.den, SX.srt]
  unfold ap1
  split <;> first | rfl | skip
  split <;> (repeat' split) <;> first | rfl | omega | (exfalso; simp_all; done) | (exfalso; simp_all; omega)
 | f2 f a b =>
  simp only [SX.den, SX.srt]
  unfold ap2
  split <;> first | rfl | skip
  split <;> (repeat' split) <;> first | rfl | omega | (exfalso; simp_all; done) | (exfalso; simp_all; omega)
 | f3 f a b c =>
  simp only [SX.den, SX.srt]
  unfold ap3
  split <;> first | rfl | skip
  split <;> first | rfl | (exfalso; simp_all; done)
theorem Zzo {a b : Srt} (h : sq a b = true) : a = b := Srt.n_inj (ZJo h)
theorem Zul {e : SX} (h : sq e.srt .int = true) : e.den S ρ = .int (e.den S ρ).tI := by
 have := SX.srt_co S ρ e
 rw [Zzo h] at this
 exact this.symm
structure ThR (d : Nat) (th : List SX) (ss : List Srt) (ρ ρc : Env G) : Prop where
 low : ∀ i, i < d -> ρc i = ρ i
 high : ∀ i s, ss[i]? = some s -> U.co S s (ρc (d + i)) = (Zah th i).den S ρ
theorem ZdB : ∀ {th : List SX} {ss : List Srt}, Zvu th ss = true -> ∀ i s, ss[i]? = some s -> (Zah th i).srt = s
 | [], [], _, i, s, h => by simp at h
 | e :: l, t :: m, hk, 0, s, h => by
  simp only [Zvu, ZJr] at hk
  split at hk
  ·rename_i hq; simp at h; subst h; exact Zzo hq
  ·cases hk
 | e :: l, t :: m, hk, i + 1, s, h => by
  simp only [Zvu, ZJr] at hk
  split at hk
  ·exact ZdB hk i s (by simpa using h)
  ·cases hk
 | [], _ :: _, hk, _, _, _ => by cases hk
 | _ :: _, [], hk, _, _, _ => by cases hk
theorem Zqh : ∀ {th : List SX} {ss : List Srt}, Zvu th ss = true -> th.length = ss.length
 | [], [], _ => rfl
 | e :: l, t :: m, hk => by
  simp only [Zvu, ZJr] at hk
  split at hk
  ·simp [Zqh hk]
  ·cases hk
 | [], _ :: _, hk => by cases hk
 | _ :: _, [], hk => by cases hk
theorem SX.sub_den {d : Nat} {th : List SX} {ss : List Srt} {ρc : Env G} (h : ThR S d th ss ρ ρc) : ∀ {e : SX}, e.wf d ss = true -> (e.sub d th).den S ρ = e.den S ρc := by
 intro e
 induction e with
 | int n => intro _; rfl
 | bool n => intro _; rfl
 | byt n => intro _; rfl
 | «at» s i =>
  intro hw
  simp only [SX.sub, SX.wf] at *
  cases hlt : Nat.blt i d
  ·rw [hlt] at hw
   simp only [cond_false] at hw ⊢
   have hge : d <= i := by
    rcases ZJh i d with h | h
    ·have := (by simpa [Nat.blt_eq] using h : Nat.blt i d = true); rw [this] at hlt; cases hlt
    ·exact h
   split at hw
   ·rename_i t ht
    have h1 := h.high _ _ ht
    have := Zzo hw
    subst this
    rw [show d + (i - d) = i by omega] at h1
    simp only [SX.den]
    exact h1.symm
   ·cases hw
  ·simp only [cond_true, SX.den]
   rw [h.low i (by simpa [Nat.blt_eq] using hlt)]
 | f1 f a ih => intro hw; simp only [SX.sub]; rw [SX.mk1_den]; simp only [SX.den]; rw [ih hw]
 | f2 f a b ih ih' =>
  intro hw; simp [SX.wf, ZJr] at hw
  simp only [SX.sub]; rw [SX.mkS2_den]; simp only [SX.den]; rw [ih hw.1, ih' hw.2]
 | f3 f a b c ih ih' ih'' =>
  intro hw; simp [SX.wf, ZJr] at hw
  simp only [SX.sub]; rw [SX.mkS3_den]; simp only [SX.den]; rw [ih hw.1, ih' hw.2.1, ih'' hw.2.2]
 | us s f a b c e ih ih' ih'' ih3 =>
  intro hw; simp [SX.wf, ZJr] at hw
  simp only [SX.sub, SX.den]; rw [ih hw.1, ih' hw.2.1, ih'' hw.2.2.1, ih3 hw.2.2.2]
theorem SC.sub_den {d : Nat} {th : List SX} {ss : List Srt} {ρc : Env G} (h : ThR S d th ss ρ ρc) : ∀ {e : SC}, e.wf d ss = true -> (e.sub d th).den S ρ = e.den S ρc := by
 intro e
 induction e with
 | int k e => intro hw; simp only [SC.sub, SC.den]; rw [SX.sub_den S ρ h hw]
 | bool e => intro hw; simp only [SC.sub, SC.den]; rw [SX.sub_den S ρ h hw]
 | str e => intro hw; simp only [SC.sub, SC.den]; rw [SX.sub_den S ρ h hw]
 | map e => intro hw; simp only [SC.sub, SC.den]; rw [SX.sub_den S ρ h hw]
 | ptr b o => intro hw; simp only [SC.sub, SC.den]; rw [SX.sub_den S ρ h hw]
 | ep b o i s j => intro hw; simp [SC.wf, ZJr] at hw; simp only [SC.sub, SC.den]; rw [SX.sub_den S ρ h hw.1, SX.sub_den S ρ h hw.2.1, SX.sub_den S ρ h hw.2.2]
 | slice b o k z l c s =>
  intro hw; simp [SC.wf, ZJr] at hw
  obtain ⟨h1, h2, h3, h4, h5, h6⟩ := hw
  simp only [SC.sub, SC.den]; rw [SX.sub_den S ρ h h1, SX.sub_den S ρ h h2, SX.sub_den S ρ h h3, SX.sub_den S ρ h h4, SX.sub_den S ρ h h5, SX.sub_den S ρ h h6]
 | fn f => intro _; rfl
 | nilfn => intro _; rfl
 | nilif => intro _; rfl
 | opq x i p => intro hw; simp [SC.wf, ZJr] at hw; simp only [SC.sub, SC.den]; rw [SX.sub_den S ρ h hw.1, SX.sub_den S ρ h hw.2]
 | cap g x ih ih' => intro hw; simp [SC.wf, ZJr] at hw; simp only [SC.sub, SC.den]; rw [ih hw.1, ih' hw.2]
 | ifc t v ih => intro hw; simp only [SC.sub, SC.den]; rw [ih hw]
theorem SCs.sub_den {d : Nat} {th : List SX} {ss : List Srt} {ρc : Env G} (h : ThR S d th ss ρ ρc) : ∀ {l : List SC}, l.all (SC.wf d ss) = true -> (l.map (SC.sub d th)).map (SC.den S ρ) = l.map (SC.den S ρc)
 | [], _ => rfl
 | c :: l, hw => by
  simp only [List.all_cons, Bool.and_eq_true] at hw
  simp only [ZJw]
  rw [SC.sub_den S ρ h hw.1, SCs.sub_den h hw.2]
theorem SV.sub_den {d : Nat} {th : List SX} {ss : List Srt} {ρc : Env G} (h : ThR S d th ss ρ ρc) {v : SV} (hw : v.wf d ss = true) : (v.sub d th).den S ρ = v.den S ρc /\ (v.sub d th).isJunk = v.isJunk := by
 cases v with
 | junk => exact ⟨rfl, rfl⟩
 | one c => exact ⟨SC.sub_den S ρ h hw, rfl⟩
 | agg cs => refine ⟨?_, rfl⟩; simp only [SV.sub, SV.den]; rw [SCs.sub_den S ρ h hw]
 | tup vs =>
  refine ⟨?_, rfl⟩
  simp only [SV.sub, SV.den, List.map_map]
  congr 2
  apply List.map_congr_left
  intro p hp
  have hq := List.all_eq_true.1 hw p hp
  obtain ⟨b, cs⟩ := p
  simp only [Function.comp]
  have hm := SCs.sub_den S ρ h hq
  unfold Zdx
  cases b with
  | true => simp only; rw [hm]
  | false =>
   match cs, hm with
   | [], hm => rfl
   | [c], hm => simpa using hm
   | c :: c' :: r, hm => simp only [ZJw] at hm ⊢; rw [hm]
theorem SV.sub_R {d : Nat} {th : List SX} {ss : List Srt} {ρc : Env G} (h : ThR S d th ss ρ ρc) {v : SV} (hw : v.wf d ss = true) {x : Value} : (v.sub d th).R S ρ x ↔ v.R S ρc x := by
 obtain ⟨h1, h2⟩ := SV.sub_den S ρ h hw
 unfold SV.R; rw [h1, h2]
def Sig.wc (S : Sig G) (ch : Nat -> Bool) : Sig G := { S with ch := ch }
theorem ZDJ (ch : Nat -> Bool) (s : Srt) (u : U G) : U.co (S.wc ch) s u = U.co S s u := by cases s <;> rfl
theorem SX.den_wc (ch : Nat -> Bool) : ∀ (e : SX), e.den (S.wc ch) ρ = e.den S ρ := by
 intro e
 induction e with
 | int n => rfl
 | bool n => rfl
 | byt n => rfl
 | «at» s i => exact ZDJ S ch s _
 | f1 f a ih => simp only [SX.den]; rw [ih]
 | f2 f a b ih ih' => simp only [SX.den]; rw [ih, ih']
 | f3 f a b c ih ih' ih'' => simp only [SX.den]; rw [ih, ih', ih'']
 | us s f a b c d ih ih' ih'' ih3 => simp only [SX.den]; rw [ih, ih', ih'', ih3, ZDJ]; rfl
theorem SC.den_wc (ch : Nat -> Bool) : ∀ (e : SC), e.den (S.wc ch) ρ = e.den S ρ := by
 intro e
 induction e with
 | cap g x ih ih' => simp only [SC.den]; rw [ih, ih']
 | ifc t v ih => simp only [SC.den]; rw [ih]
 | _ => simp only [SC.den, SX.den_wc]
theorem SCs.den_wc (ch : Nat -> Bool) (l : List SC) : l.map (SC.den (S.wc ch) ρ) = l.map (SC.den S ρ) := List.map_congr_left fun c _ => SC.den_wc S ρ ch c
theorem SV.den_wc (ch : Nat -> Bool) (v : SV) : v.den (S.wc ch) ρ = v.den S ρ := by
 cases v with
 | junk => rfl
 | one c => exact SC.den_wc S ρ ch c
 | agg cs => simp only [SV.den]; rw [SCs.den_wc]
 | tup vs =>
  simp only [SV.den]
  congr 2
  apply List.map_congr_left
  intro p _
  unfold Zdx
  split
  ·exact SC.den_wc S ρ ch _
  ·rw [SCs.den_wc]
theorem SV.R_wc (ch : Nat -> Bool) (v : SV) (x : Value) : v.R (S.wc ch) ρ x ↔ v.R S ρ x := by unfold SV.R; rw [SV.den_wc]
theorem Ch.sub_den (w0 : World) {d : Nat} {th : List SX} {ss : List Srt} {ρc : Env G} (h : ThR S d th ss ρ ρc) (ch : Nat -> Bool) {c : Ch} (hw : c.wf d ss = true) :
  (c.sub d th).den (S.wc ch) ρ w0 = c.den (S.wc ch) ρc w0 := by
 have hx : ∀ {e : SX}, e.wf d ss = true -> (e.sub d th).den (S.wc ch) ρ = e.den (S.wc ch) ρc := fun {e} he => by rw [SX.den_wc, SX.den_wc]; exact SX.sub_den S ρ h he
 have hcs : ∀ {l : List SC}, l.all (SC.wf d ss) = true -> (l.map (SC.sub d th)).map (SC.den (S.wc ch) ρ) = l.map (SC.den (S.wc ch) ρc) := fun {l} hl => by rw [SCs.den_wc, SCs.den_wc]; exact SCs.sub_den S ρ h hl
 cases c with
 | cel b o cs =>
  simp [Ch.wf, ZJr] at hw
  simp only [Ch.sub, Ch.den]; rw [hx hw.1, hcs (by simpa using hw.2)]
  have : (cs.map (SC.sub d th) = []) = (cs = []) := by cases cs <;> simp
  simp only [this]
 | arr e b x c => simp [Ch.wf, ZJr] at hw; simp only [Ch.sub, Ch.den]; rw [hx hw.1, hx hw.2.1, hx hw.2.2]
 | ro e b o x => simp [Ch.wf, ZJr] at hw; simp only [Ch.sub, Ch.den]; rw [hx hw.1, hx hw.2.1, hx hw.2.2]
 | rd i e b o x c => simp [Ch.wf, ZJr] at hw; simp only [Ch.sub, Ch.den]; rw [hx hw.1, hx hw.2.1, hx hw.2.2.1, hx hw.2.2.2]
 | map kk v b m => simp [Ch.wf, ZJr] at hw; simp only [Ch.sub, Ch.den]; rw [hx hw.1, hx hw.2]
 | prd p k x =>
  simp [Ch.wf, ZJr] at hw; simp only [Ch.sub, Ch.den]; rw [hx hw.1, hx hw.2]
 | itr kk v b m r l c => simp [Ch.wf, ZJr] at hw; simp only [Ch.sub, Ch.den]; rw [hx hw.1, hx hw.2.1, hx hw.2.2.1, hx hw.2.2.2.1, hx hw.2.2.2.2]
theorem ZcI (w0 : World) {d : Nat} {th : List SX} {ss : List Srt} {ρc : Env G} (h : ThR S d th ss ρ ρc) (ch : Nat -> Bool) {l : List Ch} (hw : l.all (Ch.wf d ss) = true) :
  Ze (S.wc ch) ρ w0 (l.map (Ch.sub d th)) = Ze (S.wc ch) ρc w0 l := by
 unfold Ze
 congr 1
 rw [List.map_map]
 apply List.map_congr_left
 intro c hc
 exact Ch.sub_den S ρ w0 h ch (List.all_eq_true.1 hw c hc)
/-! ### Checked equality -/
theorem Zh {asm : List SX} (ha : ∀ x ∈ asm, (x.den S ρ).tP) {a b : SX} {ns ns' : List SX} (h : eqX asm a b ns = some ns') (hn : ∀ x ∈ ns', (x.den S ρ).tP) :
  a.den S ρ = b.den S ρ /\ ∀ x ∈ ns, (x.den S ρ).tP := by
 unfold eqX at h
 cases hq : SX.bq a b
 ·rw [hq] at h
  simp only [cond_false] at h
  have other : ∀ {q : Bool}, (bif q then some (need asm (.f2 155 a b) ns) else none) = some ns' -> a.den S ρ = b.den S ρ /\ ∀ x ∈ ns, (x.den S ρ).tP := by
   intro q h
   cases q
   ·cases h
   ·simp only [cond_true, Option.some.injEq] at h
    subst h
    obtain ⟨he, hns⟩ := Za S ρ ha hn
    exact ⟨@of_decide_eq_true _ (Classical.propDecidable _) he, hns⟩
  cases h1 : sq a.srt .int
  ·rw [h1] at h; exact other h
  cases h2 : sq b.srt .int
  ·rw [h1, h2] at h; exact other h
  rw [h1, h2] at h
  simp only [cond_true, Option.some.injEq] at h
  subst h
  obtain ⟨he, hns⟩ := Za S ρ ha hn
  refine ⟨?_, hns⟩
  rw [SX.mk2_den] at he
  simp [SX.den, ap2] at he
  rw [Zul S ρ h1, Zul S ρ h2, he]
 ·rw [hq] at h; cases h
  exact ⟨by rw [SX.bq_eq hq], hn⟩
theorem Zb {α β : Type} {o : Option α} {f : α -> Option β} {b : β} (h : ob o f = some b) : ∃ a, o = some a /\ f a = some b := by
 unfold ob at h; cases o with
 | none => cases h
 | some a => exact ⟨a, rfl, h⟩
theorem ZkR {asm : List SX} (ha : ∀ x ∈ asm, (x.den S ρ).tP) : ∀ {a b : SC} {ns ns' : List SX}, eqC asm ns a b = some ns' -> (∀ x ∈ ns', (x.den S ρ).tP) →
  a.den S ρ = b.den S ρ /\ ∀ x ∈ ns, (x.den S ρ).tP := by
 intro a
 induction a with
 | int k e =>
  intro b ns ns' h hn; cases b <;> simp only [eqC, reduceCtorEq] at h
  rw [ZJr] at h; split at h
  ·rename_i hk; obtain ⟨h1, h2⟩ := Zh S ρ ha h hn
   exact ⟨by simp only [SC.den]; rw [h1, Zb6 (ZJo hk)], h2⟩
  ·cases h
 | bool e =>
  intro b ns ns' h hn; cases b <;> simp only [eqC, reduceCtorEq] at h
  obtain ⟨h1, h2⟩ := Zh S ρ ha h hn; exact ⟨by simp only [SC.den]; rw [h1], h2⟩
 | str e =>
  intro b ns ns' h hn; cases b <;> simp only [eqC, reduceCtorEq] at h
  obtain ⟨h1, h2⟩ := Zh S ρ ha h hn; exact ⟨by simp only [SC.den]; rw [h1], h2⟩
 | map e =>
  intro b ns ns' h hn; cases b <;> simp only [eqC, reduceCtorEq] at h
  obtain ⟨h1, h2⟩ := Zh S ρ ha h hn; exact ⟨by simp only [SC.den]; rw [h1], h2⟩
 | ptr b o =>
  intro b ns ns' h hn; cases b <;> simp only [eqC, reduceCtorEq] at h
  rw [ZJr] at h; split at h
  ·rename_i hk; obtain ⟨h1, h2⟩ := Zh S ρ ha h hn
   exact ⟨by simp only [SC.den]; rw [h1, ZJo hk], h2⟩
  ·cases h
 | ep b o i s j =>
  intro b ns ns' h hn; cases b <;> simp only [eqC, reduceCtorEq] at h
  rename_i b' o' i' s' j'
  rw [ZJr] at h; split at h
  ·rename_i hk
   have hs : Nat.beq s s' = true := by
    cases hq : Nat.beq s s'
    ·rw [hq] at hk; cases hk
    ·rfl
   have hj : Nat.beq j j' = true := by rw [hs] at hk; exact hk
   obtain ⟨n1, e1, h⟩ := Zb h
   obtain ⟨n2, e2, h⟩ := Zb h
   obtain ⟨h3, hn2⟩ := Zh S ρ ha h hn
   obtain ⟨h2, hn1⟩ := Zh S ρ ha e2 hn2
   obtain ⟨h1, hn0⟩ := Zh S ρ ha e1 hn1
   exact ⟨by simp only [SC.den]; rw [h1, h2, h3, ZJo hs, ZJo hj], hn0⟩
  ·cases h
 | slice b o k z l c s =>
  intro b ns ns' h hn; cases b <;> simp only [eqC, reduceCtorEq] at h
  rename_i b' o' k' z' l' c' s'
  rw [ZJr] at h; split at h
  ·rename_i hk
   obtain ⟨n1, e1, h⟩ := Zb h
   obtain ⟨n2, e2, h⟩ := Zb h
   obtain ⟨n3, e3, h⟩ := Zb h
   obtain ⟨n4, e4, h⟩ := Zb h
   obtain ⟨n5, e5, h⟩ := Zb h
   obtain ⟨h6, hn5⟩ := Zh S ρ ha h hn
   obtain ⟨h5, hn4⟩ := Zh S ρ ha e5 hn5
   obtain ⟨h4, hn3⟩ := Zh S ρ ha e4 hn4
   obtain ⟨h3, hn2⟩ := Zh S ρ ha e3 hn3
   obtain ⟨h2, hn1⟩ := Zh S ρ ha e2 hn2
   obtain ⟨h1, hn0⟩ := Zh S ρ ha e1 hn1
   refine ⟨?_, hn0⟩
   simp only [SC.den]; rw [h1, h2, h3, h4, h5, h6]
   cases hs : Nat.beq s s'
   ·rw [hs] at hk
    have hk' : SX.bq k' (.int 0) = true /\ SX.bq z' (.int 0) = true := by
     cases q1 : SX.bq k (.int 0)
     ·rw [q1] at hk; cases hk
     cases q2 : SX.bq z (.int 0)
     ·rw [q1, q2] at hk; cases hk
     cases q3 : SX.bq k' (.int 0)
     ·rw [q1, q2, q3] at hk; cases hk
     rw [q1, q2, q3] at hk
     exact ⟨rfl, hk⟩
    rw [SX.bq_eq hk'.1, SX.bq_eq hk'.2]
    simp [SX.den]
   ·rw [ZJo hs]
  ·cases h
 | fn f =>
  intro b ns ns' h hn; cases b <;> simp only [eqC, reduceCtorEq] at h
  rw [ZJr] at h; split at h
  ·rename_i hk; cases h; exact ⟨by rw [ZJo hk], hn⟩
  ·cases h
 | cap g x ih ih' =>
  intro b ns ns' h hn; cases b <;> simp only [eqC, reduceCtorEq] at h
  obtain ⟨n1, e1, h⟩ := Zb h
  obtain ⟨h2, hn1⟩ := ih' h hn
  obtain ⟨h1, hn0⟩ := ih e1 hn1
  exact ⟨by simp only [SC.den]; rw [h1, h2], hn0⟩
 | nilfn => intro b ns ns' h hn; cases b <;> simp only [eqC, reduceCtorEq] at h; cases h; exact ⟨rfl, hn⟩
 | nilif => intro b ns ns' h hn; cases b <;> simp only [eqC, reduceCtorEq] at h; cases h; exact ⟨rfl, hn⟩
 | opq x i p =>
  intro b ns ns' h hn; cases b <;> simp only [eqC, reduceCtorEq] at h
  rw [ZJr] at h; split at h
  ·rename_i hk
   obtain ⟨n1, e1, h⟩ := Zb h
   obtain ⟨h2, hn1⟩ := Zh S ρ ha h hn
   obtain ⟨h1, hn0⟩ := Zh S ρ ha e1 hn1
   exact ⟨by simp only [SC.den]; rw [h1, h2, ZJo hk], hn0⟩
  ·cases h
 | ifc t v ih =>
  intro b ns ns' h hn; cases b <;> simp only [eqC, reduceCtorEq] at h
  rw [ZJr] at h; split at h
  ·rename_i hk; obtain ⟨h1, h2⟩ := ih h hn
   exact ⟨by simp only [SC.den]; rw [h1, ZJo hk], h2⟩
  ·cases h
theorem ZcM {asm : List SX} (ha : ∀ x ∈ asm, (x.den S ρ).tP) : ∀ {a b : List SC} {ns ns' : List SX}, ZIw asm ns a b = some ns' -> (∀ x ∈ ns', (x.den S ρ).tP) →
  a.map (SC.den S ρ) = b.map (SC.den S ρ) /\ ∀ x ∈ ns, (x.den S ρ).tP
 | [], [], ns, ns', h, hn => by cases h; exact ⟨rfl, hn⟩
 | a :: l, b :: m, ns, ns', h, hn => by
  obtain ⟨n1, e1, h⟩ := Zb h
  obtain ⟨h2, hn1⟩ := ZcM ha h hn
  obtain ⟨h1, hn0⟩ := ZkR S ρ ha e1 hn1
  exact ⟨by simp [h1, h2], hn0⟩
 | [], _ :: _, _, _, h, _ => by cases h
 | _ :: _, [], _, _, h, _ => by cases h
theorem ZhL {asm : List SX} (ha : ∀ x ∈ asm, (x.den S ρ).tP) : ∀ {a b : List (Bool × List SC)} {ns ns' : List SX}, ZGY asm ns a b = some ns' -> (∀ x ∈ ns', (x.den S ρ).tP) →
  (SV.tup a).den S ρ = (SV.tup b).den S ρ /\ ∀ x ∈ ns, (x.den S ρ).tP := by
 intro a
 induction a with
 | nil => intro b ns ns' h hn; cases b with
  | nil => cases h; exact ⟨rfl, hn⟩
  | cons => cases h
 | cons a l ih =>
  intro b ns ns' h hn
  cases b with
  | nil => cases h
  | cons b m =>
   simp only [ZGY, ZJr] at h
   split at h
   ·rename_i hb
    obtain ⟨n1, e1, h⟩ := Zb h
    obtain ⟨h2, hn1⟩ := ih h hn
    obtain ⟨h1, hn0⟩ := ZcM S ρ ha e1 hn1
    refine ⟨?_, hn0⟩
    obtain ⟨a1, a2⟩ := a
    obtain ⟨b1, b2⟩ := b
    simp only at hb h1
    have := ZfO hb
    subst this
    simp only [SV.den, Value.tuple.injEq] at h2
    have h2' : l.map (Zdx S ρ) = m.map (Zdx S ρ) := by simpa using h2
    simp only [SV.den, ZJw]
    rw [h2']
    congr 3
    unfold Zdx
    cases a1 with
    | true => simp only; rw [h1]
    | false =>
     match a2, b2, h1 with
     | [], [], _ => rfl
     | [c], [c'], h1 => simpa using h1
     | c :: c' :: r, e :: e' :: r', h1 => simp only; rw [h1]
     | [], _ :: _, h1 => simp at h1
     | _ :: _, [], h1 => simp at h1
     | [_], _ :: _ :: _, h1 => simp at h1
     | _ :: _ :: _, [_], h1 => simp at h1
   ·cases h
theorem ZdI {asm : List SX} (ha : ∀ x ∈ asm, (x.den S ρ).tP) {p v : SV} {ns ns' : List SX} (h : eqV asm ns p v = some ns') (hn : ∀ x ∈ ns', (x.den S ρ).tP) :
  (∀ x, v.R S ρ x -> p.R S ρ x) /\ ∀ x ∈ ns, (x.den S ρ).tP := by
 unfold eqV at h
 split at h
 ·cases h; exact ⟨fun _ _ => .inl rfl, hn⟩
 ·obtain ⟨h1, h2⟩ := ZkR S ρ ha h hn
  exact ⟨fun x hx => .inr (by rw [R_one S ρ hx]; exact h1.symm), h2⟩
 ·obtain ⟨h1, h2⟩ := ZcM S ρ ha h hn
  exact ⟨fun x hx => .inr (by rw [ZlQ S ρ hx]; simp only [SV.den]; rw [h1]), h2⟩
 ·obtain ⟨h1, h2⟩ := ZhL S ρ ha h hn
  refine ⟨fun x hx => ?_, h2⟩
  rcases hx with hj | he
  ·cases hj
  ·exact .inr (he.trans h1.symm)
 ·cases h
def Zaw : List SV -> List Value -> Prop
 | [], [] => True
 | s :: l, v :: m => s.R S ρ v /\ Zaw l m
 | _, _ => False
theorem ZhZ {asm : List SX} (ha : ∀ x ∈ asm, (x.den S ρ).tP) : ∀ {p v : List SV} {xs : List Value} {ns ns' : List SX}, eqVs asm ns p v = some ns' -> (∀ x ∈ ns', (x.den S ρ).tP) -> Zaw S ρ v xs →
  Zaw S ρ p xs /\ ∀ x ∈ ns, (x.den S ρ).tP
 | [], [], xs, ns, ns', h, hn, hx => by cases h; exact ⟨hx, hn⟩
 | a :: l, b :: m, xs, ns, ns', h, hn, hx => by
  obtain ⟨n1, e1, h⟩ := Zb h
  cases xs with
  | nil => exact hx.elim
  | cons x xs =>
   obtain ⟨h2, hn1⟩ := ZhZ ha h hn hx.2
   obtain ⟨h1, hn0⟩ := ZdI S ρ ha e1 hn1
   exact ⟨⟨h1 _ hx.1, h2⟩, hn0⟩
 | [], _ :: _, _, _, _, h, _, _ => by cases h
 | _ :: _, [], _, _, _, h, _, _ => by cases h
end
end
end Go.Eng
namespace Go.Eng
noncomputable section
open Go.RowKit (Below)
def ZmC {G : Type} (S : Sig G) : RK -> Bool
 | .ro => true | .arr => false | .rd j => S.ch j
section
variable {G : Type} (S : Sig G) (ρ : Env G) (w0 : World)
theorem Ch.den_wc_of (ch : Nat -> Bool) {c : Ch} (h : ∀ i e b o x k, c ≠ .rd i e b o x k) : c.den (S.wc ch) ρ w0 = c.den S ρ w0 := by
 cases c with
 | rd i e b o x k => exact absurd rfl (h i e b o x k)
 | cel b o cs => simp only [Ch.den, SX.den_wc, SCs.den_wc]
 | arr e b x c => simp only [Ch.den, SX.den_wc]; rfl
 | ro e b o x => simp only [Ch.den, SX.den_wc]; rfl
 | map kk v b m => simp only [Ch.den, SX.den_wc]
 | prd p k x => simp only [Ch.den, SX.den_wc]; rfl
 | itr kk v b m r l c => simp only [Ch.den, SX.den_wc]
theorem ZfR (ch : Nat -> Bool) (i : Nat) (e : En) (b o x c : SX) : (Ch.rd i e b o x c).den (S.wc ch) ρ w0 =
  if ch i then Zq4 S w0 e (b.den S ρ) (o.den S ρ) (x.den S ρ) else fun h => (o.den S ρ).tI = 0 /\ ZO S e (b.den S ρ) (x.den S ρ) (c.den S ρ) h := by
 simp only [Ch.den, SX.den_wc]; rfl
theorem ZfC {p : Prop} {X : Zd} {h : Hl} (hh : Zg (Zd.pure p) X h) : Zg (Zd.pure p) (Zg (Zd.pure p) X) h := by
 rw [star_pure] at hh ⊢
 rw [star_pure]
 exact ⟨hh.1, hh⟩
theorem ZrA {asm : List SX} (ha : ∀ x ∈ asm, (x.den S ρ).tP) {p c : Ch} {ns ns' : List SX} {used : Bool} {k : Option (Nat × RK)} (h : eqCh asm ns p c = some (ns', used, k))
  (hn : ∀ x ∈ ns', (x.den S ρ).tP) (ch : Nat -> Bool) (hch : ∀ i K, k = some (i, K) -> ch i = ZmC S K) :
  (∀ x ∈ ns, (x.den S ρ).tP) /\ ∀ X y, Zg (c.den S ρ w0) X y -> Zg (p.den (S.wc ch) ρ w0) (if used then X else Zg (c.den S ρ w0) X) y := by
 unfold eqCh at h
 split at h
 ·-- cel
  rw [ZJr] at h; split at h
  ·rename_i ho
   obtain ⟨n1, e1, h⟩ := Zb h
   obtain ⟨n2, e2, h⟩ := Zb h
   cases h
   obtain ⟨h2, hn1⟩ := ZcM S ρ ha e2 hn
   obtain ⟨h1, hn0⟩ := Zh S ρ ha e1 hn1
   refine ⟨hn0, fun X y hy => ?_⟩
   rw [Ch.den_wc_of S ρ w0 ch (by intros; simp)]
   simp only [if_true]
   have : ∀ (l m : List SC), l.map (SC.den S ρ) = m.map (SC.den S ρ) -> (l = [] ↔ m = []) := fun l m hlm => by
    have := congrArg List.length hlm; simp at this
    constructor
    ·rintro rfl; exact ZJC (by simpa using this.symm)
    ·rintro rfl; exact ZJC (by simpa using this)
   simp only [Ch.den] at hy ⊢
   rw [h1, h2, ZJo ho, this _ _ h2]
   exact hy
  ·cases h
 ·rw [ZJr] at h; split at h
  ·rename_i he
   have he := of_decide_eq_true he
   subst he
   obtain ⟨n1, e1, h⟩ := Zb h
   obtain ⟨n2, e2, h⟩ := Zb h
   obtain ⟨n3, e3, h⟩ := Zb h
   cases h
   obtain ⟨h3, hn2⟩ := Zh S ρ ha e3 hn
   obtain ⟨h2, hn1⟩ := Zh S ρ ha e2 hn2
   obtain ⟨h1, hn0⟩ := Zh S ρ ha e1 hn1
   refine ⟨hn0, fun X y hy => ?_⟩
   rw [Ch.den_wc_of S ρ w0 ch (by intros; simp)]
   simp only [if_true, Ch.den] at hy ⊢
   rw [h1, h2, h3]; exact hy
  ·cases h
 ·rw [ZJr] at h; split at h
  ·rename_i he
   have he := of_decide_eq_true he
   subst he
   obtain ⟨n1, e1, h⟩ := Zb h
   obtain ⟨n2, e2, h⟩ := Zb h
   obtain ⟨n3, e3, h⟩ := Zb h
   cases h
   obtain ⟨h3, hn2⟩ := Zh S ρ ha e3 hn
   obtain ⟨h2, hn1⟩ := Zh S ρ ha e2 hn2
   obtain ⟨h1, hn0⟩ := Zh S ρ ha e1 hn1
   refine ⟨hn0, fun X y hy => ?_⟩
   rw [Ch.den_wc_of S ρ w0 ch (by intros; simp)]
   simp only [Bool.false_eq_true, if_false, Ch.den] at hy ⊢
   rw [h1, h2, h3]; exact ZfC hy
  ·cases h
 ·rw [ZJr] at h; split at h
  ·rename_i he
   have he := of_decide_eq_true he
   subst he
   obtain ⟨n1, e1, h⟩ := Zb h
   obtain ⟨n2, e2, h⟩ := Zb h
   obtain ⟨n3, e3, h⟩ := Zb h
   cases h
   obtain ⟨h3, hn2⟩ := Zh S ρ ha e3 hn
   obtain ⟨h2, hn1⟩ := Zh S ρ ha e2 hn2
   obtain ⟨h1, hn0⟩ := Zh S ρ ha e1 hn1
   refine ⟨hn0, fun X y hy => ?_⟩
   rw [ZfR, hch _ _ rfl]
   simp only [Bool.false_eq_true, if_false, ZmC, if_true]
   simp only [Ch.den] at hy ⊢
   rw [h1, h2, h3]; exact ZfC hy
  ·cases h
 ·rename_i i e b o x c' e' b' x' c''
  cases he : decide (e = e')
  ·rw [he] at h; cases h
  cases ho : SX.bq o (.int 0)
  ·rw [he, ho] at h; cases h
  rw [he, ho] at h
  simp only [cond_true] at h
  have he := of_decide_eq_true he
  subst he
  obtain ⟨n1, e1, h⟩ := Zb h
  obtain ⟨n2, e2, h⟩ := Zb h
  obtain ⟨n3, e3, h⟩ := Zb h
  cases h
  obtain ⟨h3, hn2⟩ := Zh S ρ ha e3 hn
  obtain ⟨h2, hn1⟩ := Zh S ρ ha e2 hn2
  obtain ⟨h1, hn0⟩ := Zh S ρ ha e1 hn1
  refine ⟨hn0, fun X y hy => ?_⟩
  rw [ZfR, hch _ _ rfl]
  simp only [ZmC, Bool.false_eq_true, if_false, if_true]
  simp only [Ch.den] at hy
  rw [h1, h2, h3, SX.bq_eq ho]
  exact Zo (fun z hz => ⟨rfl, hz⟩) (fun _ hz => hz) _ hy
 ·rw [ZJr] at h; split at h
  ·rename_i he
   have he := of_decide_eq_true he
   subst he
   obtain ⟨n1, e1, h⟩ := Zb h
   obtain ⟨n2, e2, h⟩ := Zb h
   obtain ⟨n3, e3, h⟩ := Zb h
   obtain ⟨n4, e4, h⟩ := Zb h
   cases h
   obtain ⟨h4, hn3⟩ := Zh S ρ ha e4 hn
   obtain ⟨h3, hn2⟩ := Zh S ρ ha e3 hn3
   obtain ⟨h2, hn1⟩ := Zh S ρ ha e2 hn2
   obtain ⟨h1, hn0⟩ := Zh S ρ ha e1 hn1
   refine ⟨hn0, fun X y hy => ?_⟩
   rw [ZfR, hch _ _ rfl]
   simp only [ZmC, if_true]
   simp only [Ch.den] at hy
   rw [h1, h2, h3, h4]; exact hy
  ·cases h
 ·rename_i kk v b m kk' v' b' m'
  cases hk : MK.bq kk kk'
  ·rw [hk] at h; cases h
  cases hv : decide (v = v')
  ·rw [hk, hv] at h; cases h
  rw [hk, hv] at h
  simp only [cond_true] at h
  have hv := of_decide_eq_true hv
  subst hv
  have hk := MK.bq_eq hk
  subst hk
  obtain ⟨n1, e1, h⟩ := Zb h
  obtain ⟨n2, e2, h⟩ := Zb h
  cases h
  obtain ⟨h2, hn1⟩ := Zh S ρ ha e2 hn
  obtain ⟨h1, hn0⟩ := Zh S ρ ha e1 hn1
  refine ⟨hn0, fun X y hy => ?_⟩
  rw [Ch.den_wc_of S ρ w0 ch (by intros; simp)]
  simp only [if_true, Ch.den] at hy ⊢
  rw [h1, h2]; exact hy
 ·rw [ZJr] at h; split at h
  ·rename_i hp
   obtain ⟨n1, e1, h⟩ := Zb h
   obtain ⟨n2, e2, h⟩ := Zb h
   cases h
   obtain ⟨h2, hn1⟩ := Zh S ρ ha e2 hn
   obtain ⟨h1, hn0⟩ := Zh S ρ ha e1 hn1
   refine ⟨hn0, fun X y hy => ?_⟩
   rw [Ch.den_wc_of S ρ w0 ch (by intros; simp)]
   simp only [if_true, Ch.den] at hy ⊢
   rw [h1, h2, ZJo hp]; exact hy
  ·cases h
 ·rename_i kk v b m r l c kk' v' b' m' r' l' c'
  cases hk : MK.bq kk kk'
  ·rw [hk] at h; cases h
  cases hv : decide (v = v')
  ·rw [hk, hv] at h; cases h
  rw [hk, hv] at h
  simp only [cond_true] at h
  have hv := of_decide_eq_true hv
  subst hv
  have hk := MK.bq_eq hk
  subst hk
  obtain ⟨n1, e1, h⟩ := Zb h
  obtain ⟨n2, e2, h⟩ := Zb h
  obtain ⟨n3, e3, h⟩ := Zb h
  obtain ⟨n4, e4, h⟩ := Zb h
  obtain ⟨n5, e5, h⟩ := Zb h
  cases h
  obtain ⟨h5, hn4⟩ := Zh S ρ ha e5 hn
  obtain ⟨h4, hn3⟩ := Zh S ρ ha e4 hn4
  obtain ⟨h3, hn2⟩ := Zh S ρ ha e3 hn3
  obtain ⟨h2, hn1⟩ := Zh S ρ ha e2 hn2
  obtain ⟨h1, hn0⟩ := Zh S ρ ha e1 hn1
  refine ⟨hn0, fun X y hy => ?_⟩
  rw [Ch.den_wc_of S ρ w0 ch (by intros; simp)]
  simp only [if_true, Ch.den] at hy ⊢
  rw [h1, h2, h3, h4, h5]; exact hy
 ·cases h
theorem YE (e : En) : e.vals ((Zq1 e).den S ρ) = [] := by
 cases e <;> rfl
theorem Zia (e : En) (b : U G) : ZO S e b ((Zq1 e).den S ρ) (.int 0) Hl.none := by
 refine ⟨[], ?_, ZJy _, .inr rfl, ?_⟩
 ·rw [YE]; simp
 ·rw [YE]; show Hl.none = Zbu _ _ _ _; rw [List.append_nil, ZpZ]
theorem ZkJ {p : Ch} {k : Option (Nat × RK)} (h : Zww p = some k) (ch : Nat -> Bool) (hch : ∀ i K, k = some (i, K) -> ch i = ZmC S K) : p.den (S.wc ch) ρ w0 Hl.none := by
 unfold Zww at h
 split at h
 ·rename_i e b x c
  rw [ZJr] at h; split at h
  ·rename_i hx
   rw [ZJr] at h; split at h
   ·rename_i hc; cases h
    rw [SX.bq_eq hx, SX.bq_eq hc, Ch.den_wc_of S ρ w0 ch (by intros; simp)]
    exact Zia S ρ e _
   ·cases h
  ·cases h
 ·rename_i e b o x
  rw [ZJr] at h; split at h
  ·rename_i hx; cases h
   rw [SX.bq_eq hx, Ch.den_wc_of S ρ w0 ch (by intros; simp)]
   refine ⟨⟨.inr (YE S ρ e), fun i v hv => ?_⟩, rfl⟩
   rw [YE] at hv; simp at hv
  ·cases h
 ·rename_i i e b o x c
  rw [ZJr] at h; split at h
  ·rename_i hx
   rw [ZJr] at h; split at h
   ·rename_i hc
    rw [ZJr] at h; split at h
    ·rename_i ho; cases h
     rw [ZfR, hch _ _ rfl]
     simp only [ZmC, Bool.false_eq_true, if_false]
     rw [SX.bq_eq hx, SX.bq_eq hc, SX.bq_eq ho]
     exact ⟨rfl, Zia S ρ e _⟩
    ·cases h
   ·cases h
  ·cases h
 ·cases h
 ·cases h
theorem ZlS {A X : Zd} {h : Hl} (ha : A Hl.none) (hx : X h) : Zg A X h :=
 ⟨Hl.none, h, (Hl.disj_none _).symm, by rw [Hl.un_comm (Hl.disj_none _).symm, Hl.un_none], ha, hx⟩
theorem Zw (c : Ch) (l : List Ch) : Ze S ρ w0 (c :: l) = Zg (c.den S ρ w0) (Ze S ρ w0 l) := rfl
theorem ZeO (l m : List Ch) : Ze S ρ w0 (l ++ m) = Zg (Ze S ρ w0 l) (Ze S ρ w0 m) := by unfold Ze; rw [ZJD, Zei]
theorem ZeQ {asm : List SX} (ha : ∀ x ∈ asm, (x.den S ρ).tP) {p : Ch} {ns : List SX} (ch : Nat -> Bool) : ∀ {hp hp' : List Ch} {ns' : List SX} {k : Option (Nat × RK)},
  ZeN asm ns p hp = some (ns', hp', k) -> (∀ x ∈ ns', (x.den S ρ).tP) -> (∀ i K, k = some (i, K) -> ch i = ZmC S K) →
  (∀ x ∈ ns, (x.den S ρ).tP) /\ ∀ F y, Zg (Ze S ρ w0 hp) F y -> Zg (p.den (S.wc ch) ρ w0) (Zg (Ze S ρ w0 hp') F) y
 | [], hp', ns', k, h, hn, hch => by
  simp only [ZeN] at h
  split at h
  ·rename_i k' hk; cases h
   exact ⟨hn, fun F y hy => ZlS (ZkJ S ρ w0 hk ch hch) hy⟩
  ·cases h
 | c :: l, hp', ns', k, h, hn, hch => by
  simp only [ZeN] at h
  rw [ZJr] at h; split at h
  ·split at h
   ·rename_i ns1 used k1 he
    cases h
    obtain ⟨h1, h2⟩ := ZrA S ρ w0 ha he hn ch hch
    refine ⟨h1, fun F y hy => ?_⟩
    rw [Zw, Zc] at hy
    have := h2 _ _ hy
    cases used
    ·simp only [Bool.false_eq_true, if_false, cond_false] at this ⊢
     rw [Zw, Zc]; exact this
    ·simpa using this
   ·cases h
  ·split at h
   ·rename_i ns1 l' k1 he
    cases h
    obtain ⟨h1, h2⟩ := ZeQ ha ch he hn hch
    refine ⟨h1, fun F y hy => ?_⟩
    rw [Zw, Zc, Zq] at hy
    have := h2 _ _ hy
    rw [Zw, Zc, Zq (c.den S ρ w0)]
    exact this
   ·cases h
theorem Zas {asm : List SX} (ha : ∀ x ∈ asm, (x.den S ρ).tP) (ch : Nat -> Bool) : ∀ {ps hp hp' : List Ch} {ns ns' : List SX} {ks : List (Nat × RK)},
  Zba asm ns ps hp = some (ns', hp', ks) -> (∀ x ∈ ns', (x.den S ρ).tP) -> (∀ i K, (i, K) ∈ ks -> ch i = ZmC S K) →
  (∀ x ∈ ns, (x.den S ρ).tP) /\ ∀ F y, Zg (Ze S ρ w0 hp) F y -> Zg (Ze (S.wc ch) ρ w0 ps) (Zg (Ze S ρ w0 hp') F) y
 | [], hp, hp', ns, ns', ks, h, hn, hch => by
  simp only [Zba] at h
  cases h
  refine ⟨hn, fun F y hy => ?_⟩
  show Zg emp _ y
  rw [ZbT]; exact hy
 | p :: l, hp, hp', ns, ns', ks, h, hn, hch => by
  simp only [Zba] at h
  split at h
  ·rename_i ns1 hp1 k1 h1
   split at h
   ·rename_i ns2 hp2 ks2 h2
    cases h
    obtain ⟨hn1, hs2⟩ := Zas ha ch h2 hn (fun i K hm => hch i K (by cases k1 <;> simp [ZDB, hm]))
    obtain ⟨hn0, hs1⟩ := ZeQ S ρ w0 ha ch h1 hn1 (fun i K hk => hch i K (by subst hk; simp [ZDB]))
    refine ⟨hn0, fun F y hy => ?_⟩
    have a1 := hs1 _ _ hy
    rw [Zw, Zc]
    exact Zo (fun _ h => h) (fun z hz => hs2 _ _ hz) _ a1
   ·cases h
  ·cases h
theorem Zft : ∀ {ks : List (Nat × RK)} {i : Nat} {K : RK}, ZAw ks i = some K -> (i, K) ∈ ks
 | [], i, K, h => by cases h
 | (j, k) :: l, i, K, h => by
  simp only [ZAw, ZJr] at h
  split at h
  ·rename_i hj; cases h; rw [ZJo hj]; exact ZJv
  ·exact ZJt _ (Zft h)
theorem Zh8 : ∀ {ks : List (Nat × RK)}, ZIU ks = true -> ∀ {i K}, (i, K) ∈ ks -> ZAw ks i = some K
 | [], _, i, K, h => by cases h
 | (j, k) :: l, hk, i, K, h => by
  simp only [ZIU, ZJr] at hk
  split at hk
  ·cases hk
  ·rename_i hany
   rcases List.mem_cons.1 h with h | h
   ·cases h; simp [ZAw]
   ·have hne : Nat.beq j i = false := by
     cases hb : Nat.beq j i
     ·rfl
     ·exfalso; apply hany
      rw [List.any_eq_true]
      exact ⟨(i, K), h, by rw [ZJo hb]; simp⟩
    simp only [ZAw, hne, cond_false]
    exact Zh8 hk h
theorem ZeP {ks : List (Nat × RK)} (ch : Nat -> Bool) (hch : ∀ i K, (i, K) ∈ ks -> ch i = ZmC S K) : ∀ {l r : List Ch}, Zc1 ks l = some r →
  ∀ F y, Zg (Ze (S.wc ch) ρ w0 l) F y -> ∃ z, Zg (Ze S ρ w0 r) F z /\ ∀ i j q, z i j = some q -> y i j = some q
 | [], r, h, F, y, hy => by
  simp only [Zc1] at h; cases h; exact ⟨y, hy, fun _ _ _ h => h⟩
 | c :: l, r, h, F, y, hy => by
  have ih : ∀ r', Zc1 ks l = some r' -> ∀ F y, Zg (Ze (S.wc ch) ρ w0 l) F y -> ∃ z, Zg (Ze S ρ w0 r') F z /\ ∀ i j q, z i j = some q -> y i j = some q := fun r' h' => ZeP ch hch h'
  rw [Zw, Zc, Zq] at hy
  -- with the first chunk in the frame
  have plain : ∀ (c' : Ch) r', Zc1 ks l = some r' -> (∀ z, c.den (S.wc ch) ρ w0 z -> c'.den S ρ w0 z) -> ∃ z, Zg (Ze S ρ w0 (c' :: r')) F z /\ ∀ i j q, z i j = some q -> y i j = some q := by
   intro c' r' hr' hc
   obtain ⟨z, hz, hzy⟩ := ih r' hr' _ _ hy
   refine ⟨z, ?_, hzy⟩
   rw [Zw, Zc, Zq]
   exact Zo (fun _ h => h) (Zo hc (fun _ h => h)) _ hz
  by_cases hrd : ∃ i e b o x k, c = .rd i e b o x k
  ·obtain ⟨i, e, b, o, x, k, rfl⟩ := hrd
   simp only [Zc1] at h
   split at h
   ·rename_i r' hk hr'
    cases h
    have hc := hch _ _ (Zft hk)
    obtain ⟨z, hz, hzy⟩ := ih r hr' _ _ hy
    rw [Zq, ZfR, hc] at hz
    simp only [ZmC, if_true, Zq4] at hz
    rw [star_pure] at hz
    exact ⟨z, hz.2, hzy⟩
   ·rename_i r' hk hr'
    cases h
    have hc := hch _ _ (Zft hk)
    refine plain _ _ hr' (fun z hz => ?_)
    rw [ZfR, hc] at hz
    simp only [ZmC, Bool.false_eq_true, if_false] at hz
    exact hz.2
   ·rename_i j r' hk hr'
    cases h
    have hc := hch _ _ (Zft hk)
    refine plain _ _ hr' (fun z hz => ?_)
    rw [ZfR, hc] at hz
    exact hz
   ·cases h
  ·have hbc : Zc1 ks (c :: l) = (match Zc1 ks l with | some r => some (c :: r) | none => none) := by
    cases c <;> first | rfl | (exfalso; exact hrd ⟨_, _, _, _, _, _, rfl⟩)
   rw [hbc] at h
   split at h
   ·rename_i r' hr'; cases h
    refine plain _ _ hr' (fun z hz => ?_)
    rw [Ch.den_wc_of S ρ w0 ch (fun i e b o x k he => hrd ⟨i, e, b, o, x, k, he⟩)] at hz
    exact hz
   ·cases h
theorem ZA : ∀ {l : List SX} {k : VC}, (VC.needs l k).den S ρ -> (∀ x ∈ l, (x.den S ρ).tP) /\ k.den S ρ
 | [], k, h => ⟨fun x hx => (by cases hx), h⟩
 | e :: l, k, h => by
  obtain ⟨h1, h2⟩ := h
  obtain ⟨h3, h4⟩ := ZA h2
  refine ⟨fun x hx => ?_, h4⟩
  rcases List.mem_cons.1 hx with rfl | hx
  ·exact h1
  ·exact h3 x hx
theorem Zfz : ∀ {l : List SX} {k : VC}, (VC.imps l k).den S ρ -> (∀ x ∈ l, (x.den S ρ).tP) -> k.den S ρ
 | [], k, h, _ => h
 | e :: l, k, h, hl => Zfz (h (hl e ZJv)) (fun x hx => hl x (ZJt _ hx))
def YX : Env G -> Nat -> List Srt -> List (U G) -> Env G
 | ρ, n, s :: ss, u :: us => YX (ρ.upd n (U.co S s u)) (n + 1) ss us
 | ρ, _, _, _ => ρ
theorem Zi1 : ∀ {ss : List Srt} {n : Nat} {ρ : Env G} {k : VC}, (VC.alls n ss k).den S ρ -> ∀ us : List (U G), us.length = ss.length -> k.den S (YX S ρ n ss us)
 | [], n, ρ, k, h, us, hu => by
  have : us = [] := ZJC (by simpa using hu)
  subst this; exact h
 | s :: ss, n, ρ, k, h, us, hu => by
  cases us with
  | nil => simp at hu
  | cons u us =>
   simp only [YX]
   refine Zi1 (n := n + 1) ?_ us (by simpa using hu)
   cases s <;> simp only [VC.alls, VC.den] at h <;> simp only [U.co]
   ·exact h _
   ·exact h _
   ·exact h _
   ·exact h _
   ·exact h _
   ·exact h _
   ·cases u <;> exact h _
theorem Zi3 : ∀ {ss : List Srt} {n : Nat} {ρ : Env G} {us : List (U G)} {i : Nat}, i < n -> YX S ρ n ss us i = ρ i
 | [], n, ρ, us, i, h => by cases us <;> rfl
 | s :: ss, n, ρ, [], i, h => rfl
 | s :: ss, n, ρ, u :: us, i, h => by
  simp only [YX]
  rw [Zi3 (by omega)]
  unfold Env.upd; rw [if_neg (by omega)]
theorem ZgT : ∀ {ss : List Srt} {n : Nat} {ρ : Env G} {us : List (U G)} {i : Nat} {s : Srt} {u : U G}, ss[i]? = some s -> us[i]? = some u -> YX S ρ n ss us (n + i) = U.co S s u
 | [], n, ρ, us, i, s, u, h, _ => by simp at h
 | t :: ss, n, ρ, [], i, s, u, _, h => by simp at h
 | t :: ss, n, ρ, v :: us, 0, s, u, h, h' => by
  simp at h h'; subst h; subst h'
  simp only [YX, Nat.add_zero]
  rw [Zi3 S (by omega)]
  unfold Env.upd; rw [if_pos rfl]
 | t :: ss, n, ρ, v :: us, i + 1, s, u, h, h' => by
  simp only [YX]
  have := ZgT (n := n + 1) (ρ := ρ.upd n (U.co S t v)) (i := i) (by simpa using h) (by simpa using h')
  rw [show n + 1 + i = n + (i + 1) by omega] at this
  exact this
theorem Yv (ρ : Env G) (n : Nat) (ss : List Srt) (us : List (U G)) : Ext n ρ (YX S ρ n ss us) := fun i hi => Zi3 S hi
theorem Zb5 {st : St} {ss : List Srt} {facts : List SX} {k : VC} (h : (fresh st ss facts k).den S ρ) :
  st.ok = true /\ ∀ us : List (U G), us.length = ss.length -> (∀ x ∈ facts, (x.den S (YX S ρ st.n ss us)).tP) -> k.den S (YX S ρ st.n ss us) := by
 unfold fresh at h
 cases hok : st.ok
 ·rw [hok] at h; exact h.elim
 ·rw [hok] at h
  exact ⟨rfl, fun us hu hf => Zfz S _ (Zi1 S h us hu) hf⟩
def Zr (P : Program) (f : FuncId) (sp : Ctr) : Prop := ∀ (ch : Nat -> Bool) (w0 : World) (F : Zd) (ρ : Env G) (w : World) (xs : List Value),
 Zaw S ρ sp.args xs -> (∀ e ∈ sp.reqs, (e.den S ρ).tP) -> Sat w0 (Zg (Ze (S.wc ch) ρ w0 sp.pre) F) w →
 Calls P f xs.toArray w (fun e w' => ∃ ρ' v, Ext sp.ss.length ρ ρ' /\ e = .returned v /\ sp.res.R S ρ' v /\ Sat w0 (Zg (Ze (S.wc ch) ρ' w0 sp.post) F) w' /\ ∀ x ∈ sp.facts, (x.den S ρ').tP)
def ZcO (sp : Ctr) : Prop := ∀ (ch : Nat -> Bool) (w0 : World) (F : Zd) (ρ : Env G) (w : World), (∀ e ∈ sp.reqs, (e.den S ρ).tP) -> Sat w0 (Zg (Ze (S.wc ch) ρ w0 sp.pre) F) w →
 ∃ ρ', Ext sp.ss.length ρ ρ' /\ Sat w0 (Zg (Ze (S.wc ch) ρ' w0 sp.post) F) w /\ ∀ x ∈ sp.facts, (x.den S ρ').tP
structure HSt (F : Zd) (st : St) (ρ : Env G) (w : World) : Prop where
 hp : Sat w0 (Zg (Ze S ρ w0 st.hp) F) w
 asm : ∀ e ∈ st.asm, (e.den S ρ).tP
structure Next' (F : Zd) (st : St) (ρ : Env G) (ρ' : Env G) (st' : St) (w' : World) : Prop where
 ext : Ext st.n ρ ρ'
 le : st.n <= st'.n
 fr : st'.fr = st.fr
 frR : ∀ l, FrR S ρ st.fr l -> FrR S ρ' st.fr l
 hs : HSt S w0 F st' ρ' w'
theorem ZcB {asm : List SX} (ha : ∀ x ∈ asm, (x.den S ρ).tP) : ∀ {l ns : List SX}, (∀ x ∈ l.foldr (need asm) ns, (x.den S ρ).tP) -> (∀ x ∈ l, (x.den S ρ).tP) /\ ∀ x ∈ ns, (x.den S ρ).tP
 | [], ns, h => ⟨fun x hx => (by cases hx), h⟩
 | e :: l, ns, h => by
  obtain ⟨h1, h2⟩ := Za S ρ ha h
  obtain ⟨h3, h4⟩ := ZcB ha h2
  refine ⟨fun x hx => ?_, h4⟩
  rcases List.mem_cons.1 hx with rfl | hx
  ·exact h1
  ·exact h3 x hx
theorem Zlh {d : Nat} {th : List SX} {ss : List Srt} {ρc : Env G} (h : ThR S d th ss ρ ρc) : ∀ {l : List SV} {xs : List Value}, l.all (SV.wf d ss) = true -> Zaw S ρ (l.map (SV.sub d th)) xs -> Zaw S ρc l xs
 | [], [], _, _ => trivial
 | v :: l, x :: xs, hw, hx => by
  simp only [List.all_cons, Bool.and_eq_true] at hw
  exact ⟨(SV.sub_R S ρ h hw.1).1 hx.1, Zlh h hw.2 hx.2⟩
 | [], _ :: _, _, hx => hx.elim
 | _ :: _, [], _, hx => hx.elim
theorem ZiR {d : Nat} {th : List SX} {ss : List Srt} {ρc : Env G} (h : ThR S d th ss ρ ρc) {l : List SX} (hw : l.all (SX.wf d ss) = true) :
  (∀ x ∈ l.map (SX.sub d th), (x.den S ρ).tP) ↔ ∀ x ∈ l, (x.den S ρc).tP := by
 constructor
 ·intro hx x hm
  rw [<- SX.sub_den S ρ h (List.all_eq_true.1 hw x hm)]
  exact hx _ (List.mem_map_of_mem hm)
 ·intro hx y hm
  obtain ⟨x, hxm, rfl⟩ := List.mem_map.1 hm
  rw [SX.sub_den S ρ h (List.all_eq_true.1 hw x hxm)]
  exact hx x hxm
theorem Zbj : ∀ {l m : List SX} {i : Nat}, i < l.length -> Zah (l ++ m) i = Zah l i
 | [], m, i, h => by simp at h
 | e :: l, m, 0, h => rfl
 | e :: l, m, i + 1, h => by simp only [List.cons_append, Zah]; exact Zbj (by simpa using h)
theorem Za3 : ∀ {l m : List SX} {i : Nat}, Zah (l ++ m) (l.length + i) = Zah m i
 | [], m, i => by simp
 | e :: l, m, i => by
  rw [show (e :: l).length + i = (l.length + i) + 1 by simp; omega]
  simp only [List.cons_append, Zah]; exact Za3
theorem ZjS : ∀ {l : List SX} {i : Nat}, i < l.length -> Zah l i ∈ l
 | [], i, h => by simp at h
 | e :: l, 0, h => ZJv
 | e :: l, i + 1, h => ZJt _ (ZjS (by simpa using h))
theorem Zj1 : ∀ {ss : List Srt} {n i : Nat} {s : Srt}, ss[i]? = some s -> Zah (ats n ss) i = .at s (n + i)
 | [], n, i, s, h => by simp at h
 | t :: ss, n, 0, s, h => by simp at h; subst h; rfl
 | t :: ss, n, i + 1, s, h => by
  simp only [ats, Zah]
  rw [Zj1 (by simpa using h), show n + 1 + i = n + (i + 1) by omega]
theorem ZbD {F : Zd} {st : St} {w : World} {sp : Ctr} {args : List SV} {K : SV -> St -> VC} {vc : VC} {xs : List Value} (hwf : sp.wf = true)
  (hst : HSt S w0 F st ρ w) (hx : Zaw S ρ args xs) (h : Zfq st sp args K = some vc) (hd : vc.den S ρ) :
  ∃ (ch : Nat -> Bool) (ρc : Env G) (F' : Zd), Zaw S ρc sp.args xs /\ (∀ e ∈ sp.reqs, (e.den S ρc).tP) /\ Sat w0 (Zg (Ze (S.wc ch) ρc w0 sp.pre) F') w ∧
   ∀ ρc' w', Ext sp.ss.length ρc ρc' -> Sat w0 (Zg (Ze (S.wc ch) ρc' w0 sp.post) F') w' -> (∀ x ∈ sp.facts, (x.den S ρc').tP) →
    ∃ ρ' sv st', Next' S w0 F st ρ ρ' st' w' /\ (∀ v, sp.res.R S ρc' v -> sv.R S ρ' v) /\ (K sv st').den S ρ' := by
 obtain ⟨hw1, hw2, hw3, hw4, hw5, hw6⟩ : sp.args.all (SV.wf 0 sp.ss) = true /\ sp.pre.all (Ch.wf 0 sp.ss) = true /\ sp.reqs.all (SX.wf 0 sp.ss) = true /\ sp.res.wf 0 (sp.ss ++ sp.ps) = true ∧
   sp.post.all (Ch.wf 0 (sp.ss ++ sp.ps)) = true /\ sp.facts.all (SX.wf 0 (sp.ss ++ sp.ps)) = true := by
  unfold Ctr.wf at hwf
  simp only [ZJr] at hwf
  split at hwf
  ·rename_i a1
   split at hwf
   ·rename_i a2
    split at hwf
    ·rename_i a3
     split at hwf
     ·rename_i a4
      split at hwf
      ·rename_i a5; exact ⟨a1, a2, a3, a4, a5, hwf⟩
      ·cases hwf
     ·cases hwf
    ·cases hwf
   ·cases hwf
  ·cases hwf
 unfold Zfq at h
 simp only at h
 split at h
 ·cases h
 ·rename_i th hth
  cases hok : Zvu th sp.ss
  ·rw [hok] at h; cases h
  rw [hok] at h
  simp only [cond_true] at h
  split at h
  ·cases h
  ·rename_i ns1 he
   split at h
   ·cases h
   ·rename_i ns2 rest ks ht
    split at h
    ·cases h
    ·rename_i back hb
     cases hlt : th.all (SX.lt st.n)
     ·rw [hlt] at h; cases h
     cases hks : ZIU ks
     ·rw [hlt, hks] at h; cases h
     rw [hlt, hks] at h
     simp only [cond_true, Option.some.injEq] at h
     subst h
     obtain ⟨hn, hf⟩ := ZA S ρ hd
     obtain ⟨hst_ok, hcont⟩ := Zb5 S ρ hf
     -- the callee's environment
     let ρc : Env G := fun i => (Zah th i).den S ρ
     have hlen := Zqh hok
     have hThR : ThR S 0 th sp.ss ρ ρc := ⟨fun i hi => absurd hi (Nat.not_lt_zero _), fun i s hs => by
      have h1 := ZdB hok i s hs
      have h2 := SX.srt_co S ρ (Zah th i)
      rw [h1] at h2
      simp only [ρc, Nat.zero_add]; exact h2⟩
     let ch : Nat -> Bool := fun i => match ZAw ks i with | some K => ZmC S K | none => false
     have hch : ∀ i K, (i, K) ∈ ks -> ch i = ZmC S K := fun i K hm => by
      have := Zh8 hks hm
      show (match ZAw ks i with | some K => ZmC S K | none => false) = _
      rw [this]
     obtain ⟨hreq, hn2⟩ := ZcB S ρ hst.asm hn
     obtain ⟨hn1, htake⟩ := Zas S ρ w0 hst.asm ch ht hn2 hch
     obtain ⟨hargs, _⟩ := ZhZ S ρ hst.asm he hn1 hx
     refine ⟨ch, ρc, Zg (Ze S ρ w0 rest) F, Zlh S ρ hThR hw1 hargs, (ZiR S ρ hThR hw3).1 hreq, ?_, ?_⟩
     ·refine hst.hp.mono (fun y hy => ?_)
      have := htake _ _ hy
      rw [ZcI S ρ w0 hThR ch hw2] at this
      exact this
     ·intro ρc' w' hext hpost hfacts
      let us : List (U G) := (List.range sp.ps.length).map fun j => ρc' (sp.ss.length + j)
      have hus : us.length = sp.ps.length := by simp [us]
      have husj : ∀ j s, sp.ps[j]? = some s -> us[j]? = some (ρc' (sp.ss.length + j)) := fun j s hs => by
       have := (List.getElem?_eq_some_iff.1 hs).1
       simp [us, this]
      let ρ' := YX S ρ st.n sp.ps us
      have hE : Ext st.n ρ ρ' := Yv S ρ st.n sp.ps us
      have hThR' : ThR S 0 (th ++ ats st.n sp.ps) (sp.ss ++ sp.ps) ρ' ρc' := ⟨fun i hi => absurd hi (Nat.not_lt_zero _), fun i s hs => by
       rw [Nat.zero_add]
       by_cases hi : i < sp.ss.length
       ·rw [ZJF hi] at hs
        rw [Zbj (by omega), hext i hi]
        have h1 := ZdB hok i s hs
        have h2 := SX.srt_co S ρ (Zah th i)
        rw [h1] at h2
        have hm := List.all_eq_true.1 hlt _ (ZjS (l := th) (i := i) (by omega))
        rw [SX.den_ext S hE hm]
        exact h2
       ·rw [ZJG (by omega)] at hs
        have e1 : Zah (th ++ ats st.n sp.ps) i = .at s (st.n + (i - sp.ss.length)) := by
         have := Za3 (l := th) (m := ats st.n sp.ps) (i := i - sp.ss.length)
         rw [show th.length + (i - sp.ss.length) = i by omega] at this
         rw [this, Zj1 hs]
        rw [e1]
        simp only [SX.den]
        have h3 := ZgT S (n := st.n) (ρ := ρ) hs (husj _ _ hs)
        show _ = U.co S s (YX S ρ st.n sp.ps us (st.n + (i - sp.ss.length)))
        rw [h3, U.co_co, show sp.ss.length + (i - sp.ss.length) = i by omega]⟩
      have hfacts' : ∀ x ∈ sp.facts.map (SX.sub 0 (th ++ ats st.n sp.ps)), (x.den S ρ').tP := (ZiR S ρ' hThR' hw6).2 hfacts
      have hok' := hst_ok
      simp only [St.ok, ZJr] at hok'
      split at hok'
      ·rename_i hfr
       split at hok'
       ·rename_i hhp
        refine ⟨ρ', sp.res.sub 0 (th ++ ats st.n sp.ps), { st with hp := back ++ rest, n := st.n + sp.ps.length, asm := sp.facts.map (SX.sub 0 (th ++ ats st.n sp.ps)) ++ (((sp.reqs.map (SX.sub 0 th)).foldr (need st.asm) ns2) ++ st.asm) }, ⟨hE, Nat.le_add_right _ _, rfl, fun l hl => ZgD S hE hfr hl, ⟨?_, ?_⟩⟩, ?_, hcont us hus hfacts'⟩
        ·-- memory
         obtain ⟨y, hy, hin⟩ := hpost
         rw [<- ZcI S ρ' w0 hThR' ch hw5] at hy
         have hrest : rest.all (Ch.lt st.n) = true := by
          have key : ∀ (ps hp hp' : List Ch) (ns ns' : List SX) (ks : List (Nat × RK)), Zba st.asm ns ps hp = some (ns', hp', ks) -> ∀ c ∈ hp', c ∈ hp := by
           have k1 : ∀ (p : Ch) (hp hp' : List Ch) (ns ns' : List SX) (k : Option (Nat × RK)), ZeN st.asm ns p hp = some (ns', hp', k) -> ∀ c ∈ hp', c ∈ hp := by
            intro p hp
            induction hp with
            | nil =>
             intro hp' ns ns' k h c hc
             simp only [ZeN] at h; split at h
             ·cases h; cases hc
             ·cases h
            | cons d l ih =>
             intro hp' ns ns' k h c hc
             simp only [ZeN, ZJr] at h
             split at h
             ·split at h
              ·rename_i used _ _
               cases h
               split at hc
               ·exact ZJt _ hc
               ·exact hc
              ·cases h
             ·split at h
              ·rename_i h'
               cases h
               rcases List.mem_cons.1 hc with rfl | hc
               ·exact ZJv
               ·exact ZJt _ (ih _ _ _ _ h' c hc)
              ·cases h
           intro ps
           induction ps with
           | nil => intro hp hp' ns ns' ks h c hc; simp only [Zba] at h; cases h; exact hc
           | cons p l ih =>
            intro hp hp' ns ns' ks h c hc
            simp only [Zba] at h
            split at h
            ·rename_i h1
             split at h
             ·rename_i h2; cases h
              exact k1 _ _ _ _ _ _ h1 c (ih _ _ _ _ _ h2 c hc)
             ·cases h
            ·cases h
          rw [List.all_eq_true] at hhp ⊢
          intro c hc
          exact hhp c (key _ _ _ _ _ _ ht c hc)
         obtain ⟨z, hz, hzy⟩ := ZeP S ρ' w0 ch hch hb _ _ hy
         refine ⟨z, ?_, hin.sub hzy⟩
         rw [ZeO, Zc, Zb8 S hE w0 hrest]
         exact hz
        ·intro e he
         rcases List.mem_append.1 he with he | he
         ·exact hfacts' e he
         ·rw [SX.den_ext S hE (List.all_eq_true.1 hok' e he)]
          rcases List.mem_append.1 he with he | he
          ·exact hn e he
          ·exact hst.asm e he
        ·intro v hv
         exact (SV.sub_R S ρ' hThR' hw4).2 hv
       ·cases hok'
      ·cases hok'
end
end
end Go.Eng
namespace Go.Eng
noncomputable section
open Go.RowKit (Below)
section
variable {G : Type} (S : Sig G) (ρ : Env G) (w0 : World) {P : Program}
/-! ### Contents as lists of elements -/
def En.els (e : En) (u : U G) : List (U G) :=
 match e with
 | .ints _ => u.tN.map U.int
 | .bytes => u.tB.map fun b => U.int (b.toNat : Nat)
 | .rows _ => u.tR.map U.ints
def En.nel (e : En) (u : U G) : U G :=
 match e with
 | .ints _ => .int u.tI
 | .bytes => .int ((UInt8.ofNat u.tI.toNat).toNat : Nat)
 | .rows _ => .ints u.tN
def En.elV (e : En) (u : U G) : List Value :=
 match e with
 | .ints k => [.int k u.tI]
 | .bytes => [.int .u8 ((UInt8.ofNat u.tI.toNat).toNat : Nat)]
 | .rows fs => Zs fs u.tN
theorem En.elV_length (e : En) (u : U G) : (e.elV u).length = e.stride := by
 cases e <;> simp [En.elV, En.stride, YC]
theorem En.vals_els (e : En) (u : U G) : e.vals u = (e.els u).flatMap e.elV := by
 cases e with
 | ints k => simp [En.vals, En.els, En.elV, List.flatMap_map, <- List.map_eq_flatMap]
 | bytes =>
  simp only [En.vals, En.els, List.flatMap_map]
  rw [List.map_eq_flatMap]
  congr 1
  funext b
  simp [En.elV]
 | rows fs => simp only [En.vals, En.els, List.flatMap_map]; rfl
theorem En.elV_nel (e : En) (u : U G) : e.elV (e.nel u) = e.elV u := by
 cases e <;> simp [En.elV, En.nel]
 omega
theorem En.els_length (e : En) (u : U G) : (e.els u).length = e.len u := by cases e <;> simp [En.els, En.len]
theorem En.els_T (e : En) (u : U G) : e.els u = YY e.t u := by cases e <;> rfl
theorem En.nel_T (e : En) (u : U G) : e.nel u = ZqG e.t u := by cases e <;> rfl
theorem En.t_le (e : En) : e.t <= 2 := by cases e <;> simp [En.t]
theorem En.els_set (e : En) (x i el : SX) : e.els ((e.setX x i el).den S ρ) = (e.els (x.den S ρ)).set (i.den S ρ).tI.toNat (e.nel (el.den S ρ)) := by
 rw [En.els_T, En.els_T, En.nel_T]
 unfold En.setX
 split
 ·exact SX.setT_els S ρ e.t_le _ _ _
 ·exact ZcD S ρ e.t_le _ _ _
theorem En.els_cons (e : En) (el x : SX) : e.els ((e.consX el x).den S ρ) = e.nel (el.den S ρ) :: e.els (x.den S ρ) := by
 rw [En.els_T, En.els_T, En.nel_T]; exact SX.consT_els S ρ e.t_le _ _
theorem En.els_app (e : En) (a b : SX) : e.els ((e.appX a b).den S ρ) = e.els (a.den S ρ) ++ e.els (b.den S ρ) := by
 rw [En.els_T, En.els_T, En.els_T]; exact SX.appT_els S ρ e.t_le _ _
theorem En.els_take (e : En) (x n : SX) : e.els ((e.takeX x n).den S ρ) = (e.els (x.den S ρ)).take (n.den S ρ).tI.toNat := by
 unfold En.takeX
 cases h : SX.bq n (e.lenX x)
 ·simp only [cond_false]
  rw [En.els_T, En.els_T]
  split
  ·exact SX.takeT_els S ρ e.t_le _ _
  ·exact ZaE S ρ e.t_le _ _
 ·rw [SX.bq_eq h, En.lenX_den]
  simp only [cond_true, U.tIi, ZJu]
  rw [ZJz (by rw [En.els_length]; exact ZJd _)]
theorem En.els_drop (e : En) (x n : SX) : e.els ((e.dropX x n).den S ρ) = (e.els (x.den S ρ)).drop (n.den S ρ).tI.toNat := by
 unfold En.dropX
 cases h : SX.bq n (.int 0)
 ·simp only [cond_false]
  rw [En.els_T, En.els_T]
  split
  ·exact SX.dropT_els S ρ e.t_le _ _
  ·exact ZaM S ρ e.t_le _ _
 ·rw [SX.bq_eq h]; rfl
theorem En.els_rep (e : En) (n el : SX) : e.els ((e.repX n el).den S ρ) = List.replicate (n.den S ρ).tI.toNat (e.nel (el.den S ρ)) := by
 rw [En.els_T, En.nel_T]; exact SX.repT_els S ρ e.t_le _ _
theorem Zcv {α : Type} (f : α -> List Value) (s : Nat) (hf : ∀ a, (f a).length = s) : ∀ (l : List α) (i : Nat), (l.flatMap f).take (i * s) = (l.take i).flatMap f
 | [], i => by simp
 | a :: l, 0 => by simp
 | a :: l, i + 1 => by
  rw [List.flatMap_cons, List.take_succ_cons, List.flatMap_cons, Nat.succ_mul, List.take_append, hf, ZJz (by rw [hf]; omega), show i * s + s - s = i * s by omega, Zcv f s hf l i]
theorem Zcm {α : Type} (f : α -> List Value) (s : Nat) (hf : ∀ a, (f a).length = s) : ∀ (l : List α) (i : Nat), (l.flatMap f).drop (i * s) = (l.drop i).flatMap f
 | [], i => by simp
 | a :: l, 0 => by simp
 | a :: l, i + 1 => by
  rw [List.flatMap_cons, List.drop_succ_cons, Nat.succ_mul, List.drop_append, hf, List.drop_of_length_le (by rw [hf]; omega), show i * s + s - s = i * s by omega, Zcm f s hf l i]; rfl
theorem En.vals_take (e : En) (x n : SX) : e.vals ((e.takeX x n).den S ρ) = (e.vals (x.den S ρ)).take ((n.den S ρ).tI.toNat * e.stride) := by
 rw [En.vals_els, En.els_take, En.vals_els, Zcv _ _ (En.elV_length e)]
theorem En.vals_drop (e : En) (x n : SX) : e.vals ((e.dropX x n).den S ρ) = (e.vals (x.den S ρ)).drop ((n.den S ρ).tI.toNat * e.stride) := by
 rw [En.vals_els, En.els_drop, En.vals_els, Zcm _ _ (En.elV_length e)]
theorem En.vals_app (e : En) (a b : SX) : e.vals ((e.appX a b).den S ρ) = e.vals (a.den S ρ) ++ e.vals (b.den S ρ) := by
 rw [En.vals_els, En.els_app, List.flatMap_append, <- En.vals_els, <- En.vals_els]
theorem En.vals_cons (e : En) (a b : SX) : e.vals ((e.consX a b).den S ρ) = e.elV (a.den S ρ) ++ e.vals (b.den S ρ) := by
 rw [En.vals_els, En.els_cons, List.flatMap_cons, <- En.vals_els, En.elV_nel]
theorem En.vals_set (e : En) (x i el : SX) (hi : (i.den S ρ).tI.toNat < e.len (x.den S ρ)) : e.vals ((e.setX x i el).den S ρ) =
  (e.vals (x.den S ρ)).take ((i.den S ρ).tI.toNat * e.stride) ++ e.elV (el.den S ρ) ++ (e.vals (x.den S ρ)).drop ((i.den S ρ).tI.toNat * e.stride + e.stride) := by
 rw [En.vals_els, En.els_set, En.vals_els, Zcv _ _ (En.elV_length e), show (i.den S ρ).tI.toNat * e.stride + e.stride = ((i.den S ρ).tI.toNat + 1) * e.stride by rw [Nat.succ_mul], Zcm _ _ (En.elV_length e)]
 have hl : (i.den S ρ).tI.toNat < (e.els (x.den S ρ)).length := by rw [En.els_length]; exact hi
 rw [List.set_eq_take_append_cons_drop, if_pos hl, List.flatMap_append, List.flatMap_cons, En.elV_nel, ZJL]
theorem En.vals_rep (e : En) (n el : SX) : e.vals ((e.repX n el).den S ρ) = (List.replicate (n.den S ρ).tI.toNat (e.elV (el.den S ρ))).flatten := by
 rw [En.vals_els, En.els_rep]
 generalize (n.den S ρ).tI.toNat = k
 induction k with
 | zero => rfl
 | succ k ih => rw [List.replicate_succ, List.flatMap_cons, ih, En.elV_nel, List.replicate_succ, List.flatten_cons]
theorem Fd.enc_sound {f : Fd} {c : SC} {a : List SX} (h : f.enc c = some a) : a.length = f.width /\ ∀ r, f.val (a.map (fun e => (e.den S ρ).tI) ++ r) = c.den S ρ := by
 cases f <;> cases c <;> simp only [Fd.enc, reduceCtorEq] at h
 ·rw [ZJr] at h; split at h
  ·rename_i hk; cases h; exact ⟨rfl, fun r => by simp [Fd.val, SC.den, Zb6 (ZJo hk)]⟩
  ·cases h
 ·rename_i e
  cases h; refine ⟨rfl, fun r => ?_⟩
  simp only [ZJw, List.map_nil, Fd.val, SC.den]
  rw [SX.mk1_den]
  simp only [SX.den, ap1, U.tIi]
  cases (e.den S ρ).toBool <;> simp
 ·rw [ZJr] at h; split at h
  ·rename_i ho; cases h; refine ⟨rfl, fun r => ?_⟩
   simp [Fd.val, SC.den, ZJo ho]
  ·cases h
 ·rename_i b o k z l cc s'
  rw [ZJr] at h; split at h
  ·rename_i ho
   rw [ZJr] at h; split at h
   ·rename_i hk
    rw [ZJr] at h; split at h
    ·rename_i hz; cases h; refine ⟨rfl, fun r => ?_⟩
     rw [SX.bq_eq ho, SX.bq_eq hk, SX.bq_eq hz]
     simp [Fd.val, SC.den, SX.den]
    ·cases h
   ·cases h
  ·cases h
 ·cases h; exact ⟨rfl, fun r => by simp [Fd.val, SC.den]⟩
 ·rename_i s' x i p
  cases h; refine ⟨rfl, fun r => ?_⟩
  have d : ∀ (l : List Int) (a b : Nat), (l.drop a).getD b 0 = l.getD (a + b) 0 := fun l a b => by simp [ZJn]
  simp only [Fd.val, SC.den]
  refine Zpf ?_ ?_ ?_ ?_ ?_
  all_goals (rw [d]; rfl)
 ·cases h; refine ⟨rfl, fun r => ?_⟩
  simp only [ZJw, List.map_nil, Fd.val, SC.den]
  rw [SX.mk1_den]
  simp [SX.den, ap1, Yd]
theorem Zfa : ∀ {fs : List Fd} {cs : List SC} {l : List SX}, ZrW fs cs = some l -> Zs fs (l.map fun e => (e.den S ρ).tI) = cs.map (SC.den S ρ)
 | [], [], l, h => by cases h; rfl
 | f :: fs, c :: cs, l, h => by
  obtain ⟨a, ha, h⟩ := Zb h
  obtain ⟨b, hb, h⟩ := Zb h
  cases h
  obtain ⟨h1, h2⟩ := Fd.enc_sound S ρ ha
  simp only [Zs, ZJD, ZJw]
  rw [h2, List.drop_append, ZJx, h1, List.drop_of_length_le (by simp [h1]), Nat.sub_self, List.drop_zero, List.nil_append, Zfa hb]
 | [], _ :: _, _, h => by cases h
 | _ :: _, [], _, h => by cases h
theorem En.el_sound {asm : List SX} (ha : ∀ x ∈ asm, (x.den S ρ).tP) {e : En} {cs : List SC} {ns : List SX} {x : SX} (h : En.el asm e cs = some (ns, x)) (hn : ∀ y ∈ ns, (y.den S ρ).tP) :
  cs.map (SC.den S ρ) = e.elV (x.den S ρ) := by
 unfold En.el at h
 split at h
 ·rw [ZJr] at h; split at h
  ·rename_i hk; cases h; simp [SC.den, En.elV, Zb6 (ZJo hk)]
  ·cases h
 ·rename_i x'
  cases h
  have hr : 0 <= (x.den S ρ).tI /\ (x.den S ρ).tI <= 255 := by
   cases hb : Zim x
   ·rw [hb] at hn
    simp only [cond_false] at hn
    split at hn
    ·rename_i y
     simp only [SX.den]
     have : ap1 14 (y.den S ρ) = (.int (IntKind.u8.wrap (y.den S ρ).tI) : U G) := rfl
     rw [this]
     simp only [U.tIi, IntKind.wrap, IntKind.bits, IntKind.signed]
     simp
     omega
    ·obtain ⟨h1, hn⟩ := Za S ρ ha hn
     obtain ⟨h2, _⟩ := Za S ρ ha hn
     rw [eLe_den] at h1 h2
     exact ⟨h1, h2⟩
   ·exact Zh4 S ρ hb
  simp only [ZJw, List.map_nil, SC.den, En.elV]
  congr 2
  have : (UInt8.ofNat (x.den S ρ).tI.toNat).toNat = (x.den S ρ).tI.toNat % 256 := by simp
  rw [this]; omega
 ·obtain ⟨l, hl, h⟩ := Zb h
  cases h
  rw [Zgw]
  simp only [En.elV, U.tNi]
  exact (Zfa S ρ hl).symm
 ·cases h
/-! ### Stores -/
def ZyZ : Value -> Bool | .agg _ | .tuple _ => false | _ => true
theorem SC.den_one : ∀ (c : SC), ZyZ (c.den S ρ) = true := by
 intro c
 induction c with
 | cap g x ih _ => simp only [SC.den]; split; rfl; exact ih
 | ptr b o => simp only [SC.den]; split <;> rfl
 | _ => rfl
theorem Zxh {w : World} {a : Addr} {v u : Value} (h1 : ZyZ v = true) (hc : w.cell? a = some u) (hf : w.frozen? a = false) : (store a v).run P w = .ok () (w.setCell a v) := by
 cases v <;> simp [ZyZ] at h1 <;> simp [store, Sem.run, hc, hf]
theorem Ye (b o k : Nat) (z : Bool) (H : Zd) : ∀ (new : List Value) (i : Nat) (cs : List Value) (w : World), Sat w0 (Zg (row b o cs z) H) w -> k + i + new.length <= cs.length -> (∀ v ∈ new, ZyZ v = true) →
  ∃ w', (storeCells ⟨b, o + k, none⟩ new i).run P w = .ok () w' /\ Sat w0 (Zg (row b o (cs.take (k + i) ++ new ++ cs.drop (k + i + new.length)) z) H) w'
 | [], i, cs, w, hs, hl, h1 => ⟨w, rfl, by simpa using hs⟩
 | v :: new, i, cs, w, hs, hl, h1 => by
  simp only [ZJH] at hl
  have hlt : k + i < cs.length := by omega
  obtain ⟨hc, hf⟩ := hs.load hlt
  have hs' := hs.store hlt v
  obtain ⟨w', hrun, hs2⟩ := Ye b o k z H new (i + 1) (cs.set (k + i) v) _ hs' (by simp; omega) (fun u hu => h1 u (ZJt _ hu))
  refine ⟨w', ?_, ?_⟩
  ·have e : storeCells ⟨b, o + k, none⟩ (v :: new) i = (store (Addr.add ⟨b, o + k, none⟩ i) v).bind (fun _ => storeCells ⟨b, o + k, none⟩ new (i + 1)) := rfl
   rw [e, Sem.run_bind', Addr.add_eq, Nat.add_assoc, Zxh (P := P) (h1 v ZJv) hc hf]
   exact hrun
  ·have e : (cs.set (k + i) v).take (k + (i + 1)) ++ new ++ (cs.set (k + i) v).drop (k + (i + 1) + new.length) = cs.take (k + i) ++ (v :: new) ++ cs.drop (k + i + (new.length + 1)) := by
    rw [List.drop_set_of_lt (show k + i < k + (i + 1) + new.length by omega), show k + (i + 1) = (k + i) + 1 by omega, List.take_succ_eq_append_getElem (by simpa using hlt), List.take_set_of_le (show k + i <= k + i by omega)]
    simp
    congr 1; omega
   rw [e] at hs2
   simpa using hs2
theorem Zgo {b : SX} {lo : Nat} {cs : List SC} : ∀ {hp hp' : List Ch}, ZcR b lo cs hp = some hp' →
  ∃ l1 o old new l2, hp = l1 ++ .cel b o old :: l2 /\ hp' = l1 ++ .cel b o new :: l2 /\ o <= lo /\ lo + cs.length <= o + old.length /\ Zav old (lo - o) cs = some new
 | [], hp', h => by cases h
 | c :: l, hp', h => by
  have lift : ∀ r, ZcR b lo cs l = some r -> hp' = c :: r -> ∃ l1 o old new l2, c :: l = l1 ++ .cel b o old :: l2 /\ hp' = l1 ++ .cel b o new :: l2 /\ o <= lo /\ lo + cs.length <= o + old.length /\ Zav old (lo - o) cs = some new := by
   intro r hr he
   obtain ⟨l1, o, old, new, l2, h1, h2, h3⟩ := Zgo hr
   exact ⟨c :: l1, o, old, new, l2, by rw [h1]; rfl, by rw [he, h2]; rfl, h3⟩
  cases c with
  | cel b' o old =>
   simp only [ZcR, ZJr] at h
   split at h
   ·rename_i hb
    split at h
    ·rename_i ho
     split at h
     ·rename_i hl
      split at h
      ·rename_i new hn; cases h
       rw [<- SX.bq_eq hb]
       exact ⟨[], o, old, new, l, rfl, rfl, ZJA ho, ZJA hl, hn⟩
      ·cases h
     ·obtain ⟨r, hr, h⟩ := Zb h; cases h; exact lift r hr rfl
    ·obtain ⟨r, hr, h⟩ := Zb h; cases h; exact lift r hr rfl
   ·obtain ⟨r, hr, h⟩ := Zb h; cases h; exact lift r hr rfl
  | _ => simp only [ZcR] at h; obtain ⟨r, hr, h⟩ := Zb h; cases h; exact lift r hr rfl
theorem YM {b : SX} {e : En} {x c : SX} : ∀ {hp rest : List Ch}, ZaR b hp = some (e, x, c, rest) -> ∃ l1 l2, hp = l1 ++ .arr e b x c :: l2 /\ rest = l1 ++ l2
 | [], rest, h => by cases h
 | d :: l, rest, h => by
  have lift : ∀ r, ZaR b l = some (e, x, c, r) -> rest = d :: r -> ∃ l1 l2, d :: l = l1 ++ .arr e b x c :: l2 /\ rest = l1 ++ l2 := by
   intro r hr he
   obtain ⟨l1, l2, h1, h2⟩ := YM hr
   exact ⟨d :: l1, l2, by rw [h1]; rfl, by rw [he, h2]; rfl⟩
  cases d with
  | arr e' b' x' c' =>
   simp only [ZaR, ZJr] at h
   split at h
   ·rename_i hb; cases h; rw [<- SX.bq_eq hb]; exact ⟨[], l, rfl, rfl⟩
   ·obtain ⟨⟨a1, a2, a3, r⟩, hr, h⟩ := Zb h; cases h; exact lift r hr rfl
  | _ => simp only [ZaR] at h; obtain ⟨⟨a1, a2, a3, r⟩, hr, h⟩ := Zb h; cases h; exact lift r hr rfl
theorem Zcl {b : SX} {kk : MK} {v : MV} {m : SX} : ∀ {hp rest : List Ch}, ZaC b hp = some (kk, v, m, rest) -> ∃ l1 l2, hp = l1 ++ .map kk v b m :: l2 /\ rest = l1 ++ l2
 | [], rest, h => by cases h
 | d :: l, rest, h => by
  have lift : ∀ r, ZaC b l = some (kk, v, m, r) -> rest = d :: r -> ∃ l1 l2, d :: l = l1 ++ .map kk v b m :: l2 /\ rest = l1 ++ l2 := by
   intro r hr he
   obtain ⟨l1, l2, h1, h2⟩ := Zcl hr
   exact ⟨d :: l1, l2, by rw [h1]; rfl, by rw [he, h2]; rfl⟩
  cases d with
  | map kk' v' b' m' =>
   simp only [ZaC, ZJr] at h
   split at h
   ·rename_i hb; cases h; rw [<- SX.bq_eq hb]; exact ⟨[], l, rfl, rfl⟩
   ·obtain ⟨⟨a1, a2, a3, r⟩, hr, h⟩ := Zb h; cases h; exact lift r hr rfl
  | _ => simp only [ZaC] at h; obtain ⟨⟨a1, a2, a3, r⟩, hr, h⟩ := Zb h; cases h; exact lift r hr rfl
theorem Yf (l m : List Ch) (c : Ch) : Ze S ρ w0 (l ++ c :: m) = Zg (c.den S ρ w0) (Ze S ρ w0 (l ++ m)) := by
 unfold Ze; rw [ZJD, ZJw, Zjz, ZJD]
theorem ZjZ {F : Zd} {w : World} {b : SX} {lo : Nat} {cs : List SC} {hp hp' : List Ch} (h : ZcR b lo cs hp = some hp') (hcs : cs ≠ []) (hs : Sat w0 (Zg (Ze S ρ w0 hp) F) w) :
  0 <= (b.den S ρ).tI /\ ∃ w', (storeCells ⟨(b.den S ρ).tI.toNat, lo, none⟩ (cs.map (SC.den S ρ))).run P w = .ok () w' /\ Sat w0 (Zg (Ze S ρ w0 hp') F) w' := by
 obtain ⟨l1, o, old, new, l2, rfl, rfl, ho, hl, hput⟩ := Zgo h
 rw [Yf, Zc] at hs
 obtain ⟨h1, hs⟩ := Zt hs
 obtain ⟨hp1, hp2, hp3⟩ := Zcj S ρ _ _ _ _ hput
 have hold : old ≠ [] := by
  rintro rfl; simp at hl
  exact hcs (ZJC (by omega))
 have hb := h1.resolve_right hold
 obtain ⟨w', hrun, hs'⟩ := Ye (P := P) w0 _ o (lo - o) true _ (cs.map (SC.den S ρ)) 0 (old.map (SC.den S ρ)) w hs (by simp; omega) (fun v hv => by
  obtain ⟨c, _, rfl⟩ := List.mem_map.1 hv; exact SC.den_one S ρ c)
 refine ⟨hb, w', by rw [show o + (lo - o) = lo by omega] at hrun; exact hrun, ?_⟩
 rw [Yf, Zc]
 refine ZqK (.inl hb) ?_
 rw [hp3]
 simpa using hs'
end
end
end Go.Eng
namespace Go.Eng
noncomputable section
open Go.RowKit (Below)
section
variable {G : Type} (S : Sig G) (ρ : Env G) (w0 : World) {P : Program}
def ZjT (F : Zd) (st : St) (K : SV -> St -> VC) (w' : World) (v : Value) : Prop := ∃ ρ' sv st', Next' S w0 F st ρ ρ' st' w' /\ sv.R S ρ' v /\ (K sv st').den S ρ'
def LOk (F : Zd) (st : St) (K : SV -> St -> VC) (r : Result Next) : Prop :=
 ∃ w', (∃ v, r = .ok (.value v) w' /\ ZjT S ρ w0 F st K w' v) \/ (r = .ok .skip w' /\ ZjT S ρ w0 F st K w' undef)
theorem ZiU {st : St} (h : st.ok = true) : st.fr.all (SV.lt st.n) = true /\ st.hp.all (Ch.lt st.n) = true /\ st.asm.all (SX.lt st.n) = true := by
 unfold St.ok at h
 simp only [ZJr] at h
 split at h
 ·rename_i h1; split at h
  ·rename_i h2; exact ⟨h1, h2, h⟩
  ·cases h
 ·cases h
theorem Ys {F : Zd} {st : St} {ns facts : List SX} {ss : List Srt} {sv : SV} {c : Ch} {rest : List Ch} {w w' : World} {K : SV -> St -> VC} {v : Value} (hst : HSt S w0 F st ρ w) (hn : ∀ x ∈ ns, (x.den S ρ).tP)
  (h : (fresh (st.add ns) ss facts (K sv { st with hp := c :: rest, n := st.n + ss.length, asm := facts ++ (ns ++ st.asm) })).den S ρ) (hr : ∀ c ∈ rest, c ∈ st.hp) (us : List (U G)) (hus : us.length = ss.length)
  (hf : ∀ x ∈ facts, (x.den S (YX S ρ st.n ss us)).tP) (hs : Sat w0 (Zg (c.den S (YX S ρ st.n ss us) w0) (Zg (Ze S ρ w0 rest) F)) w') (hv : sv.R S (YX S ρ st.n ss us) v) : ZjT S ρ w0 F st K w' v := by
 obtain ⟨hok, hcont⟩ := Zb5 S ρ h
 obtain ⟨h1, h2, h3⟩ := ZiU hok
 have hE : Ext st.n ρ (YX S ρ st.n ss us) := Yv S ρ st.n ss us
 have hrest : rest.all (Ch.lt st.n) = true := List.all_eq_true.2 fun c hc => List.all_eq_true.1 h2 c (hr c hc)
 refine ⟨YX S ρ st.n ss us, sv, { st with hp := c :: rest, n := st.n + ss.length, asm := facts ++ (ns ++ st.asm) }, ⟨hE, Nat.le_add_right _ _, rfl, fun l hl => ZgD S hE h1 hl, ⟨?_, ?_⟩⟩, hv, hcont us hus hf⟩
 ·show Sat w0 (Zg (Ze S _ w0 (c :: rest)) F) w'
  rw [Zw, Zc, Zb8 S hE w0 hrest]; exact hs
 ·intro e he
  rcases List.mem_append.1 he with he | he
  ·exact hf e he
  ·have h4 : e.lt st.n = true := List.all_eq_true.1 h3 e he
   rw [SX.den_ext S hE h4]
   rcases List.mem_append.1 he with he | he
   ·exact hn e he
   ·exact hst.asm e he
theorem ZiO (n : Nat) (b : Nat) : ∀ x ∈ [eLe (.int 0) (.at .int n)], (x.den S (YX S ρ n [.int] [.int (b : Nat)])).tP := by
 intro x hx
 rw [ZJg] at hx; subst hx
 rw [eLe_den]
 simp [SX.den, YX, Env.upd, U.co]
theorem ZcV (n : Nat) (b : Int) : (SX.at .int n).den S (YX S ρ n [.int] [.int b]) = .int b := by simp [SX.den, YX, Env.upd, U.co]
theorem Zc5 {t : TypeId} {cs : List SC} (h : ZbX P t = some cs) : ∃ i z, P.info? t = some i /\ i.zero = some z /\ z.cells.toList = cs.map (SC.den S ρ) := by
 unfold ZbX at h
 split at h
 ·rename_i i hi
  split at h
  ·rename_i z hz; exact ⟨i, z, hi, hz, (Zbp S ρ h).symm⟩
  ·cases h
 ·cases h
theorem ZgU {t : TypeId} {i : TypeInfo} (hi : P.info? t = some i) : Za9 P t = some i.size := by unfold Za9; rw [hi]
theorem YS {t : TypeId} {i : TypeInfo} {z : Value} (hi : P.info? t = some i) (hz : i.zero = some z) (w : World) : (zeroValue t).run P w = .ok z w := by
 simp [zeroValue, typeInfo, hi, hz]
theorem ZV (t : TypeId) (cells : Array Value) (w : World) : (newRow t cells).run P w = .ok ⟨w.heap.size, 0, none⟩ { w with heap := w.heap.push (.cells cells t) } := by
 simp [newRow, newObj, Sem.run]
theorem ZpY {F : Zd} {st : St} {cs : List SC} {vs : Array Value} {t : TypeId} {w : World} {K : SV -> St -> VC} (hst : HSt S w0 F st ρ w)
  (h : (fresh st [.int] [eLe (.int 0) (.at .int st.n)] (K (.one (.ptr (.at .int st.n) 0)) { st with hp := .cel (.at .int st.n) 0 cs :: st.hp, n := st.n + 1, asm := eLe (.int 0) (.at .int st.n) :: st.asm })).den S ρ)
  (hlt : SCs.lt st.n cs = true) (hc : vs.toList = cs.map (SC.den S ρ)) : ZjT S ρ w0 F st K { w with heap := w.heap.push (.cells vs t) } (.pointer (some ⟨w.heap.size, 0, none⟩)) := by
 refine Ys S ρ w0 (ns := []) hst (by simp) h (fun _ h => h) [.int (w.heap.size : Nat)] rfl (ZiO S ρ _ _) ?_ ?_
 ·have := Sat.new hst.hp vs.toList t true
  rw [Array.toArray_toList] at this
  refine this.mono (fun y hy => ?_)
  refine Zo (fun h' hh => ?_) (fun _ h => h) y hy
  simp only [Ch.den, ZcV, U.tIi]
  refine ⟨.inl (by omega), ?_⟩
  rw [hc] at hh
  rw [SCs.den_ext S (Yv S ρ st.n [Srt.int] [U.int (w.heap.size : Nat)]) hlt]
  simpa using hh
 ·right
  simp only [SV.den, SC.den, ZcV, U.tIi]
  rw [if_neg (by omega)]; simp
theorem Zr8 {F : Zd} {st : St} {t : TypeId} {w : World} {K : SV -> St -> VC} {ev : Operand -> Value} {o : Oper} (ho : o.op = .alloc t) (hst : HSt S w0 F st ρ w) (h : (lop P st (.alloc t) K).den S ρ) :
  LOk S ρ w0 F st K ((execOp ev o).run P w) := by
 simp only [lop] at h
 split at h
 ·rename_i cs hz0
  cases hlt : SCs.lt st.n cs
  ·rw [hlt] at h; exact h.elim
  rw [hlt] at h
  simp only [cond_true] at h
  obtain ⟨i, z, hi, hz, hc⟩ := Zc5 S ρ hz0
  refine ⟨{ w with heap := w.heap.push (.cells z.cells t) }, .inl ⟨.pointer (some ⟨w.heap.size, 0, none⟩), ?_, ?_⟩⟩
  ·unfold execOp; rw [ho]
   refine ZH (s := Instr.alloc t true (.tuple #[])) ?_
   simp [Instr.alloc, YS hi hz, newVar, ZV]
  ·exact ZpY S ρ w0 hst h hlt hc
 ·exact h.elim
theorem ZDW {F : Zd} {st : St} {t : TypeId} {x : Operand} {w : World} {K : SV -> St -> VC} {ev : Operand -> Value} {o : Oper} (ho : o.op = .box t x) (hst : HSt S w0 F st ρ w) (hL : ∀ x, (lk st.fr x).R S ρ (ev x)) (h : (lop P st (.box t x) K).den S ρ) :
  LOk S ρ w0 F st K ((execOp ev o).run P w) := by
 simp only [lop] at h
 split at h
 ·rename_i cs hz
  cases hlt : SCs.lt st.n cs
  ·rw [hlt] at h; exact h.elim
  rw [hlt] at h
  simp only [cond_true] at h
  have hc := ZaJ S ρ hz (hL x)
  refine ⟨{ w with heap := w.heap.push (.cells (ev x).cells t) }, .inl ⟨.pointer (some ⟨w.heap.size, 0, none⟩), ?_, ?_⟩⟩
  ·unfold execOp; rw [ho]
   refine ZH (s := Instr.box t (ev x)) ?_
   simp [Instr.box, newVar, ZV]
  ·exact ZpY S ρ w0 hst h hlt hc
 ·exact h.elim
/-! ### Rows of nothing -/
theorem Zcu (z : List Value) : ∀ n : Nat, (List.range (n * z.length)).map (fun i => z[i % z.length]!) = (List.replicate n z).flatten
 | 0 => by simp
 | n + 1 => by
  rw [Nat.succ_mul, Nat.add_comm, List.range_add, ZJD, List.replicate_succ, List.flatten_cons, <- Zcu z n]
  congr 1
  ·apply List.ext_getElem (by simp)
   intro i h1 h2
   simp at h1
   simp [Nat.mod_eq_of_lt h2, h2]
  ·rw [List.map_map]
   apply List.map_congr_left
   intro i _
   simp
theorem Z4 (z : Array Value) (n : Nat) : ((Array.range (n * z.size)).map (fun i => z[i % z.size]!)).toList = (List.replicate n z.toList).flatten := by
 rw [<- Zcu]
 simp [Array.toList_map, Array.toList_range]
 intro a _
 rw [getElem!_def]
 split <;> simp_all
theorem Zt4 {asm : List SX} {e : En} {t : TypeId} {z : SX} (h : ZlX P e t = some z) : ∃ i v, P.info? t = some i /\ i.zero = some v /\ v.cells.toList = e.elV (z.den S ρ) := by
 unfold ZlX at h
 split at h
 ·rename_i cs hz
  obtain ⟨i, v, hi, hv, hc⟩ := Zc5 S ρ hz
  split at h
  ·rename_i x hx
   cases h
   exact ⟨i, v, hi, hv, by rw [hc]; exact En.el_sound S ρ (asm := []) (by simp) hx (by simp)⟩
  ·cases h
 ·cases h
theorem Znn {F : Zd} {st : St} {t : TypeId} {w : World} {K : SV -> St -> VC} {ev : Operand -> Value} {o : Oper} (ho : o.op = .makeMap t none) (hst : HSt S w0 F st ρ w) (h : (lop P st (.makeMap t none) K).den S ρ) :
  LOk S ρ w0 F st K ((execOp ev o).run P w) := by
 simp only [lop] at h
 split at h
 ·split at h
  ·rename_i kd v _ _
   split at h
   ·exact h.elim
   rename_i kk hkk
   refine ⟨{ w with heap := w.heap.push (.map #[] 0) }, .inl ⟨.map (some w.heap.size), ?_, ?_⟩⟩
   ·unfold execOp; rw [ho]
    refine ZH (s := Instr.makeMap t (Option.map ev none)) ?_
    simp [Instr.makeMap, newObj, Sem.run]
   ·refine Ys S ρ w0 (ns := []) hst (by simp) h (fun _ h => h) [.int (w.heap.size : Nat)] rfl (ZiO S ρ _ _) ?_ ?_
    ·refine (Sat.newObj hst.hp (.map #[] 0) rfl).mono (fun y hy => ?_)
     refine Zo (fun h' hh => ?_) (fun _ h => h) y hy
     simp only [Ch.den, ZcV, U.tIi]
     refine ⟨by omega, #[], 0, ⟨by simp [SX.den, ap1], by simp [SX.den, ap1], by simp [SX.den, ap1], by simp, by simp⟩, ?_⟩
     simpa using hh
    ·right
     simp only [SV.den, SC.den, ZcV, U.tIi]
     rw [if_neg (by omega)]; simp
  ·exact h.elim
 ·exact h.elim
theorem ZaZ {t : TypeId} {n : Nat} (h : Zes P t = some n) : ∃ i, P.info? t = some i /\ i.bytes = n := by
 unfold Zes at h
 split at h
 ·rename_i i hi; cases h; exact ⟨i, hi, rfl⟩
 ·cases h
theorem ZcG : ((Zls).den S ρ).tI = 140737488355328 := rfl
theorem Zmc {n : Nat} (h : n <= 140737488355328) (w : World) : (askRoom n).run P w = .ok () w := by
 unfold askRoom roomBytes
 rw [if_neg (by omega)]
 rfl
theorem Zex (k : IntKind) (n : Int) (w : World) : (asInt (.int k n)).run P w = .ok n w := by simp [asInt, asIntOf]
theorem Zp6 {F : Zd} {st : St} {ns : List SX} {en : En} {x l c : SX} {sz : Nat} {vs spare : List Value} {t : TypeId} {w : World} {K : SV -> St -> VC} (hst : HSt S w0 F st ρ w) (hn : ∀ x ∈ ns, (x.den S ρ).tP)
  (h : (fresh (st.add ns) [.int] [eLe (.int 0) (.at .int st.n)] (K (.one (.slice (.at .int st.n) (.int 0) (.int 0) (.int 0) l c sz)) { st with hp := .arr en (.at .int st.n) x c :: st.hp, n := st.n + 1, asm := eLe (.int 0) (.at .int st.n) :: (ns ++ st.asm) })).den S ρ)
  (hl : l.lt st.n = true) (hc : c.lt st.n = true) (hx : x.lt st.n = true) (hv : vs = en.vals (x.den S ρ) ++ spare) (hlen : vs.length = (c.den S ρ).tI.toNat * en.stride) (h0 : 0 <= (c.den S ρ).tI) :
  ZjT S ρ w0 F st K { w with heap := w.heap.push (.cells vs.toArray t) } (.slice (some ⟨w.heap.size, 0, none⟩) (l.den S ρ).tI.toNat (c.den S ρ).tI.toNat) := by
 have hE := Yv S ρ st.n [Srt.int] [U.int (w.heap.size : Nat)]
 refine Ys S ρ w0 hst hn h (fun _ h => h) [.int (w.heap.size : Nat)] rfl (ZiO S ρ _ _) ?_ ?_
 ·refine (Sat.new hst.hp vs t en.nf).mono (fun y hy => ?_)
  refine Zo (fun h' hh => ?_) (fun _ h => h) y hy
  simp only [Ch.den, ZcV, U.tIi]
  rw [SX.den_ext S hE hx, SX.den_ext S hE hc]
  refine ⟨spare, ?_, h0, .inl (by simp), ?_⟩
  ·rw [<- hlen, hv, ZJs]
  ·rw [<- hv]; simpa using hh
 ·right
  simp only [SV.den, SC.den, ZcV, U.tIi]
  rw [if_neg (by omega), SX.den_ext S hE hl, SX.den_ext S hE hc]
  simp [SX.den]
theorem Zi2 {F : Zd} {st : St} {t : TypeId} {x y : Operand} {w : World} {K : SV -> St -> VC} {ev : Operand -> Value} {o : Oper} (ho : o.op = .makeSlice t x y) (hst : HSt S w0 F st ρ w) (hL : ∀ x, (lk st.fr x).R S ρ (ev x)) (h : (lop P st (.makeSlice t x y) K).den S ρ) :
  LOk S ρ w0 F st K ((execOp ev o).run P w) := by
 simp only [lop] at h
 split at h
 ·rename_i et l c hu hil hic
  split at h
  ·rename_i en bytes sz hen hby hsz
   split at h
   ·rename_i z hz
    cases h1 : Nat.beq sz en.stride
    ·rw [h1] at h; exact h.elim
    cases h2 : Nat.ble 1 bytes
    ·rw [h1, h2] at h; exact h.elim
    cases h3 : l.lt st.n
    ·rw [h1, h2, h3] at h; exact h.elim
    cases h4 : c.lt st.n
    ·rw [h1, h2, h3, h4] at h; exact h.elim
    cases h5 : z.lt st.n
    ·rw [h1, h2, h3, h4, h5] at h; exact h.elim
    rw [h1, h2, h3, h4, h5] at h
    simp only [cond_true] at h
    obtain ⟨hn, hf⟩ := ZA S ρ h
    obtain ⟨k1, hev1⟩ := Z6 S ρ hil (hL x)
    obtain ⟨k2, hev2⟩ := Z6 S ρ hic (hL y)
    obtain ⟨n1, hn1⟩ := Za S ρ hst.asm hn
    obtain ⟨n2, hn2⟩ := Za S ρ hst.asm hn1
    obtain ⟨n3, _⟩ := Za S ρ hst.asm hn2
    rw [eLe_den] at n1 n2 n3
    rw [SX.mk2_den] at n3
    simp only [SX.den, ap2, U.tIi, ZcG] at n1 n3
    obtain ⟨i, v, hi, hv, hcv⟩ := Zt4 S ρ (asm := []) hz
    obtain ⟨i', hi', hb⟩ := ZaZ hby
    rw [hi] at hi'; cases hi'
    obtain ⟨i', hi', hs⟩ := YW hsz
    rw [hi] at hi'; cases hi'
    have hst1 := ZJo h1
    have hb1 := ZJA h2
    generalize hli : (l.den S ρ).tI = li at *
    generalize hci : (c.den S ρ).tI = ci at *
    have hc47 : ci <= 140737488355328 := by
     have : ci * 1 <= ci * (bytes : Int) := Int.mul_le_mul_of_nonneg_left (by omega) (by omega)
     omega
    have hcn : ci.toNat * bytes <= 140737488355328 := by
     have : ((ci.toNat * bytes : Nat) : Int) = ci * bytes := by rw [Int.natCast_mul, Int.toNat_of_nonneg (by omega)]
     omega
    have hw1 : IntKind.i64.wrap li = li := Zcg (by simp [IntKind.min, IntKind.max, IntKind.bits, IntKind.signed]; omega)
    have hw2 : IntKind.i64.wrap ci = ci := Zcg (by simp [IntKind.min, IntKind.max, IntKind.bits, IntKind.signed]; omega)
    have hzl : v.cells.size = en.stride := by
     have := congrArg List.length hcv
     rw [En.elV_length] at this; simpa using this
    let vs : List Value := (List.replicate ci.toNat v.cells.toList).flatten
    have hcells : ((Array.range (ci.toNat * i.size)).map (fun j => (if ci.toNat * i.size = 0 then #[] else v.cells)[j % (if ci.toNat * i.size = 0 then #[] else v.cells).size]!)) = vs.toArray := by
     by_cases h0 : ci.toNat * i.size = 0
     ·have : vs = [] := by
       rw [hs, hst1] at h0
       rcases Nat.mul_eq_zero.1 h0 with h0 | h0
       ·simp [vs, h0]
       ·have : v.cells.toList = [] := ZJC (by simp [hzl, h0])
        simp [vs, this]
      rw [this]; simp [h0]
     ·simp only [h0, if_false]
      rw [<- Array.toList_inj, hs, hst1, <- hzl, Z4]
    refine ⟨{ w with heap := w.heap.push (.cells vs.toArray et) }, .inl ⟨.slice (some ⟨w.heap.size, 0, none⟩) li.toNat ci.toNat, ?_, ?_⟩⟩
    ·unfold execOp; rw [ho]
     refine ZH (s := Instr.makeSlice t (ev x) (ev y)) ?_
     rw [hev1, hev2]
     have hz' : (if ci.toNat * i.size = 0 then (pure #[] : Sem (Array Value)) else do pure (<- zeroValue et).cells).run P w = .ok (if ci.toNat * i.size = 0 then #[] else v.cells) w := by
      by_cases h0 : ci.toNat * i.size = 0
      ·simp [h0]
      ·simp [h0, YS hi hv]
     have hbig : ¬ (281474976710656 < (bytes : Int) * ci) := by rw [Int.mul_comm]; omega
     have hsz' : (sizeOf et).run P w = .ok i.size w := Zm (ZgU hi) w
     simp only [Instr.makeSlice, Sem.run_bind, run_underlying hu, Result.andThen_ok, Zex, typeInfo, hw1, hw2]
     simp [hi, hb, hbig, hsz', Zmc hcn, show ¬ ci < 0 by omega, show ¬ li < 0 by omega, show ¬ ci < li by omega]
     by_cases h0 : ci.toNat * i.size = 0
     ·simp only [h0, if_true] at hcells ⊢
      rw [<- hcells, ZV]
      rfl
     ·simp only [h0, if_false] at hcells ⊢
      rw [YS hi hv, Result.andThen_ok, ZV, hcells]
      rfl
    ·have hvs : vs = en.vals ((en.repX l z).den S ρ) ++ (List.replicate (ci.toNat - li.toNat) v.cells.toList).flatten := by
      rw [En.vals_rep, <- hcv]
      rw [<- List.flatten_append, List.replicate_append_replicate]
      simp only [vs]
      congr 2
      rw [hli]
      omega
     have hlen : vs.length = ci.toNat * en.stride := by
      simp only [vs, List.length_flatten, List.map_replicate, List.sum_replicate_nat]
      simp [hzl]
     have hxlt : (en.repX l z).lt st.n = true := by exact SX.repT_lt h3 h5
     have := Zp6 S ρ w0 (t := et) hst hn hf h3 h4 hxlt hvs (by rw [hlen, hci]) (by rw [hci]; omega)
     rw [hli, hci] at this
     exact this
   ·exact h.elim
  ·exact h.elim
 ·exact h.elim
/-! ### A slice of so many elements -/
theorem Zal {st : St} {en : En} {sz : Nat} {ev : Operand -> Value} (hsz : sz = en.stride) (ha : ∀ x ∈ st.asm, (x.den S ρ).tP) (hL : ∀ x, (lk st.fr x).R S ρ (ev x)) :
  ∀ (l : List (Nat × Operand)) (k : Nat) (ns : List SX) (x : SX) (cells : Array Value),
   ((l.zipIdx k).foldr (fun (p : (Nat × Operand) × Nat) acc => match acc, Zdr (lk st.fr p.1.2) with
     | some (ns, x), some cs => bif Nat.beq p.1.1 p.2 then (match En.el st.asm en cs with | some (ns', el) => some (ns' ++ ns, en.consX el x) | none => none) else none
     | _, _ => none) (some (([] : List SX), Zq1 en))) = some (ns, x) -> (∀ y ∈ ns, (y.den S ρ).tP) -> (k + l.length) * sz <= cells.size →
   ∃ r, Instr.fill (fun i => some (i * sz, sz)) cells (l.map fun (i, y) => (i, ev y)) = some r /\ r.toList = cells.toList.take (k * sz) ++ en.vals (x.den S ρ) ++ cells.toList.drop ((k + l.length) * sz) /\ (en.vals (x.den S ρ)).length = l.length * sz
 | [], k, ns, x, cells, h, hn, hc => by
  cases h
  exact ⟨cells, rfl, by simp [YE], by simp [YE]⟩
 | (i, y) :: l, k, ns, x, cells, h, hn, hc => by
  simp only [List.zipIdx_cons, List.foldr_cons] at h
  split at h
  ·rename_i ns1 x1 cs hacc hcs
   simp only [ZJr] at h
   split at h
   ·rename_i hi
    have hi := ZJo hi
    subst hi
    split at h
    ·rename_i ns' el hel
     cases h
     have hcells := ZaJ S ρ hcs (hL y)
     have hel' := En.el_sound S ρ ha hel (fun z hz => hn z (List.mem_append_left _ hz))
     have hsize : (ev y).cells.size = sz := by
      have := congrArg List.length hcells
      rw [hel', En.elV_length, <- hsz] at this
      simpa using this
     simp only [ZJH] at hc
     have hroom : i * sz + sz <= cells.size := by
      have : i * sz + sz <= (i + (l.length + 1)) * sz := by rw [<- Nat.succ_mul]; exact ZJe _ (by omega)
      omega
     have hput : (Array.foldl (fun cs (p : Value × Nat) => cs.setIfInBounds (i * sz + p.2) p.1) cells (ev y).cells.zipIdx).toList = cells.toList.take (i * sz) ++ (ev y).cells.toList ++ cells.toList.drop (i * sz + sz) := by
      rw [<- Array.foldl_toList, Array.toList_zipIdx, Zbl (i * sz) _ 0 _ (by simp [hsize]; exact hroom)]
      simp [hsize]
     generalize hC : Array.foldl (fun cs (p : Value × Nat) => cs.setIfInBounds (i * sz + p.2) p.1) cells (ev y).cells.zipIdx = cells' at hput
     have hsz' : cells'.size = cells.size := by
      have := congrArg List.length hput
      simp [hsize] at this
      omega
     obtain ⟨r, hr, hrl, hvl⟩ := Zal hsz ha hL l (i + 1) ns1 x1 cells' hacc (fun z hz => hn z (List.mem_append_right _ hz)) (by
      rw [hsz', show i + 1 + l.length = i + (l.length + 1) by omega]; exact hc)
     refine ⟨r, ?_, ?_, ?_⟩
     rotate_left 2
     ·rw [En.vals_cons, ZJs, En.elV_length, <- hsz, hvl, ZJH, Nat.succ_mul]; omega
     ·simp only [ZJw, Instr.fill, hsize]
      rw [if_neg (by simp; omega)]
      rw [<- hr, <- hC]
     ·have hlen : (cells.toList.take (i * sz)).length = i * sz := by simp; omega
      have hlen2 : ((ev y).cells.toList).length = sz := by simp [hsize]
      rw [hrl, hput, En.vals_cons, <- hel', <- hcells]
      have e1 : (cells.toList.take (i * sz) ++ (ev y).cells.toList ++ cells.toList.drop (i * sz + sz)).take ((i + 1) * sz) = cells.toList.take (i * sz) ++ (ev y).cells.toList := by
       rw [List.take_append_of_le_length (by rw [ZJs, hlen, hlen2, Nat.succ_mul]; omega), ZJz (by rw [ZJs, hlen, hlen2, Nat.succ_mul]; omega)]
      have e2 : (cells.toList.take (i * sz) ++ (ev y).cells.toList ++ cells.toList.drop (i * sz + sz)).drop ((i + 1 + l.length) * sz) = cells.toList.drop ((i + (l.length + 1)) * sz) := by
       have h0 : (i + 1 + l.length) * sz = i * sz + sz + l.length * sz := by rw [Nat.add_mul, Nat.succ_mul]
       rw [List.drop_append, List.drop_of_length_le (by rw [ZJs, hlen, hlen2]; omega), List.nil_append, ZJs, hlen, hlen2, List.drop_drop]
       congr 1
       rw [show i + (l.length + 1) = i + 1 + l.length by omega, h0]
       omega
      rw [e1, e2]
      simp
    ·cases h
   ·cases h
  ·cases h
theorem Zhk {F : Zd} {st : St} {t : TypeId} {len : Nat} {parts : Array (Nat × Operand)} {w : World} {K : SV -> St -> VC} {ev : Operand -> Value} {o : Oper} (ho : o.op = .buildSlice t len parts) (hst : HSt S w0 F st ρ w) (hL : ∀ x, (lk st.fr x).R S ρ (ev x)) (h : (lop P st (.buildSlice t len parts) K).den S ρ) :
  LOk S ρ w0 F st K ((execOp ev o).run P w) := by
 simp only [lop] at h
 split at h
 ·rename_i et hu
  split at h
  ·rename_i en0 sz hen hszE
   generalize enP en0 (lk st.fr) parts.toList = en at h
   cases h1 : Nat.beq sz en.stride
   ·rw [h1] at h; exact h.elim
   cases h2 : Nat.beq parts.size len
   ·rw [h1, h2] at h; exact h.elim
   cases h3 : Nat.ble (len * sz) 16777216
   ·rw [h1, h2, h3] at h; exact h.elim
   cases h4 : Nat.ble 1 sz
   ·rw [h1, h2, h3, h4] at h; exact h.elim
   cases h5 : (ZbX P et).isSome
   ·rw [h1, h2, h3, h4, h5] at h; exact h.elim
   rw [h1, h2, h3, h4, h5] at h
   simp only [cond_true] at h
   split at h
   ·rename_i ns x hpar
    cases h6 : x.lt st.n
    ·rw [h6] at h; exact h.elim
    rw [h6] at h
    simp only [cond_true] at h
    obtain ⟨hn, hf⟩ := ZA S ρ h
    have hlen := ZJo h2
    have hst1 := ZJo h1
    obtain ⟨cs0, hcs0⟩ := Option.isSome_iff_exists.1 h5
    obtain ⟨i, z, hi, hz, _⟩ := Zc5 S ρ hcs0
    obtain ⟨i', hi', hs⟩ := YW hszE
    rw [hi] at hi'; cases hi'
    obtain ⟨zero, hzero⟩ : ∃ y : Array Value, y = if len * sz = 0 then #[] else z.cells := ⟨_, rfl⟩
    obtain ⟨cells, hcd⟩ : ∃ y : Array Value, y = (Array.range (len * sz)).map (zero[· % zero.size]!) := ⟨_, rfl⟩
    have hcells : cells.size = len * sz := by simp [hcd]
    obtain ⟨r, hr, hrl, hvl⟩ := Zal S ρ hst1 hst.asm hL parts.toList 0 ns x cells hpar hn (by rw [hcells]; simp [hlen])
    have hpl : parts.toList.length = len := by rw [Array.length_toList, hlen]
    have hrv : r.toList = en.vals (x.den S ρ) := by
     rw [hrl, hpl, Nat.zero_mul, Nat.zero_add, List.take_zero, List.nil_append, List.drop_of_length_le (by rw [Array.length_toList, hcells]; exact ZJd _), List.append_nil]
    have hvl' : (en.vals (x.den S ρ)).length = len * en.stride := by rw [<- hst1, <- hpl]; exact hvl
    refine ⟨{ w with heap := w.heap.push (.cells r et) }, .inl ⟨.slice (some ⟨w.heap.size, 0, none⟩) len len, ?_, ?_⟩⟩
    ·unfold execOp; rw [ho]
     refine ZH (s := Instr.buildSlice t len _) ?_
     have hz' : (if len * sz = 0 then (pure #[] : Sem (Array Value)) else do pure (<- zeroValue et).cells).run P w = .ok zero w := by
      by_cases h0 : len * sz = 0
      ·simp [h0, hzero]
      ·simp [h0, YS hi hz, hzero]
     have hparts : (parts.map fun (i, x) => (i, ev x)).toList = parts.toList.map fun (i, x) => (i, ev x) := by simp
     have hle : ¬ (len * sz > 2 ^ 24) := by have := ZJA h3; omega
     simp only [Instr.buildSlice, Sem.run_bind, run_underlying hu, Result.andThen_ok, Zm hszE, if_neg hle, Sem.run_pure, hz', hparts]
     have hr' : Instr.fill (fun i => some (i * sz, sz)) (Array.map (fun x => zero[x % zero.size]!) (Array.range (len * sz))) (List.map (fun x => (x.fst, ev x.snd)) parts.toList) = some r := by rw [<- hcd]; exact hr
     by_cases h0 : len * sz = 0
     ·rw [if_pos h0] at hzero ⊢
      subst hzero
      simp only [Sem.run_bind, Sem.run_pure, Result.andThen_ok, hr', ZV]
     ·rw [if_neg h0] at hzero ⊢
      subst hzero
      simp only [Sem.run_bind, Sem.run_pure, Result.andThen_ok, YS hi hz, hr', ZV]
    ·have := Zp6 S ρ w0 (t := et) (vs := en.vals (x.den S ρ)) (spare := []) hst hn hf rfl rfl h6 (List.append_nil _).symm (by rw [hvl']; rfl) (Int.natCast_nonneg len)
     rw [<- hrv] at this
     simpa [SX.den] using this
   ·exact h.elim
  ·exact h.elim
 ·exact h.elim
end
end
end Go.Eng
